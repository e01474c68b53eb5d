/- Functions of the program as plain Lean functions, what their calls do, and what follows of it. Conditions: each theorem's own. -/
import Derived.Test.YtjhkbmdblfdlnaaCRelayBounds0
namespace Go.Proofs.Ytjhkbmdblfdlnaa.QRlb
open Go.RowKit Go.Proofs.YtjhkbmdblfdlnaaW.PrintWords Go.Proofs.YtjhkbmdblfdlnaaW.PrintLast Go.Proofs.YtjhkbmdblfdlnaaW.PrintMore
attribute [local go_sem] max2_int min2_int max_two min_two max_three min_three max_four min_four
set_option linter.unusedVariables false
set_option linter.unusedSimpArgs false
def relay_Class.j0 : Nat → Int → Bool → Int → Int → Bool → List Int → Option (Int)
  | 0, _, _, _, _, _, _ => none
  | k + 1, x5, x14, x110000, x110001, x110002, x110003 => if x14 = true then ((addr_Vid.f x110001).bind fun t111 => (if t111 = true then (some x110001) else (some 0))) else ((addr_Vid.f x5).bind fun t112 => (if t112 = true then (some x5) else (some 0)))
def relay_Class.f (k : Nat) (a0_0 : Int) (a0_1 : Int) (a0_2 : Bool) (l0_3 : List Int) (a1_0 : Int) (a1_1 : Int) (a1_2 : Bool) (a1_3 : Int) (a1_4 : Int) (a1_5 : Int) (a1_6 : ByteArray) : Option (Int) := if a1_2 = true then (relay_Class.j0 k a1_3 (a1_3 == 0) a0_0 a0_1 a0_2 l0_3) else (relay_Class.j0 k a1_3 true a0_0 a0_1 a0_2 l0_3)
theorem relay_Class.mono_l : ∀ k, (∀ y0 y1 y2 y3 y4 y5, LeO (relay_Class.j0 k y0 y1 y2 y3 y4 y5) (relay_Class.j0 (k + 1) y0 y1 y2 y3 y4 y5))
  | 0 => fun _ _ _ _ _ _ r h => by simp [relay_Class.j0] at h
  | k + 1 => by
    have ih0 := relay_Class.mono_l k
    · intro y0 y1 y2 y3 y4 y5
      unfold relay_Class.j0
      repeat' first
      | (with_reducible exact ih0 _ _ _ _ _ _)
      | (with_reducible exact LeO.refl _)
      | (with_reducible exact LeO.none _)
      | (with_reducible refine LeO.ite ?_ ?_)
      | (with_reducible refine LeO.bind ?_ (fun _ => ?_))
      | exact ih0 _ _ _ _ _ _
      | exact LeO.none _
      | refine LeO.ite ?_ ?_
      | refine LeO.bind ?_ (fun _ => ?_)
theorem relay_Class.mono : ∀ a0 a1 a2 a3 a4 a5 a6 a7 a8 a9 a10 k, LeO (relay_Class.f k a0 a1 a2 a3 a4 a5 a6 a7 a8 a9 a10) (relay_Class.f (k + 1) a0 a1 a2 a3 a4 a5 a6 a7 a8 a9 a10) := by
  intro a0 a1 a2 a3 a4 a5 a6 a7 a8 a9 a10 k
  have ih0 := relay_Class.mono_l k
  unfold relay_Class.f
  repeat' first
      | (with_reducible exact ih0 _ _ _ _ _ _)
      | (with_reducible exact LeO.refl _)
      | (with_reducible exact LeO.none _)
      | (with_reducible refine LeO.ite ?_ ?_)
      | (with_reducible refine LeO.bind ?_ (fun _ => ?_))
      | exact ih0 _ _ _ _ _ _
      | exact LeO.none _
      | refine LeO.ite ?_ ?_
      | refine LeO.bind ?_ (fun _ => ?_)
set_option maxHeartbeats 8000000 in
set_option maxRecDepth 100000 in
theorem relay_Class.calls (k : Nat) (a0_0 : Int) (a0_1 : Int) (a0_2 : Bool) (A0_3 : Option Addr) (c0_3 : Nat) (l0_3 : List Int) (a1_0 : Int) (a1_1 : Int) (a1_2 : Bool) (a1_3 : Int) (a1_4 : Int) (a1_5 : Int) (a1_6 : ByteArray) (r : Int) (w : World) (hr0_3 : Kd.C (Kd.int .i64) w A0_3 l0_3.length l0_3) (hc0_3 : l0_3.length ≤ c0_3) (h : relay_Class.f k a0_0 a0_1 a0_2 l0_3 a1_0 a1_1 a1_2 a1_3 a1_4 a1_5 a1_6 = some r) :
    Calls Try.prog 39 #[.agg #[.int .i64 a0_0, .int .i64 a0_1, .bool a0_2, .slice A0_3 l0_3.length c0_3], .agg #[.int .i64 a1_0, .int .i64 a1_1, .bool a1_2, .int .i64 a1_3, .int .i64 a1_4, .int .i64 a1_5, .string a1_6]] w fun e w' => e = .returned (.int .i64 r) ∧ Below w.heap.size w w' := by
  have hu54 := Try.underlying54
  have hu49 := Try.underlying49
  have HR0_3 := Aside0.mk hr0_3
  have HC0_3 := Aside0.mk hc0_3
  clear hr0_3 hc0_3
  have HB := Aside0.mk (Below.refl w.heap.size w)
  have H : (if a1_2 = true then (relay_Class.j0 k a1_3 (a1_3 == 0) a0_0 a0_1 a0_2 l0_3) else (relay_Class.j0 k a1_3 true a0_0 a0_1 a0_2 l0_3)) = some r := h
  clear h
  have HC3 := Aside0.mk H
  clear H
  go_enter Try.func39, Try.ntmps39
  go_upto_region 2 with (first | ((with_reducible refine gate_dst (N := 2) rfl ?_); refine box_event ?hg (N := 2) ?hd (cs := #[.int .i64 a0_0, .int .i64 a0_1, .bool a0_2, .slice A0_3 l0_3.length c0_3]) (t := 54) ?hr ?_; (case hd => rfl); (case hg => rfl); (case hr => first | (go_simp; done) | (go_simp; rfl)); intro gb109 hg w4 hbox hb; have n0_ := Aside0.mk (below_step (by repeat (first | (with_reducible first | exact HB.out | apply below_alloc | apply pw_below_drewN | apply below_drew1) | exact HB.out)) hb); have n1_ := Aside0.mk (hbox); have n2_ := Aside0.mk ((by rw [hg]; exact (below_size (by repeat (first | (with_reducible first | exact HB.out | apply below_alloc | apply pw_below_drewN | apply below_drew1) | exact HB.out))) : w.heap.size ≤ gb109)); have n3_ := Aside0.mk ((by rw [hg]; exact (below_size (by repeat (first | (with_reducible first | exact HB.out | apply below_alloc | apply pw_below_drewN | apply below_drew1) | exact HB.out))) : w.heap.size ≤ gb109)); clear HB; have HB := n0_; have BK109 := n1_; have GW109 := n2_; have GE109 := n3_; clear n0_ n1_ n2_ n3_; clear hb hbox hg) | ((with_reducible refine gate_dst (N := 3) rfl ?_); refine box_event ?hg (N := 3) ?hd (cs := #[.int .i64 a1_0, .int .i64 a1_1, .bool a1_2, .int .i64 a1_3, .int .i64 a1_4, .int .i64 a1_5, .string a1_6]) (t := 49) ?hr ?_; (case hd => rfl); (case hg => rfl); (case hr => first | (go_simp; done) | (go_simp; rfl)); intro gb110 hg w5 hbox hb; have n0_ := Aside0.mk (blk_below (g := gb109) (o := .cells #[.int .i64 a0_0, .int .i64 a0_1, .bool a0_2, .slice A0_3 l0_3.length c0_3] 54 (0, 0)) (by (with_reducible repeat (first | refine blk_drewN ?_ _ | refine blk_drew ?_ | refine blk_alloc ?_ _)); exact BK109.out) hb); have n1_ := Aside0.mk (below_step (by repeat (first | (with_reducible first | exact HB.out | apply below_alloc | apply pw_below_drewN | apply below_drew1 | refine below_set ?_ GE109.out) | exact HB.out)) hb); have n2_ := Aside0.mk (hbox); have n3_ := Aside0.mk ((by rw [hg]; exact (below_size (by repeat (first | (with_reducible first | exact HB.out | apply below_alloc | apply pw_below_drewN | apply below_drew1 | refine below_set ?_ GE109.out) | exact HB.out))) : w.heap.size ≤ gb110)); have n4_ := Aside0.mk ((by rw [hg]; exact (below_size (by repeat (first | (with_reducible first | exact HB.out | apply below_alloc | apply pw_below_drewN | apply below_drew1 | refine below_set ?_ GE109.out) | exact HB.out))) : w.heap.size ≤ gb110)); have n5_ := Aside0.mk ((by rw [hg]; exact Nat.ne_of_lt (blk_lt (g := gb109) (o := .cells #[.int .i64 a0_0, .int .i64 a0_1, .bool a0_2, .slice A0_3 l0_3.length c0_3] 54 (0, 0)) (by (with_reducible repeat (first | refine blk_drewN ?_ _ | refine blk_drew ?_ | refine blk_alloc ?_ _)); exact BK109.out)) : gb109 ≠ gb110)); have n6_ := Aside0.mk ((by rw [hg]; exact Nat.ne_of_gt (blk_lt (g := gb109) (o := .cells #[.int .i64 a0_0, .int .i64 a0_1, .bool a0_2, .slice A0_3 l0_3.length c0_3] 54 (0, 0)) (by (with_reducible repeat (first | refine blk_drewN ?_ _ | refine blk_drew ?_ | refine blk_alloc ?_ _)); exact BK109.out)) : gb110 ≠ gb109)); clear BK109; clear HB; have BK109 := n0_; have HB := n1_; have BK110 := n2_; have GW110 := n3_; have GE110 := n4_; have NB109_110 := n5_; have NB110_109 := n6_; clear n0_ n1_ n2_ n3_ n4_ n5_ n6_; clear hb hbox hg; have hnb6 := NB110_109.out; have hnc6 := NB109_110.out; have hcz7_0 : w5.cell? ⟨gb110, 0, none⟩ = some (.int .i64 a1_0) := (blk_cell BK110.out 0).trans rfl; have hcz7_1 : w5.cell? ⟨gb110, 1, none⟩ = some (.int .i64 a1_1) := (blk_cell BK110.out 1).trans rfl; have hcz7_2 : w5.cell? ⟨gb110, 2, none⟩ = some (.bool a1_2) := (blk_cell BK110.out 2).trans rfl; have hcz7_3 : w5.cell? ⟨gb110, 3, none⟩ = some (.int .i64 a1_3) := (blk_cell BK110.out 3).trans rfl; have hcz7_4 : w5.cell? ⟨gb110, 4, none⟩ = some (.int .i64 a1_4) := (blk_cell BK110.out 4).trans rfl; have hcz7_5 : w5.cell? ⟨gb110, 5, none⟩ = some (.int .i64 a1_5) := (blk_cell BK110.out 5).trans rfl; have hcz7_6 : w5.cell? ⟨gb110, 6, none⟩ = some (.string a1_6) := (blk_cell BK110.out 6).trans rfl; have hfz7_0 := blk_frozen BK110.out 0; have hfz7_1 := blk_frozen BK110.out 1; have hfz7_2 := blk_frozen BK110.out 2; have hfz7_3 := blk_frozen BK110.out 3; have hfz7_4 := blk_frozen BK110.out 4; have hfz7_5 := blk_frozen BK110.out 5; have hfz7_6 := blk_frozen BK110.out 6))
  (try simp only [Act.put, List.setIfInBounds_toArray, List.set_cons_zero, List.set_cons_succ])
  go_cut [14] (fun v14 wc => ∃ (kq : Nat) (x14_2 : Bool), v14 = .bool x14_2 ∧ Aside0 (relay_Class.j0 kq a1_3 x14_2 a0_0 a0_1 a0_2 l0_3 = some r) ∧ Aside0 (kq ≤ k) ∧ Aside0 (wc.heap[gb109]? = some (.cells #[.int .i64 a0_0, .int .i64 a0_1, .bool a0_2, (.slice A0_3 l0_3.length c0_3)] 54 (0, 0))) ∧ Aside0 (wc.heap[gb110]? = some (.cells #[.int .i64 a1_0, .int .i64 a1_1, .bool a1_2, .int .i64 a1_3, .int .i64 a1_4, .int .i64 a1_5, .string a1_6] 49 (0, 0))) ∧ Aside0 (Below w.heap.size w wc))
  case first =>
    have H := HC3.out
    clear HC3
    by_cases c8 : a1_2 = true
    · subst c8
      have H1 : (relay_Class.j0 k a1_3 (a1_3 == 0) a0_0 a0_1 a0_2 l0_3) = some r := by rw [if_pos rfl] at H; exact H
      clear H
      have H := H1
      clear H1
      have H' := Aside0.mk H
      clear H
      have hnb9 := NB110_109.out
      have hnc9 := NB109_110.out
      have hcz10_0 : w5.cell? ⟨gb110, 0, none⟩ = some (.int .i64 a1_0) := (blk_cell BK110.out 0).trans rfl
      have hcz10_1 : w5.cell? ⟨gb110, 1, none⟩ = some (.int .i64 a1_1) := (blk_cell BK110.out 1).trans rfl
      have hcz10_2 : w5.cell? ⟨gb110, 2, none⟩ = some (.bool true) := (blk_cell BK110.out 2).trans rfl
      have hcz10_3 : w5.cell? ⟨gb110, 3, none⟩ = some (.int .i64 a1_3) := (blk_cell BK110.out 3).trans rfl
      have hcz10_4 : w5.cell? ⟨gb110, 4, none⟩ = some (.int .i64 a1_4) := (blk_cell BK110.out 4).trans rfl
      have hcz10_5 : w5.cell? ⟨gb110, 5, none⟩ = some (.int .i64 a1_5) := (blk_cell BK110.out 5).trans rfl
      have hcz10_6 : w5.cell? ⟨gb110, 6, none⟩ = some (.string a1_6) := (blk_cell BK110.out 6).trans rfl
      have hfz10_0 := blk_frozen BK110.out 0
      have hfz10_1 := blk_frozen BK110.out 1
      have hfz10_2 := blk_frozen BK110.out 2
      have hfz10_3 := blk_frozen BK110.out 3
      have hfz10_4 := blk_frozen BK110.out 4
      have hfz10_5 := blk_frozen BK110.out 5
      have hfz10_6 := blk_frozen BK110.out 6
      go_wp2
      go_meet
      case rel => exact ⟨_, ((a1_3 == 0)), (by first | rfl | (simp; done) | (simp [*]; done)), H', ⟨by first | omega | exact Nat.le_refl _⟩, ⟨by (with_reducible repeat (first | refine blk_drewN ?_ _ | refine blk_drew ?_ | refine blk_alloc ?_ _)); exact BK109.out⟩, ⟨by (with_reducible repeat (first | refine blk_drewN ?_ _ | refine blk_drew ?_ | refine blk_alloc ?_ _)); exact BK110.out⟩, ⟨by repeat (first | (with_reducible first | exact HB.out | apply below_alloc | apply pw_below_drewN | apply below_drew1 | refine below_set ?_ GE109.out | refine below_set ?_ GE110.out) | exact HB.out)⟩⟩
    · replace c8 := Bool.eq_false_iff.mpr c8
      subst c8
      have H1 : (relay_Class.j0 k a1_3 true a0_0 a0_1 a0_2 l0_3) = some r := by rw [if_neg (show ¬ (false = true) by decide)] at H; exact H
      clear H
      have H := H1
      clear H1
      have H' := Aside0.mk H
      clear H
      have hnb11 := NB110_109.out
      have hnc11 := NB109_110.out
      have hcz12_0 : w5.cell? ⟨gb110, 0, none⟩ = some (.int .i64 a1_0) := (blk_cell BK110.out 0).trans rfl
      have hcz12_1 : w5.cell? ⟨gb110, 1, none⟩ = some (.int .i64 a1_1) := (blk_cell BK110.out 1).trans rfl
      have hcz12_2 : w5.cell? ⟨gb110, 2, none⟩ = some (.bool false) := (blk_cell BK110.out 2).trans rfl
      have hcz12_3 : w5.cell? ⟨gb110, 3, none⟩ = some (.int .i64 a1_3) := (blk_cell BK110.out 3).trans rfl
      have hcz12_4 : w5.cell? ⟨gb110, 4, none⟩ = some (.int .i64 a1_4) := (blk_cell BK110.out 4).trans rfl
      have hcz12_5 : w5.cell? ⟨gb110, 5, none⟩ = some (.int .i64 a1_5) := (blk_cell BK110.out 5).trans rfl
      have hcz12_6 : w5.cell? ⟨gb110, 6, none⟩ = some (.string a1_6) := (blk_cell BK110.out 6).trans rfl
      have hfz12_0 := blk_frozen BK110.out 0
      have hfz12_1 := blk_frozen BK110.out 1
      have hfz12_2 := blk_frozen BK110.out 2
      have hfz12_3 := blk_frozen BK110.out 3
      have hfz12_4 := blk_frozen BK110.out 4
      have hfz12_5 := blk_frozen BK110.out 5
      have hfz12_6 := blk_frozen BK110.out 6
      go_wp2
      go_meet
      case rel => exact ⟨_, (true), (by first | rfl | (simp; done) | (simp [*]; done)), H', ⟨by first | omega | exact Nat.le_refl _⟩, ⟨by (with_reducible repeat (first | refine blk_drewN ?_ _ | refine blk_drew ?_ | refine blk_alloc ?_ _)); exact BK109.out⟩, ⟨by (with_reducible repeat (first | refine blk_drewN ?_ _ | refine blk_drew ?_ | refine blk_alloc ?_ _)); exact BK110.out⟩, ⟨by repeat (first | (with_reducible first | exact HB.out | apply below_alloc | apply pw_below_drewN | apply below_drew1 | refine below_set ?_ GE109.out | refine below_set ?_ GE110.out) | exact HB.out)⟩⟩
  case rest =>
    clear HC3
    try clear c1
    try clear p2
    try clear c3
    try clear c6
    try clear c8
    try clear c9
    try clear c11
    try clear hcz10_0
    try clear hcz10_1
    try clear hcz10_2
    try clear hcz10_3
    try clear hcz10_4
    try clear hcz10_5
    try clear hcz10_6
    try clear hcz12_0
    try clear hcz12_1
    try clear hcz12_2
    try clear hcz12_3
    try clear hcz12_4
    try clear hcz12_5
    try clear hcz12_6
    try clear hcz7_0
    try clear hcz7_1
    try clear hcz7_2
    try clear hcz7_3
    try clear hcz7_4
    try clear hcz7_5
    try clear hcz7_6
    try clear hfz10_0
    try clear hfz10_1
    try clear hfz10_2
    try clear hfz10_3
    try clear hfz10_4
    try clear hfz10_5
    try clear hfz10_6
    try clear hfz12_0
    try clear hfz12_1
    try clear hfz12_2
    try clear hfz12_3
    try clear hfz12_4
    try clear hfz12_5
    try clear hfz12_6
    try clear hfz7_0
    try clear hfz7_1
    try clear hfz7_2
    try clear hfz7_3
    try clear hfz7_4
    try clear hfz7_5
    try clear hfz7_6
    obtain ⟨kq, x14_2, rfl, HA, HJ2, BK109, BK110, HB⟩ := hcut
    cases kq with
    | zero => exact absurd HA.out (by simp [relay_Class.j0])
    | succ kj2 =>
      have H := HA.out
      clear HA
      simp only [relay_Class.j0] at H
      by_cases c13 : x14_2 = true
      · subst c13
        have H1 : ((addr_Vid.f a0_1).bind fun t111 => (if t111 = true then (some a0_1) else (some 0))) = some r := by rw [if_pos rfl] at H; exact H
        clear H
        have H := H1
        clear H1
        replace H := Option.bind_eq_some_iff.mp H
        obtain ⟨t111, A140, H⟩ := H
        replace H : (if t111 = true then (some a0_1) else (some 0)) = some r := H
        have A14 := Aside0.mk A140
        clear A140
        by_cases c15 : t111 = true
        · subst c15
          have H1 : (some a0_1) = some r := by rw [if_pos rfl] at H; exact H
          clear H
          have H := H1
          clear H1
          obtain rfl := Option.some.inj H
          have hnb16 := NB109_110.out
          have hnc16 := NB110_109.out
          have hcz17_0 : wc.cell? ⟨gb109, 0, none⟩ = some (.int .i64 a0_0) := (blk_cell BK109.out 0).trans rfl
          have hcz17_1 : wc.cell? ⟨gb109, 1, none⟩ = some (.int .i64 a0_1) := (blk_cell BK109.out 1).trans rfl
          have hcz17_2 : wc.cell? ⟨gb109, 2, none⟩ = some (.bool a0_2) := (blk_cell BK109.out 2).trans rfl
          have hcz17_3 : wc.cell? ⟨gb109, 3, none⟩ = some (.slice A0_3 l0_3.length c0_3) := (blk_cell BK109.out 3).trans rfl
          have hfz17_0 := blk_frozen BK109.out 0
          have hfz17_1 := blk_frozen BK109.out 1
          have hfz17_2 := blk_frozen BK109.out 2
          have hfz17_3 := blk_frozen BK109.out 3
          go_wp2_with (first | ((with_reducible refine gate_callee (f := 52) rfl ?_); refine goesL_ (some 18) rfl rfl Try.func52 (by kernel_rfl) rfl #[.int .i64 a0_1] rfl (by (try simp only [List.map_toArray, List.map_cons, List.map_nil]); first | done | rfl | (simp only [List.length_drop, List.length_take]; rfl)) ?_; (with_reducible refine (addr_Vid.calls a0_1 true _ A14.out).mono ?_); rintro e w' ⟨rfl, ⟨nd, rfl⟩⟩; refine ⟨_, rfl, ?_⟩))
          go_ret
          exact ⟨by first | rfl | (simp [errW_none, errW_some] <;> rfl) | (simp [*, errW_none, errW_some] <;> rfl), by repeat (first | (with_reducible first | exact HB.out | apply below_alloc | apply pw_below_drewN | apply below_drew1 | refine below_set ?_ GE109.out | refine below_set ?_ GE110.out) | exact HB.out)⟩
        · replace c15 := Bool.eq_false_iff.mpr c15
          subst c15
          have H1 : (some 0) = some r := by rw [if_neg (show ¬ (false = true) by decide)] at H; exact H
          clear H
          have H := H1
          clear H1
          obtain rfl := Option.some.inj H
          have hnb18 := NB109_110.out
          have hnc18 := NB110_109.out
          have hcz19_0 : wc.cell? ⟨gb109, 0, none⟩ = some (.int .i64 a0_0) := (blk_cell BK109.out 0).trans rfl
          have hcz19_1 : wc.cell? ⟨gb109, 1, none⟩ = some (.int .i64 a0_1) := (blk_cell BK109.out 1).trans rfl
          have hcz19_2 : wc.cell? ⟨gb109, 2, none⟩ = some (.bool a0_2) := (blk_cell BK109.out 2).trans rfl
          have hcz19_3 : wc.cell? ⟨gb109, 3, none⟩ = some (.slice A0_3 l0_3.length c0_3) := (blk_cell BK109.out 3).trans rfl
          have hfz19_0 := blk_frozen BK109.out 0
          have hfz19_1 := blk_frozen BK109.out 1
          have hfz19_2 := blk_frozen BK109.out 2
          have hfz19_3 := blk_frozen BK109.out 3
          go_wp2_with (first | ((with_reducible refine gate_callee (f := 52) rfl ?_); refine goesL_ (some 18) rfl rfl Try.func52 (by kernel_rfl) rfl #[.int .i64 a0_1] rfl (by (try simp only [List.map_toArray, List.map_cons, List.map_nil]); first | done | rfl | (simp only [List.length_drop, List.length_take]; rfl)) ?_; (with_reducible refine (addr_Vid.calls a0_1 false _ A14.out).mono ?_); rintro e w' ⟨rfl, ⟨nd, rfl⟩⟩; refine ⟨_, rfl, ?_⟩))
          go_ret
          exact ⟨by first | rfl | (simp [errW_none, errW_some] <;> rfl) | (simp [*, errW_none, errW_some] <;> rfl), by repeat (first | (with_reducible first | exact HB.out | apply below_alloc | apply pw_below_drewN | apply below_drew1 | refine below_set ?_ GE109.out | refine below_set ?_ GE110.out) | exact HB.out)⟩
      · replace c13 := Bool.eq_false_iff.mpr c13
        subst c13
        have H1 : ((addr_Vid.f a1_3).bind fun t112 => (if t112 = true then (some a1_3) else (some 0))) = some r := by rw [if_neg (show ¬ (false = true) by decide)] at H; exact H
        clear H
        have H := H1
        clear H1
        replace H := Option.bind_eq_some_iff.mp H
        obtain ⟨t112, A200, H⟩ := H
        replace H : (if t112 = true then (some a1_3) else (some 0)) = some r := H
        have A20 := Aside0.mk A200
        clear A200
        by_cases c21 : t112 = true
        · subst c21
          have H1 : (some a1_3) = some r := by rw [if_pos rfl] at H; exact H
          clear H
          have H := H1
          clear H1
          obtain rfl := Option.some.inj H
          go_wp2_with (first | ((with_reducible refine gate_callee (f := 52) rfl ?_); refine goesL_ (some 18) rfl rfl Try.func52 (by kernel_rfl) rfl #[.int .i64 a1_3] rfl (by (try simp only [List.map_toArray, List.map_cons, List.map_nil]); first | done | rfl | (simp only [List.length_drop, List.length_take]; rfl)) ?_; (with_reducible refine (addr_Vid.calls a1_3 true _ A20.out).mono ?_); rintro e w' ⟨rfl, ⟨nd, rfl⟩⟩; refine ⟨_, rfl, ?_⟩))
          go_ret
          exact ⟨by first | rfl | (simp [errW_none, errW_some] <;> rfl) | (simp [*, errW_none, errW_some] <;> rfl), by repeat (first | (with_reducible first | exact HB.out | apply below_alloc | apply pw_below_drewN | apply below_drew1 | refine below_set ?_ GE109.out | refine below_set ?_ GE110.out) | exact HB.out)⟩
        · replace c21 := Bool.eq_false_iff.mpr c21
          subst c21
          have H1 : (some 0) = some r := by rw [if_neg (show ¬ (false = true) by decide)] at H; exact H
          clear H
          have H := H1
          clear H1
          obtain rfl := Option.some.inj H
          go_wp2_with (first | ((with_reducible refine gate_callee (f := 52) rfl ?_); refine goesL_ (some 18) rfl rfl Try.func52 (by kernel_rfl) rfl #[.int .i64 a1_3] rfl (by (try simp only [List.map_toArray, List.map_cons, List.map_nil]); first | done | rfl | (simp only [List.length_drop, List.length_take]; rfl)) ?_; (with_reducible refine (addr_Vid.calls a1_3 false _ A20.out).mono ?_); rintro e w' ⟨rfl, ⟨nd, rfl⟩⟩; refine ⟨_, rfl, ?_⟩))
          go_ret
          exact ⟨by first | rfl | (simp [errW_none, errW_some] <;> rfl) | (simp [*, errW_none, errW_some] <;> rfl), by repeat (first | (with_reducible first | exact HB.out | apply below_alloc | apply pw_below_drewN | apply below_drew1 | refine below_set ?_ GE109.out | refine below_set ?_ GE110.out) | exact HB.out)⟩
def relay_Port_member.l0 : Nat → Int → List Int → Int → Int → Option (Bool)
  | 0, _, _, _, _ => none
  | k + 1, x1, x8, x9, x10 => if x10 < x9 then (if 0 ≤ x10 then (if x10 < (x8.length : Int) then (if (rd x8 x10) = x1 then (some true) else (relay_Port_member.l0 k x1 x8 x9 (wrap64 (x10 + 1)))) else (none)) else (none)) else (some false)
def relay_Port_member.f (k : Nat) (a0_0 : Int) (a0_1 : Int) (a0_2 : Bool) (l0_3 : List Int) (a1 : Int) : Option (Bool) := relay_Port_member.l0 k a1 l0_3 (l0_3.length : Int) 0
theorem relay_Port_member.mono_l : ∀ k, (∀ y0 y1 y2 y3, LeO (relay_Port_member.l0 k y0 y1 y2 y3) (relay_Port_member.l0 (k + 1) y0 y1 y2 y3))
  | 0 => fun _ _ _ _ r h => by simp [relay_Port_member.l0] at h
  | k + 1 => by
    have ih0 := relay_Port_member.mono_l k
    · intro y0 y1 y2 y3
      unfold relay_Port_member.l0
      repeat' first
      | (with_reducible exact ih0 _ _ _ _)
      | (with_reducible exact LeO.refl _)
      | (with_reducible exact LeO.none _)
      | (with_reducible refine LeO.ite ?_ ?_)
      | (with_reducible refine LeO.bind ?_ (fun _ => ?_))
      | exact ih0 _ _ _ _
      | exact LeO.none _
      | refine LeO.ite ?_ ?_
      | refine LeO.bind ?_ (fun _ => ?_)
theorem relay_Port_member.mono : ∀ a0 a1 a2 a3 a4 k, LeO (relay_Port_member.f k a0 a1 a2 a3 a4) (relay_Port_member.f (k + 1) a0 a1 a2 a3 a4) := by
  intro a0 a1 a2 a3 a4 k
  have ih0 := relay_Port_member.mono_l k
  unfold relay_Port_member.f
  repeat' first
      | (with_reducible exact ih0 _ _ _ _)
      | (with_reducible exact LeO.refl _)
      | (with_reducible exact LeO.none _)
      | (with_reducible refine LeO.ite ?_ ?_)
      | (with_reducible refine LeO.bind ?_ (fun _ => ?_))
      | exact ih0 _ _ _ _
      | exact LeO.none _
      | refine LeO.ite ?_ ?_
      | refine LeO.bind ?_ (fun _ => ?_)
set_option maxHeartbeats 8000000 in
set_option maxRecDepth 100000 in
theorem relay_Port_member.calls (k : Nat) (a0_0 : Int) (a0_1 : Int) (a0_2 : Bool) (A0_3 : Option Addr) (c0_3 : Nat) (l0_3 : List Int) (a1 : Int) (r : Bool) (w : World) (hr0_3 : Kd.C (Kd.int .i64) w A0_3 l0_3.length l0_3) (hc0_3 : l0_3.length ≤ c0_3) (h : relay_Port_member.f k a0_0 a0_1 a0_2 l0_3 a1 = some r) :
    Calls Try.prog 54 #[.agg #[.int .i64 a0_0, .int .i64 a0_1, .bool a0_2, .slice A0_3 l0_3.length c0_3], .int .i64 a1] w fun e w' => e = .returned (.bool r) ∧ Below w.heap.size w w' := by
  have hu54 := Try.underlying54
  have HR0_3 := Aside0.mk hr0_3
  have HC0_3 := Aside0.mk hc0_3
  clear hr0_3 hc0_3
  have HB := Aside0.mk (Below.refl w.heap.size w)
  have H : (relay_Port_member.l0 k a1 l0_3 (l0_3.length : Int) 0) = some r := h
  clear h
  have H' := Aside0.mk H
  clear H
  go_enter Try.func54, Try.ntmps54
  go_wp2_with (first | ((with_reducible refine gate_dst (N := 2) rfl ?_); refine box_event ?hg (N := 2) ?hd (cs := #[.int .i64 a0_0, .int .i64 a0_1, .bool a0_2, .slice A0_3 l0_3.length c0_3]) (t := 54) ?hr ?_; (case hd => rfl); (case hg => rfl); (case hr => first | (go_simp; done) | (go_simp; rfl)); intro gb113 hg w3 hbox hb; have n0_ := Aside0.mk (below_step (by repeat (first | (with_reducible first | exact HB.out | apply below_alloc | apply pw_below_drewN | apply below_drew1) | exact HB.out)) hb); have n1_ := Aside0.mk (hbox); have n2_ := Aside0.mk ((by rw [hg]; exact (below_size (by repeat (first | (with_reducible first | exact HB.out | apply below_alloc | apply pw_below_drewN | apply below_drew1) | exact HB.out))) : w.heap.size ≤ gb113)); have n3_ := Aside0.mk ((by rw [hg]; exact (below_size (by repeat (first | (with_reducible first | exact HB.out | apply below_alloc | apply pw_below_drewN | apply below_drew1) | exact HB.out))) : w.heap.size ≤ gb113)); clear HB; have HB := n0_; have BK113 := n1_; have GW113 := n2_; have GE113 := n3_; clear n0_ n1_ n2_ n3_; clear hb hbox hg; have hcz4_0 : w3.cell? ⟨gb113, 0, none⟩ = some (.int .i64 a0_0) := (blk_cell BK113.out 0).trans rfl; have hcz4_1 : w3.cell? ⟨gb113, 1, none⟩ = some (.int .i64 a0_1) := (blk_cell BK113.out 1).trans rfl; have hcz4_2 : w3.cell? ⟨gb113, 2, none⟩ = some (.bool a0_2) := (blk_cell BK113.out 2).trans rfl; have hcz4_3 : w3.cell? ⟨gb113, 3, none⟩ = some (.slice A0_3 l0_3.length c0_3) := (blk_cell BK113.out 3).trans rfl; have hfz4_0 := blk_frozen BK113.out 0; have hfz4_1 := blk_frozen BK113.out 1; have hfz4_2 := blk_frozen BK113.out 2; have hfz4_3 := blk_frozen BK113.out 3))
  go_loopg [10] k (fun kq v10 w' => ∃ (x10_1 : Int), v10 = .int .i64 x10_1 ∧ Aside0 (relay_Port_member.l0 kq a1 l0_3 (l0_3.length : Int) x10_1 = some r) ∧ Aside0 (kq ≤ k) ∧ Aside0 (w'.heap[gb113]? = some (.cells #[.int .i64 a0_0, .int .i64 a0_1, .bool a0_2, (.slice A0_3 l0_3.length c0_3)] 54 (0, 0))) ∧ Aside0 (Below w.heap.size w w'))
  case atStart => exact ⟨(0), (by first | rfl | (simp; done) | (simp [*]; done)), H', ⟨Nat.le_refl _⟩, ⟨by (with_reducible repeat (first | refine blk_drewN ?_ _ | refine blk_drew ?_ | refine blk_alloc ?_ _)); exact BK113.out⟩, ⟨by repeat (first | (with_reducible first | exact HB.out | apply below_alloc | apply pw_below_drewN | apply below_drew1 | refine below_set ?_ GE113.out) | exact HB.out)⟩⟩
  case round =>
    clear H'
    try clear p2
    try clear hcz4_0
    try clear hcz4_1
    try clear hcz4_2
    try clear hcz4_3
    try clear hfz4_0
    try clear hfz4_1
    try clear hfz4_2
    try clear hfz4_3
    obtain ⟨x10_1, rfl, HA, HK1, BK113, HB⟩ := hrel
    cases gk with
    | zero => exact absurd HA.out (by simp [relay_Port_member.l0])
    | succ k1 =>
      have H := HA.out
      clear HA
      simp only [relay_Port_member.l0] at H
      by_cases c5 : x10_1 < (l0_3.length : Int)
      · rw [if_pos c5] at H
        have c5b0 : decide (x10_1 < (l0_3.length : Int)) = true := decide_eq_true c5
        clear c5
        by_cases c6 : 0 ≤ x10_1
        · rw [if_pos c6] at H
          have c6b0 : decide (0 ≤ x10_1) = true := decide_eq_true c6
          clear c6
          by_cases c7 : x10_1 < (l0_3.length : Int)
          · rw [if_pos c7] at H
            have c7b0 : decide (x10_1 < (l0_3.length : Int)) = true := decide_eq_true c7
            clear c7
            by_cases c8 : (rd l0_3 x10_1) = a1
            · rw [if_pos c8] at H
              have c8b0 : ((rd l0_3 x10_1) == a1) = true := beq_iff_eq.mpr c8
              have c8b1 : ((rd l0_3 x10_1) != a1) = false := bne_eq_false_iff_eq.mpr c8
              clear c8
              obtain rfl := Option.some.inj H
              have p114 : 0 ≤ (x10_1 : Int) := of_decide_eq_true (by first | (with_reducible assumption) | assumption)
              have q114 : x10_1 < (l0_3.length : Int) := of_decide_eq_true (by first | (with_reducible assumption) | assumption)
              obtain ⟨ad114, e114, hx114_0⟩ := Kd.at_int HR0_3.out x10_1 p114 q114
              cases e114
              replace hx114_0 := (HB.out.cell (World.block_lt_of_cell? w _ hx114_0)).trans hx114_0
              replace p114 := eq_true p114
              replace q114 := eq_true q114
              go_wp2
              go_ret
              exact ⟨by first | rfl | (simp [errW_none, errW_some] <;> rfl) | (simp [*, errW_none, errW_some] <;> rfl), by repeat (first | (with_reducible first | exact HB.out | apply below_alloc | apply pw_below_drewN | apply below_drew1 | refine below_set ?_ GE113.out) | exact HB.out)⟩
            · rw [if_neg c8] at H
              have c8b0 : ((rd l0_3 x10_1) == a1) = false := beq_eq_false_iff_ne.mpr c8
              have c8b1 : ((rd l0_3 x10_1) != a1) = true := bne_iff_ne.mpr c8
              have H' := Aside0.mk H
              clear H
              have p114 : 0 ≤ (x10_1 : Int) := of_decide_eq_true (by first | (with_reducible assumption) | assumption)
              have q114 : x10_1 < (l0_3.length : Int) := of_decide_eq_true (by first | (with_reducible assumption) | assumption)
              obtain ⟨ad114, e114, hx114_0⟩ := Kd.at_int HR0_3.out x10_1 p114 q114
              cases e114
              replace hx114_0 := (HB.out.cell (World.block_lt_of_cell? w _ hx114_0)).trans hx114_0
              replace p114 := eq_true p114
              replace q114 := eq_true q114
              go_wp2
              go_roundg k1
              case measure => have := HK1.out; omega
              case rel => exact ⟨(wrap64 (x10_1 + 1)), (by first | rfl | (simp; done) | (simp [*]; done)), H', ⟨by have := HK1.out; omega⟩, ⟨by (with_reducible repeat (first | refine blk_drewN ?_ _ | refine blk_drew ?_ | refine blk_alloc ?_ _)); exact BK113.out⟩, ⟨by repeat (first | (with_reducible first | exact HB.out | apply below_alloc | apply pw_below_drewN | apply below_drew1 | refine below_set ?_ GE113.out) | exact HB.out)⟩⟩
          · rw [if_neg c7] at H
            exact absurd H (by simp)
        · rw [if_neg c6] at H
          exact absurd H (by simp)
      · rw [if_neg c5] at H
        have c5b0 : decide (x10_1 < (l0_3.length : Int)) = false := decide_eq_false c5
        clear c5
        obtain rfl := Option.some.inj H
        go_wp2
        go_ret
        exact ⟨by first | rfl | (simp [errW_none, errW_some] <;> rfl) | (simp [*, errW_none, errW_some] <;> rfl), by repeat (first | (with_reducible first | exact HB.out | apply below_alloc | apply pw_below_drewN | apply below_drew1 | refine below_set ?_ GE113.out) | exact HB.out)⟩
mutual
def relay_targets.j0 : Nat → List (S54) → Int → Int → List Int → Int → Option (List Int)
  | 0, _, _, _, _, _ => none
  | k + 1, x0, x1, x2, x11, x12 => relay_targets.l0 k x1 x2 x11 x12 x0 (x0.length : Int) 0
def relay_targets.l0 : Nat → Int → Int → List Int → Int → List (S54) → Int → Int → Option (List Int)
  | 0, _, _, _, _, _, _, _ => none
  | k + 1, x1, x2, x11, x12, x22, x23, x24 => if x24 < x23 then (if 0 ≤ x24 then (if x24 < (x22.length : Int) then (if x24 = x1 then (relay_targets.j2 k x1 x2 x11 x12 x24 x22 x23 x24 true) else (if ((rd_T54 x22 x24).f0) = 2 then ((relay_Port_member.f k ((rd_T54 x22 x24).f0) ((rd_T54 x22 x24).f1) ((rd_T54 x22 x24).f2) ((rd_T54 x22 x24).f3) x2).bind fun t119 => (relay_targets.j2 k x1 x2 x11 x12 x24 x22 x23 x24 (!t119))) else (relay_targets.j2 k x1 x2 x11 x12 x24 x22 x23 x24 true))) else (none)) else (none)) else (some x11)
def relay_targets.j2 : Nat → Int → Int → List Int → Int → Int → List (S54) → Int → Int → Bool → Option (List Int)
  | 0, _, _, _, _, _, _, _, _, _ => none
  | k + 1, x1, x2, x11, x12, x13, x22, x23, x24, x29 => if x29 = true then (relay_targets.l0 k x1 x2 x11 x12 x22 x23 (wrap64 (x24 + 1))) else (if x12 ≥ 0 then (if x12 = x13 then (if x11.length < 17592186044416 then (relay_targets.l0 k x1 x2 (x11 ++ [x13]) x12 x22 x23 (wrap64 (x24 + 1))) else (none)) else (relay_targets.l0 k x1 x2 x11 x12 x22 x23 (wrap64 (x24 + 1)))) else (if x11.length < 17592186044416 then (relay_targets.l0 k x1 x2 (x11 ++ [x13]) x12 x22 x23 (wrap64 (x24 + 1))) else (none)))
end
def relay_targets.f (k : Nat) (l0 : List (S54)) (a1 : Int) (a2 : Int) (a3 : Int) (l4 : List (S84)) : Option (List Int) := (addr_Many.f a3).bind fun t115 => (if t115 = true then (relay_targets.j0 k l0 a1 a2 ([] : List Int) (-1)) else ((fdb_Table_Find.f l4 a2 a3).bind fun t116 => (relay_targets.j0 k l0 a1 a2 ([] : List Int) t116)))
theorem relay_targets.mono_l : ∀ k, (∀ y0 y1 y2 y3 y4, LeO (relay_targets.j0 k y0 y1 y2 y3 y4) (relay_targets.j0 (k + 1) y0 y1 y2 y3 y4)) ∧ (∀ y0 y1 y2 y3 y4 y5 y6, LeO (relay_targets.l0 k y0 y1 y2 y3 y4 y5 y6) (relay_targets.l0 (k + 1) y0 y1 y2 y3 y4 y5 y6)) ∧ (∀ y0 y1 y2 y3 y4 y5 y6 y7 y8, LeO (relay_targets.j2 k y0 y1 y2 y3 y4 y5 y6 y7 y8) (relay_targets.j2 (k + 1) y0 y1 y2 y3 y4 y5 y6 y7 y8))
  | 0 => ⟨fun _ _ _ _ _ r h => by simp [relay_targets.j0] at h, fun _ _ _ _ _ _ _ r h => by simp [relay_targets.l0] at h, fun _ _ _ _ _ _ _ _ _ r h => by simp [relay_targets.j2] at h⟩
  | k + 1 => by
    obtain ⟨ih0, ih1, ih2⟩ := relay_targets.mono_l k
    refine ⟨?_, ?_, ?_⟩
    · intro y0 y1 y2 y3 y4
      unfold relay_targets.j0
      repeat' first
      | (with_reducible exact ih0 _ _ _ _ _)
      | (with_reducible exact ih1 _ _ _ _ _ _ _)
      | (with_reducible exact ih2 _ _ _ _ _ _ _ _ _)
      | (with_reducible exact relay_Port_member.mono _ _ _ _ _ _)
      | (with_reducible exact LeO.refl _)
      | (with_reducible exact LeO.none _)
      | (with_reducible refine LeO.ite ?_ ?_)
      | (with_reducible refine LeO.bind ?_ (fun _ => ?_))
      | exact ih0 _ _ _ _ _
      | exact ih1 _ _ _ _ _ _ _
      | exact ih2 _ _ _ _ _ _ _ _ _
      | exact relay_Port_member.mono _ _ _ _ _ _
      | exact LeO.none _
      | refine LeO.ite ?_ ?_
      | refine LeO.bind ?_ (fun _ => ?_)
    · intro y0 y1 y2 y3 y4 y5 y6
      unfold relay_targets.l0
      repeat' first
      | (with_reducible exact ih0 _ _ _ _ _)
      | (with_reducible exact ih1 _ _ _ _ _ _ _)
      | (with_reducible exact ih2 _ _ _ _ _ _ _ _ _)
      | (with_reducible exact relay_Port_member.mono _ _ _ _ _ _)
      | (with_reducible exact LeO.refl _)
      | (with_reducible exact LeO.none _)
      | (with_reducible refine LeO.ite ?_ ?_)
      | (with_reducible refine LeO.bind ?_ (fun _ => ?_))
      | exact ih0 _ _ _ _ _
      | exact ih1 _ _ _ _ _ _ _
      | exact ih2 _ _ _ _ _ _ _ _ _
      | exact relay_Port_member.mono _ _ _ _ _ _
      | exact LeO.none _
      | refine LeO.ite ?_ ?_
      | refine LeO.bind ?_ (fun _ => ?_)
    · intro y0 y1 y2 y3 y4 y5 y6 y7 y8
      unfold relay_targets.j2
      repeat' first
      | (with_reducible exact ih0 _ _ _ _ _)
      | (with_reducible exact ih1 _ _ _ _ _ _ _)
      | (with_reducible exact ih2 _ _ _ _ _ _ _ _ _)
      | (with_reducible exact relay_Port_member.mono _ _ _ _ _ _)
      | (with_reducible exact LeO.refl _)
      | (with_reducible exact LeO.none _)
      | (with_reducible refine LeO.ite ?_ ?_)
      | (with_reducible refine LeO.bind ?_ (fun _ => ?_))
      | exact ih0 _ _ _ _ _
      | exact ih1 _ _ _ _ _ _ _
      | exact ih2 _ _ _ _ _ _ _ _ _
      | exact relay_Port_member.mono _ _ _ _ _ _
      | exact LeO.none _
      | refine LeO.ite ?_ ?_
      | refine LeO.bind ?_ (fun _ => ?_)
theorem relay_targets.mono : ∀ a0 a1 a2 a3 a4 k, LeO (relay_targets.f k a0 a1 a2 a3 a4) (relay_targets.f (k + 1) a0 a1 a2 a3 a4) := by
  intro a0 a1 a2 a3 a4 k
  obtain ⟨ih0, ih1, ih2⟩ := relay_targets.mono_l k
  unfold relay_targets.f
  repeat' first
      | (with_reducible exact ih0 _ _ _ _ _)
      | (with_reducible exact ih1 _ _ _ _ _ _ _)
      | (with_reducible exact ih2 _ _ _ _ _ _ _ _ _)
      | (with_reducible exact relay_Port_member.mono _ _ _ _ _ _)
      | (with_reducible exact LeO.refl _)
      | (with_reducible exact LeO.none _)
      | (with_reducible refine LeO.ite ?_ ?_)
      | (with_reducible refine LeO.bind ?_ (fun _ => ?_))
      | exact ih0 _ _ _ _ _
      | exact ih1 _ _ _ _ _ _ _
      | exact ih2 _ _ _ _ _ _ _ _ _
      | exact relay_Port_member.mono _ _ _ _ _ _
      | exact LeO.none _
      | refine LeO.ite ?_ ?_
      | refine LeO.bind ?_ (fun _ => ?_)
set_option maxHeartbeats 8000000 in
set_option maxRecDepth 100000 in
theorem relay_targets.calls (k : Nat) (A0 : Option Addr) (c0 : Nat) (l0 : List (S54)) (a1 : Int) (a2 : Int) (a3 : Int) (v4 : Value) (l4 : List (S84)) (r : List Int) (w : World) (hr0 : Kd.C k54 w A0 l0.length l0) (hc0 : l0.length ≤ c0) (hr4 : TabC w v4 l4) (h : relay_targets.f k l0 a1 a2 a3 l4 = some r) :
    Calls Try.prog 40 #[.slice A0 l0.length c0, .int .i64 a1, .int .i64 a2, .int .i64 a3, v4] w fun e w' => ∃ v0_ : Value, e = .returned (v0_) ∧ Kd.R (Kd.int .i64) 3 w' w.heap.size (fun _ => True) v0_ r ∧ Below w.heap.size w w' := by
  have hu54 := Try.underlying54
  have HR0 := Aside0.mk hr0
  have HC0 := Aside0.mk hc0
  clear hr0 hc0
  have HR4 := Aside0.mk hr4
  clear hr4
  have HB := Aside0.mk (Below.refl w.heap.size w)
  have H : ((addr_Many.f a3).bind fun t115 => (if t115 = true then (relay_targets.j0 k l0 a1 a2 ([] : List Int) (-1)) else ((fdb_Table_Find.f l4 a2 a3).bind fun t116 => (relay_targets.j0 k l0 a1 a2 ([] : List Int) t116)))) = some r := h
  clear h
  replace H := Option.bind_eq_some_iff.mp H
  obtain ⟨t115, A60, H⟩ := H
  replace H : (if t115 = true then (relay_targets.j0 k l0 a1 a2 ([] : List Int) (-1)) else ((fdb_Table_Find.f l4 a2 a3).bind fun t116 => (relay_targets.j0 k l0 a1 a2 ([] : List Int) t116))) = some r := H
  have A6 := Aside0.mk A60
  clear A60
  have HC7 := Aside0.mk H
  clear H
  go_enter Try.func40, Try.ntmps40
  go_wp2
  apply wp_scope_straight
  go_upto_if 17 with (first | ((with_reducible refine gate_callee (f := 50) rfl ?_); refine goesL_ (some 16) rfl rfl Try.func50 (by kernel_rfl) rfl #[.int .i64 a3] rfl (by (try simp only [List.map_toArray, List.map_cons, List.map_nil]); first | done | rfl | (simp only [List.length_drop, List.length_take]; rfl)) ?_; (with_reducible refine (addr_Many.calls a3 t115 _ A6.out).mono ?_); rintro e w' ⟨rfl, ⟨nd, rfl⟩⟩; refine ⟨_, rfl, ?_⟩))
  (try simp only [Act.put, List.setIfInBounds_toArray, List.set_cons_zero, List.set_cons_succ])
  go_cut [12] (fun v12 wc => ∃ (kq : Nat) (x12_6 : Int), v12 = .int .i64 x12_6 ∧ Aside0 (relay_targets.j0 kq l0 a1 a2 ([] : List Int) x12_6 = some r) ∧ Aside0 (kq ≤ k) ∧ Aside0 (Kd.R (Kd.int .i64) 3 wc w.heap.size (fun _ => True) (.slice none 0 0) ([] : List Int)) ∧ Aside0 (Below w.heap.size w wc))
  case first =>
    have H := HC7.out
    clear HC7
    by_cases c8 : t115 = true
    · subst c8
      have H1 : (relay_targets.j0 k l0 a1 a2 ([] : List Int) (-1)) = some r := by rw [if_pos rfl] at H; exact H
      clear H
      have H := H1
      clear H1
      have H' := Aside0.mk H
      clear H
      go_wp2
      go_meet
      case rel => exact ⟨_, ((-1)), (by first | rfl | (simp; done) | (simp [*]; done)), H', ⟨by first | omega | exact Nat.le_refl _⟩, ⟨by first | exact Kd.R_nil _ _ _ _ _ | exact Kd.N_nil _ _ _ _ _ | exact Kd.V_nil _ _ _ _ _ | exact Kd.Q_nil _ _ _ _ _ | exact Kd.S_nil _ _ _ _ _⟩, ⟨by repeat (first | (with_reducible first | exact HB.out | apply below_alloc | apply pw_below_drewN | apply below_drew1) | exact HB.out)⟩⟩
    · replace c8 := Bool.eq_false_iff.mpr c8
      subst c8
      have H1 : ((fdb_Table_Find.f l4 a2 a3).bind fun t116 => (relay_targets.j0 k l0 a1 a2 ([] : List Int) t116)) = some r := by rw [if_neg (show ¬ (false = true) by decide)] at H; exact H
      clear H
      have H := H1
      clear H1
      replace H := Option.bind_eq_some_iff.mp H
      obtain ⟨t116, A90, H⟩ := H
      replace H : (relay_targets.j0 k l0 a1 a2 ([] : List Int) t116) = some r := H
      have A9 := Aside0.mk A90
      clear A90
      have H' := Aside0.mk H
      clear H
      go_wp2_with (first | ((with_reducible refine gate_callee (f := 53) rfl ?_); refine goesL_ (some 21) rfl rfl Try.func53 (by kernel_rfl) rfl #[v4, .int .i64 a2, .int .i64 a3] rfl (by (try simp only [List.map_toArray, List.map_cons, List.map_nil]); first | done | rfl | (simp only [List.length_drop, List.length_take]; rfl)) ?_; (with_reducible refine (fdb_Table_Find.calls _ l4 a2 a3 t116 _ ?side1 A9.out).mono ?_); (case side1 => repeat (first | exact (TabC.below HR4.out HB.out) | (with_reducible refine TabC.alloc ?_ _) | (with_reducible refine TabC.drewN ?_ _) | (with_reducible refine TabC.drew ?_))); rintro e w10 ⟨rfl, hb⟩; refine ⟨_, rfl, ?_⟩; have n0_ := Aside0.mk (below_step (by repeat (first | (with_reducible first | exact HB.out | apply below_alloc | apply pw_below_drewN | apply below_drew1) | exact HB.out)) hb); clear HB; have HB := n0_; clear n0_; (try clear hb); (try clear hb2); (try clear hk); (try clear hi)))
      go_meet
      case rel => exact ⟨_, (t116), (by first | rfl | (simp; done) | (simp [*]; done)), H', ⟨by first | omega | exact Nat.le_refl _⟩, ⟨by first | exact Kd.R_nil _ _ _ _ _ | exact Kd.N_nil _ _ _ _ _ | exact Kd.V_nil _ _ _ _ _ | exact Kd.Q_nil _ _ _ _ _ | exact Kd.S_nil _ _ _ _ _⟩, ⟨by repeat (first | (with_reducible first | exact HB.out | apply below_alloc | apply pw_below_drewN | apply below_drew1) | exact HB.out)⟩⟩
  case rest =>
    clear HC7
    try clear p2
    try clear c4
    try clear c5
    try clear c8
    obtain ⟨kq, x12_6, rfl, HA, HJ6, HO_11, HB⟩ := hcut
    cases kq with
    | zero => exact absurd HA.out (by simp [relay_targets.j0])
    | succ kj6 =>
      have H := HA.out
      clear HA
      simp only [relay_targets.j0] at H
      have H' := Aside0.mk H
      clear H
      go_wp2
      apply wp_label
      go_wp2
      go_loopg [11, 24] kj6 (fun kq v11 v24 w' => ∃ (x11_2 : List Int) (x24_2 : Int), v24 = .int .i64 x24_2 ∧ Aside0 (relay_targets.l0 kq a1 a2 x11_2 x12_6 l0 (l0.length : Int) x24_2 = some r) ∧ Aside0 (kq ≤ kj6) ∧ Aside0 (Kd.R (Kd.int .i64) 3 w' w.heap.size (fun _ => True) v11 x11_2) ∧ Aside0 (Below w.heap.size w w'))
      case atStart => exact ⟨(([] : List Int)), (0), (by first | rfl | (simp; done) | (simp [*]; done)), H', ⟨Nat.le_refl _⟩, ⟨by (with_reducible repeat (first | apply Kd.R_alloc | apply Kd.R_drewN | apply Kd.R_drew)); exact HO_11.out⟩, ⟨by repeat (first | (with_reducible first | exact HB.out | apply below_alloc | apply pw_below_drewN | apply below_drew1) | exact HB.out)⟩⟩
      case round =>
        clear H'
        try clear p2
        try clear c4
        try clear c5
        try clear c8
        try clear p2
        obtain ⟨x11_2, x24_2, rfl, HA, HK2, HO_11, HB⟩ := hrel
        cases gk with
        | zero => exact absurd HA.out (by simp [relay_targets.l0])
        | succ k2 =>
          have H := HA.out
          clear HA
          simp only [relay_targets.l0] at H
          by_cases c11 : x24_2 < (l0.length : Int)
          · rw [if_pos c11] at H
            have c11b0 : decide (x24_2 < (l0.length : Int)) = true := decide_eq_true c11
            clear c11
            by_cases c12 : 0 ≤ x24_2
            · rw [if_pos c12] at H
              have c12b0 : decide (0 ≤ x24_2) = true := decide_eq_true c12
              clear c12
              by_cases c13 : x24_2 < (l0.length : Int)
              · rw [if_pos c13] at H
                have c13b0 : decide (x24_2 < (l0.length : Int)) = true := decide_eq_true c13
                clear c13
                have HC14 := Aside0.mk H
                clear H
                have p117 : 0 ≤ (x24_2 : Int) := of_decide_eq_true (by first | (with_reducible assumption) | assumption)
                have q117 : x24_2 < (l0.length : Int) := of_decide_eq_true (by first | (with_reducible assumption) | assumption)
                obtain ⟨ad117, A117_3, c117_3, e117, hx117_0, hx117_1, hx117_2, hx117_3, hl117_3, hi117_3⟩ := at_T54 HR0.out x24_2 p117 q117
                cases e117
                replace hx117_0 := (HB.out.cell (World.block_lt_of_cell? w _ hx117_0)).trans hx117_0
                replace hx117_1 := (HB.out.cell (World.block_lt_of_cell? w _ hx117_1)).trans hx117_1
                replace hx117_2 := (HB.out.cell (World.block_lt_of_cell? w _ hx117_2)).trans hx117_2
                replace hx117_3 := (HB.out.cell (World.block_lt_of_cell? w _ hx117_3)).trans hx117_3
                have HR117_3 := Aside0.mk hi117_3
                have HC117_3 := Aside0.mk hl117_3
                clear hi117_3 hl117_3
                replace p117 := eq_true p117
                replace q117 := eq_true q117
                go_upto_region 8 with (first | ((with_reducible refine gate_dst (N := 14) rfl ?_); refine box_event ?hg (N := 14) ?hd (cs := #[.int .i64 0, .int .i64 0, .bool false, .slice none 0 0]) (t := 54) ?hr ?_; (case hd => rfl); (case hg => rfl); (case hr => first | (go_simp; done) | (go_simp; rfl)); intro gb118 hg w15 hbox hb; have n0_ := Aside0.mk (Kd.R_below (by (with_reducible repeat (first | apply Kd.R_alloc | apply Kd.R_drewN | apply Kd.R_drew)); exact HO_11.out) hb); have n1_ := Aside0.mk (below_step (by repeat (first | (with_reducible first | exact HB.out | apply below_alloc | apply pw_below_drewN | apply below_drew1) | exact HB.out)) hb); have n2_ := Aside0.mk (hbox); have n3_ := Aside0.mk ((by rw [hg]; exact (below_size (by repeat (first | (with_reducible first | exact HB.out | apply below_alloc | apply pw_below_drewN | apply below_drew1) | exact HB.out))) : w.heap.size ≤ gb118)); have n4_ := Aside0.mk ((by rw [hg]; exact (below_size (by repeat (first | (with_reducible first | exact HB.out | apply below_alloc | apply pw_below_drewN | apply below_drew1) | exact HB.out))) : w.heap.size ≤ gb118)); clear HO_11; clear HB; have HO_11 := n0_; have HB := n1_; have BK118 := n2_; have GW118 := n3_; have GE118 := n4_; clear n0_ n1_ n2_ n3_ n4_; clear hb hbox hg; have hcz16_0 : w15.cell? ⟨gb118, 0, none⟩ = some (.int .i64 0) := (blk_cell BK118.out 0).trans rfl; have hcz16_1 : w15.cell? ⟨gb118, 1, none⟩ = some (.int .i64 0) := (blk_cell BK118.out 1).trans rfl; have hcz16_2 : w15.cell? ⟨gb118, 2, none⟩ = some (.bool false) := (blk_cell BK118.out 2).trans rfl; have hcz16_3 : w15.cell? ⟨gb118, 3, none⟩ = some (.slice none 0 0) := (blk_cell BK118.out 3).trans rfl; have hfz16_0 := blk_frozen BK118.out 0; have hfz16_1 := blk_frozen BK118.out 1; have hfz16_2 := blk_frozen BK118.out 2; have hfz16_3 := blk_frozen BK118.out 3))
                (try simp only [Act.put, List.setIfInBounds_toArray, List.set_cons_zero, List.set_cons_succ])
                go_cut [29] (fun v29 wc => ∃ (kq : Nat) (x29_13 : Bool), v29 = .bool x29_13 ∧ Aside0 (relay_targets.j2 kq a1 a2 x11_2 x12_6 x24_2 l0 (l0.length : Int) x24_2 x29_13 = some r) ∧ Aside0 (kq ≤ k2) ∧ Aside0 (Kd.R (Kd.int .i64) 3 wc w.heap.size (fun _ => True) u11 x11_2) ∧ Aside0 (wc.heap[gb118]? = some (.cells #[.int .i64 ((rd_T54 l0 x24_2).f0), .int .i64 ((rd_T54 l0 x24_2).f1), .bool ((rd_T54 l0 x24_2).f2), (.slice A117_3 ((rd_T54 l0 x24_2).f3).length c117_3)] 54 (0, 0))) ∧ Aside0 (Below w.heap.size w wc))
                case first =>
                  have H := HC14.out
                  clear HC14
                  by_cases c17 : x24_2 = a1
                  · rw [if_pos c17] at H
                    have c17b0 : (x24_2 == a1) = true := beq_iff_eq.mpr c17
                    have c17b1 : (x24_2 != a1) = false := bne_eq_false_iff_eq.mpr c17
                    clear c17
                    (first | rw [c17b0] | (simp only [i64_w, i32_w]; rw [c17b0]) | skip)
                    have H' := Aside0.mk H
                    clear H
                    go_wp2
                    go_meet
                    case rel => exact ⟨_, (true), (by first | rfl | (simp; done) | (simp [*]; done)), H', ⟨by have := HJ6.out; have := HK2.out; first | omega | exact Nat.le_refl _⟩, ⟨by (with_reducible repeat (first | apply Kd.R_alloc | apply Kd.R_drewN | apply Kd.R_drew)); exact Kd.R_mono (Kd.R_far (p := ⟨gb118, 3, none⟩) (Kd.R_far (p := ⟨gb118, 2, none⟩) (Kd.R_far (p := ⟨gb118, 1, none⟩) (Kd.R_far (p := ⟨gb118, 0, none⟩) (Kd.R_types HO_11.out BK118.out (by decide)) (fun _ hk => hk.2) (.int .i64 ((rd_T54 l0 x24_2).f0))) (fun _ hk => hk.2) (.int .i64 ((rd_T54 l0 x24_2).f1))) (fun _ hk => hk.2) (.bool ((rd_T54 l0 x24_2).f2))) (fun _ hk => hk.2) (.slice A117_3 ((rd_T54 l0 x24_2).f3).length c117_3)) (fun _ hk => trivial)⟩, ⟨by (with_reducible repeat (first | refine blk_drewN ?_ _ | refine blk_drew ?_ | refine blk_alloc ?_ _)); refine blk_put (cs := #[.int .i64 ((rd_T54 l0 x24_2).f0), .int .i64 ((rd_T54 l0 x24_2).f1), .bool ((rd_T54 l0 x24_2).f2), .slice none 0 0]) ?_ 3 _ rfl; (with_reducible repeat (first | refine blk_drewN ?_ _ | refine blk_drew ?_ | refine blk_alloc ?_ _)); refine blk_put (cs := #[.int .i64 ((rd_T54 l0 x24_2).f0), .int .i64 ((rd_T54 l0 x24_2).f1), .bool false, .slice none 0 0]) ?_ 2 _ rfl; (with_reducible repeat (first | refine blk_drewN ?_ _ | refine blk_drew ?_ | refine blk_alloc ?_ _)); refine blk_put (cs := #[.int .i64 ((rd_T54 l0 x24_2).f0), .int .i64 0, .bool false, .slice none 0 0]) ?_ 1 _ rfl; (with_reducible repeat (first | refine blk_drewN ?_ _ | refine blk_drew ?_ | refine blk_alloc ?_ _)); refine blk_put (cs := #[.int .i64 0, .int .i64 0, .bool false, .slice none 0 0]) ?_ 0 _ rfl; (with_reducible repeat (first | refine blk_drewN ?_ _ | refine blk_drew ?_ | refine blk_alloc ?_ _)); exact BK118.out⟩, ⟨by repeat (first | (with_reducible first | exact HB.out | apply below_alloc | apply pw_below_drewN | apply below_drew1 | refine below_set ?_ GE118.out) | exact HB.out)⟩⟩
                  · rw [if_neg c17] at H
                    have c17b0 : (x24_2 == a1) = false := beq_eq_false_iff_ne.mpr c17
                    have c17b1 : (x24_2 != a1) = true := bne_iff_ne.mpr c17
                    (first | rw [c17b0] | (simp only [i64_w, i32_w]; rw [c17b0]) | skip)
                    by_cases c18 : ((rd_T54 l0 x24_2).f0) = 2
                    · rw [if_pos c18] at H
                      have c18b0 : (((rd_T54 l0 x24_2).f0) == 2) = true := beq_iff_eq.mpr c18
                      have c18b1 : (((rd_T54 l0 x24_2).f0) != 2) = false := bne_eq_false_iff_eq.mpr c18
                      clear c18
                      replace H := Option.bind_eq_some_iff.mp H
                      obtain ⟨t119, A190, H⟩ := H
                      replace H : (relay_targets.j2 k2 a1 a2 x11_2 x12_6 x24_2 l0 (l0.length : Int) x24_2 (!t119)) = some r := H
                      have A19 := Aside0.mk A190
                      clear A190
                      have H' := Aside0.mk H
                      clear H
                      have hcz20_0 : w15.cell? ⟨gb118, 0, none⟩ = some (.int .i64 0) := (blk_cell BK118.out 0).trans rfl
                      have hcz20_1 : w15.cell? ⟨gb118, 1, none⟩ = some (.int .i64 0) := (blk_cell BK118.out 1).trans rfl
                      have hcz20_2 : w15.cell? ⟨gb118, 2, none⟩ = some (.bool false) := (blk_cell BK118.out 2).trans rfl
                      have hcz20_3 : w15.cell? ⟨gb118, 3, none⟩ = some (.slice none 0 0) := (blk_cell BK118.out 3).trans rfl
                      have hfz20_0 := blk_frozen BK118.out 0
                      have hfz20_1 := blk_frozen BK118.out 1
                      have hfz20_2 := blk_frozen BK118.out 2
                      have hfz20_3 := blk_frozen BK118.out 3
                      go_wp2_with (first | (go_at_call 54; (with_reducible refine (relay_Port_member.calls k2 ((rd_T54 l0 x24_2).f0) ((rd_T54 l0 x24_2).f1) ((rd_T54 l0 x24_2).f2) _ _ ((rd_T54 l0 x24_2).f3) a2 t119 _ ?side1 ?side2 A19.out).mono ?_); (case side1 => exact Kd.C_below HR117_3.out (by repeat (first | (with_reducible first | exact HB.out | apply below_alloc | apply pw_below_drewN | apply below_drew1 | refine below_set ?_ GE118.out) | exact HB.out))); (case side2 => exact HC117_3.out); rintro e w21 ⟨rfl, hb⟩; have n0_ := Aside0.mk (Kd.R_below (by (with_reducible repeat (first | apply Kd.R_alloc | apply Kd.R_drewN | apply Kd.R_drew)); exact (Kd.R_mono (Kd.R_far (p := ⟨gb118, 3, none⟩) (Kd.R_far (p := ⟨gb118, 2, none⟩) (Kd.R_far (p := ⟨gb118, 1, none⟩) (Kd.R_far (p := ⟨gb118, 0, none⟩) (Kd.R_types HO_11.out BK118.out (by decide)) (fun _ hk => hk.2) (.int .i64 ((rd_T54 l0 x24_2).f0))) (fun _ hk => hk.2) (.int .i64 ((rd_T54 l0 x24_2).f1))) (fun _ hk => hk.2) (.bool ((rd_T54 l0 x24_2).f2))) (fun _ hk => hk.2) (.slice A117_3 ((rd_T54 l0 x24_2).f3).length c117_3)) (fun _ h_ => h_.1))) hb); have n1_ := Aside0.mk (blk_below (g := gb118) (o := .cells #[.int .i64 ((rd_T54 l0 x24_2).f0), .int .i64 ((rd_T54 l0 x24_2).f1), .bool ((rd_T54 l0 x24_2).f2), .slice A117_3 ((rd_T54 l0 x24_2).f3).length c117_3] 54 (0, 0)) (by (with_reducible repeat (first | refine blk_drewN ?_ _ | refine blk_drew ?_ | refine blk_alloc ?_ _)); refine blk_put (cs := #[.int .i64 ((rd_T54 l0 x24_2).f0), .int .i64 ((rd_T54 l0 x24_2).f1), .bool ((rd_T54 l0 x24_2).f2), .slice none 0 0]) ?_ 3 _ rfl; (with_reducible repeat (first | refine blk_drewN ?_ _ | refine blk_drew ?_ | refine blk_alloc ?_ _)); refine blk_put (cs := #[.int .i64 ((rd_T54 l0 x24_2).f0), .int .i64 ((rd_T54 l0 x24_2).f1), .bool false, .slice none 0 0]) ?_ 2 _ rfl; (with_reducible repeat (first | refine blk_drewN ?_ _ | refine blk_drew ?_ | refine blk_alloc ?_ _)); refine blk_put (cs := #[.int .i64 ((rd_T54 l0 x24_2).f0), .int .i64 0, .bool false, .slice none 0 0]) ?_ 1 _ rfl; (with_reducible repeat (first | refine blk_drewN ?_ _ | refine blk_drew ?_ | refine blk_alloc ?_ _)); refine blk_put (cs := #[.int .i64 0, .int .i64 0, .bool false, .slice none 0 0]) ?_ 0 _ rfl; (with_reducible repeat (first | refine blk_drewN ?_ _ | refine blk_drew ?_ | refine blk_alloc ?_ _)); exact BK118.out) hb); have n2_ := Aside0.mk (below_step (by repeat (first | (with_reducible first | exact HB.out | apply below_alloc | apply pw_below_drewN | apply below_drew1 | refine below_set ?_ GE118.out) | exact HB.out)) hb); clear HO_11; clear BK118; clear HB; have HO_11 := n0_; have BK118 := n1_; have HB := n2_; clear n0_ n1_ n2_; (try clear hb); (try clear hb2); (try clear hk); (try clear hi)))
                      go_meet
                      case rel => exact ⟨_, (!t119), (by first | rfl | (simp; done) | (simp [*]; done)), H', ⟨by have := HJ6.out; have := HK2.out; first | omega | exact Nat.le_refl _⟩, ⟨by (with_reducible repeat (first | apply Kd.R_alloc | apply Kd.R_drewN | apply Kd.R_drew)); exact HO_11.out⟩, ⟨by (with_reducible repeat (first | refine blk_drewN ?_ _ | refine blk_drew ?_ | refine blk_alloc ?_ _)); exact BK118.out⟩, ⟨by repeat (first | (with_reducible first | exact HB.out | apply below_alloc | apply pw_below_drewN | apply below_drew1 | refine below_set ?_ GE118.out) | exact HB.out)⟩⟩
                    · rw [if_neg c18] at H
                      have c18b0 : (((rd_T54 l0 x24_2).f0) == 2) = false := beq_eq_false_iff_ne.mpr c18
                      have c18b1 : (((rd_T54 l0 x24_2).f0) != 2) = true := bne_iff_ne.mpr c18
                      have H' := Aside0.mk H
                      clear H
                      have hcz22_0 : w15.cell? ⟨gb118, 0, none⟩ = some (.int .i64 0) := (blk_cell BK118.out 0).trans rfl
                      have hcz22_1 : w15.cell? ⟨gb118, 1, none⟩ = some (.int .i64 0) := (blk_cell BK118.out 1).trans rfl
                      have hcz22_2 : w15.cell? ⟨gb118, 2, none⟩ = some (.bool false) := (blk_cell BK118.out 2).trans rfl
                      have hcz22_3 : w15.cell? ⟨gb118, 3, none⟩ = some (.slice none 0 0) := (blk_cell BK118.out 3).trans rfl
                      have hfz22_0 := blk_frozen BK118.out 0
                      have hfz22_1 := blk_frozen BK118.out 1
                      have hfz22_2 := blk_frozen BK118.out 2
                      have hfz22_3 := blk_frozen BK118.out 3
                      go_wp2
                      go_meet
                      case rel => exact ⟨_, (true), (by first | rfl | (simp; done) | (simp [*]; done)), H', ⟨by have := HJ6.out; have := HK2.out; first | omega | exact Nat.le_refl _⟩, ⟨by (with_reducible repeat (first | apply Kd.R_alloc | apply Kd.R_drewN | apply Kd.R_drew)); exact Kd.R_mono (Kd.R_far (p := ⟨gb118, 3, none⟩) (Kd.R_far (p := ⟨gb118, 2, none⟩) (Kd.R_far (p := ⟨gb118, 1, none⟩) (Kd.R_far (p := ⟨gb118, 0, none⟩) (Kd.R_types HO_11.out BK118.out (by decide)) (fun _ hk => hk.2) (.int .i64 ((rd_T54 l0 x24_2).f0))) (fun _ hk => hk.2) (.int .i64 ((rd_T54 l0 x24_2).f1))) (fun _ hk => hk.2) (.bool ((rd_T54 l0 x24_2).f2))) (fun _ hk => hk.2) (.slice A117_3 ((rd_T54 l0 x24_2).f3).length c117_3)) (fun _ hk => trivial)⟩, ⟨by (with_reducible repeat (first | refine blk_drewN ?_ _ | refine blk_drew ?_ | refine blk_alloc ?_ _)); refine blk_put (cs := #[.int .i64 ((rd_T54 l0 x24_2).f0), .int .i64 ((rd_T54 l0 x24_2).f1), .bool ((rd_T54 l0 x24_2).f2), .slice none 0 0]) ?_ 3 _ rfl; (with_reducible repeat (first | refine blk_drewN ?_ _ | refine blk_drew ?_ | refine blk_alloc ?_ _)); refine blk_put (cs := #[.int .i64 ((rd_T54 l0 x24_2).f0), .int .i64 ((rd_T54 l0 x24_2).f1), .bool false, .slice none 0 0]) ?_ 2 _ rfl; (with_reducible repeat (first | refine blk_drewN ?_ _ | refine blk_drew ?_ | refine blk_alloc ?_ _)); refine blk_put (cs := #[.int .i64 ((rd_T54 l0 x24_2).f0), .int .i64 0, .bool false, .slice none 0 0]) ?_ 1 _ rfl; (with_reducible repeat (first | refine blk_drewN ?_ _ | refine blk_drew ?_ | refine blk_alloc ?_ _)); refine blk_put (cs := #[.int .i64 0, .int .i64 0, .bool false, .slice none 0 0]) ?_ 0 _ rfl; (with_reducible repeat (first | refine blk_drewN ?_ _ | refine blk_drew ?_ | refine blk_alloc ?_ _)); exact BK118.out⟩, ⟨by repeat (first | (with_reducible first | exact HB.out | apply below_alloc | apply pw_below_drewN | apply below_drew1 | refine below_set ?_ GE118.out) | exact HB.out)⟩⟩
                case rest =>
                  clear HC14
                  try clear c1
                  try clear p1
                  try clear q1
                  try clear hx1
                  try clear p2
                  try clear c4
                  try clear c5
                  try clear c8
                  try clear c11
                  try clear c11b0
                  try clear p11
                  try clear q11
                  try clear hx11
                  try clear c12
                  try clear c12b0
                  try clear c13
                  try clear c13b0
                  try clear c17
                  try clear c17b0
                  try clear c17b1
                  try clear c18
                  try clear c18b0
                  try clear c18b1
                  try clear hcz16_0
                  try clear hcz16_1
                  try clear hcz16_2
                  try clear hcz16_3
                  try clear hcz20_0
                  try clear hcz20_1
                  try clear hcz20_2
                  try clear hcz20_3
                  try clear hcz22_0
                  try clear hcz22_1
                  try clear hcz22_2
                  try clear hcz22_3
                  try clear hfz16_0
                  try clear hfz16_1
                  try clear hfz16_2
                  try clear hfz16_3
                  try clear hfz20_0
                  try clear hfz20_1
                  try clear hfz20_2
                  try clear hfz20_3
                  try clear hfz22_0
                  try clear hfz22_1
                  try clear hfz22_2
                  try clear hfz22_3
                  try clear hx117_0
                  try clear hx117_1
                  try clear hx117_2
                  try clear hx117_3
                  try clear p117
                  try clear p2
                  try clear q117
                  obtain ⟨kq, x29_13, rfl, HA, HJ13, HO_11, BK118, HB⟩ := hcut
                  cases kq with
                  | zero => exact absurd HA.out (by simp [relay_targets.j2])
                  | succ kj13 =>
                    have H := HA.out
                    clear HA
                    simp only [relay_targets.j2] at H
                    by_cases c23 : x29_13 = true
                    · subst c23
                      have H1 : (relay_targets.l0 kj13 a1 a2 x11_2 x12_6 l0 (l0.length : Int) (wrap64 (x24_2 + 1))) = some r := by rw [if_pos rfl] at H; exact H
                      clear H
                      have H := H1
                      clear H1
                      have H' := Aside0.mk H
                      clear H
                      go_wp2
                      go_roundg kj13
                      case measure => have := HJ6.out; have := HK2.out; have := HJ13.out; omega
                      case rel => exact ⟨(x11_2), (wrap64 (x24_2 + 1)), (by first | rfl | (simp; done) | (simp [*]; done)), H', ⟨by have := HJ6.out; have := HK2.out; have := HJ13.out; omega⟩, ⟨by (with_reducible repeat (first | apply Kd.R_alloc | apply Kd.R_drewN | apply Kd.R_drew)); exact HO_11.out⟩, ⟨by repeat (first | (with_reducible first | exact HB.out | apply below_alloc | apply pw_below_drewN | apply below_drew1 | refine below_set ?_ GE118.out) | exact HB.out)⟩⟩
                    · replace c23 := Bool.eq_false_iff.mpr c23
                      subst c23
                      have H1 : (if x12_6 ≥ 0 then (if x12_6 = x24_2 then (if x11_2.length < 17592186044416 then (relay_targets.l0 kj13 a1 a2 (x11_2 ++ [x24_2]) x12_6 l0 (l0.length : Int) (wrap64 (x24_2 + 1))) else (none)) else (relay_targets.l0 kj13 a1 a2 x11_2 x12_6 l0 (l0.length : Int) (wrap64 (x24_2 + 1)))) else (if x11_2.length < 17592186044416 then (relay_targets.l0 kj13 a1 a2 (x11_2 ++ [x24_2]) x12_6 l0 (l0.length : Int) (wrap64 (x24_2 + 1))) else (none))) = some r := by rw [if_neg (show ¬ (false = true) by decide)] at H; exact H
                      clear H
                      have H := H1
                      clear H1
                      by_cases c24 : x12_6 ≥ 0
                      · rw [if_pos c24] at H
                        have c24b0 : decide (0 ≤ x12_6) = true := decide_eq_true c24
                        clear c24
                        by_cases c25 : x12_6 = x24_2
                        · rw [if_pos c25] at H
                          have c25b0 : (x12_6 == x24_2) = true := beq_iff_eq.mpr c25
                          have c25b1 : (x12_6 != x24_2) = false := bne_eq_false_iff_eq.mpr c25
                          clear c25
                          by_cases c26 : x11_2.length < 17592186044416
                          · rw [if_pos c26] at H
                            have LMc26 := Aside0.mk c26
                            clear c26
                            obtain ⟨y120, hy120⟩ : ∃ y_ : List Int, y_ = (x11_2 ++ [x24_2]) := ⟨_, rfl⟩
                            replace H : (relay_targets.l0 kj13 a1 a2 y120 x12_6 l0 (l0.length : Int) (wrap64 (x24_2 + 1))) = some r := by first | (rw [hy120]; with_reducible exact H) | (have H2_ := (Option.bind_some _ _).symm.trans H; rw [hy120]; with_reducible exact H2_) | (have H2_ := (Option.bind_some _ _).symm.trans H; with_reducible exact H2_) | with_reducible exact H | (rw [hy120]; exact H) | exact H
                            have Ny120 := Aside0.mk hy120
                            clear hy120
                            have H' := Aside0.mk H
                            clear H
                            go_wp2_with (first | ((with_reducible refine gate_builtin (b := .append) (xs := #[.tmp 52, .tmp 54]) rfl ?_); at_builtin; refine Kd.R_append (Kd.int .i64) (w0 := w) w.heap.size rfl (.tmp 52) (.tmp 54) 40 3 (.int .i64 0) 8 rfl Try.underlying40 info3 rfl (by decide) (by omega) u11 x11_2 x24_2 [.int .i64 x24_2] (fun _ => True) (fun _ => False) rfl rfl ?aP (fun _ hk => hk.elim) ?aF ?aO ?aB ?aS ?aL ?_; (case aP => exact rfl); (case aB => exact (by repeat (first | (with_reducible first | exact HB.out | apply below_alloc | apply pw_below_drewN | apply below_drew1 | refine below_set ?_ GE118.out) | exact HB.out))); (case aF => exact (fun _ _ => trivial)); (case aO => exact (by (with_reducible repeat (first | apply Kd.R_alloc | apply Kd.R_drewN | apply Kd.R_drew)); exact HO_11.out)); (case aS => exact (below_size (by repeat (first | (with_reducible first | exact HB.out | apply below_alloc | apply pw_below_drewN | apply below_drew1 | refine below_set ?_ GE118.out) | exact HB.out)))); (case aL => have := LMc26.out; omega); intro v121 w27 ho hb hg hat; rw [← Ny120.out] at ho; have n0_ := Aside0.mk (blk_grown (g := gb118) (o := .cells #[.int .i64 ((rd_T54 l0 x24_2).f0), .int .i64 ((rd_T54 l0 x24_2).f1), .bool ((rd_T54 l0 x24_2).f2), .slice A117_3 ((rd_T54 l0 x24_2).f3).length c117_3] 54 (0, 0)) (by (with_reducible repeat (first | refine blk_drewN ?_ _ | refine blk_drew ?_ | refine blk_alloc ?_ _)); exact BK118.out) hg (Kd.R_ne HO_11.out BK118.out (by decide))); have n1_ := Aside0.mk (hb); have n2_ := Aside0.mk (ho); clear BK118; clear HB; clear HO_11; have BK118 := n0_; have HB := n1_; have HO122 := n2_; clear n0_ n1_ n2_; clear ho hb hg hat))
                            go_roundg kj13
                            case measure => have := HJ6.out; have := HK2.out; have := HJ13.out; omega
                            case rel => exact ⟨(y120), (wrap64 (x24_2 + 1)), (by first | rfl | (simp; done) | (simp [*]; done)), H', ⟨by have := HJ6.out; have := HK2.out; have := HJ13.out; omega⟩, ⟨by (with_reducible repeat (first | apply Kd.R_alloc | apply Kd.R_drewN | apply Kd.R_drew)); exact HO122.out⟩, ⟨by repeat (first | (with_reducible first | exact HB.out | apply below_alloc | apply pw_below_drewN | apply below_drew1 | refine below_set ?_ GE118.out) | exact HB.out)⟩⟩
                          · rw [if_neg c26] at H
                            exact absurd H (by simp)
                        · rw [if_neg c25] at H
                          have c25b0 : (x12_6 == x24_2) = false := beq_eq_false_iff_ne.mpr c25
                          have c25b1 : (x12_6 != x24_2) = true := bne_iff_ne.mpr c25
                          have H' := Aside0.mk H
                          clear H
                          go_wp2
                          go_roundg kj13
                          case measure => have := HJ6.out; have := HK2.out; have := HJ13.out; omega
                          case rel => exact ⟨(x11_2), (wrap64 (x24_2 + 1)), (by first | rfl | (simp; done) | (simp [*]; done)), H', ⟨by have := HJ6.out; have := HK2.out; have := HJ13.out; omega⟩, ⟨by (with_reducible repeat (first | apply Kd.R_alloc | apply Kd.R_drewN | apply Kd.R_drew)); exact HO_11.out⟩, ⟨by repeat (first | (with_reducible first | exact HB.out | apply below_alloc | apply pw_below_drewN | apply below_drew1 | refine below_set ?_ GE118.out) | exact HB.out)⟩⟩
                      · rw [if_neg c24] at H
                        have c24b0 : decide (0 ≤ x12_6) = false := decide_eq_false c24
                        clear c24
                        by_cases c28 : x11_2.length < 17592186044416
                        · rw [if_pos c28] at H
                          have LMc28 := Aside0.mk c28
                          clear c28
                          obtain ⟨y123, hy123⟩ : ∃ y_ : List Int, y_ = (x11_2 ++ [x24_2]) := ⟨_, rfl⟩
                          replace H : (relay_targets.l0 kj13 a1 a2 y123 x12_6 l0 (l0.length : Int) (wrap64 (x24_2 + 1))) = some r := by first | (rw [hy123]; with_reducible exact H) | (have H2_ := (Option.bind_some _ _).symm.trans H; rw [hy123]; with_reducible exact H2_) | (have H2_ := (Option.bind_some _ _).symm.trans H; with_reducible exact H2_) | with_reducible exact H | (rw [hy123]; exact H) | exact H
                          have Ny123 := Aside0.mk hy123
                          clear hy123
                          have H' := Aside0.mk H
                          clear H
                          go_wp2_with (first | ((with_reducible refine gate_builtin (b := .append) (xs := #[.tmp 52, .tmp 54]) rfl ?_); at_builtin; refine Kd.R_append (Kd.int .i64) (w0 := w) w.heap.size rfl (.tmp 52) (.tmp 54) 40 3 (.int .i64 0) 8 rfl Try.underlying40 info3 rfl (by decide) (by omega) u11 x11_2 x24_2 [.int .i64 x24_2] (fun _ => True) (fun _ => False) rfl rfl ?aP (fun _ hk => hk.elim) ?aF ?aO ?aB ?aS ?aL ?_; (case aP => exact rfl); (case aB => exact (by repeat (first | (with_reducible first | exact HB.out | apply below_alloc | apply pw_below_drewN | apply below_drew1 | refine below_set ?_ GE118.out) | exact HB.out))); (case aF => exact (fun _ _ => trivial)); (case aO => exact (by (with_reducible repeat (first | apply Kd.R_alloc | apply Kd.R_drewN | apply Kd.R_drew)); exact HO_11.out)); (case aS => exact (below_size (by repeat (first | (with_reducible first | exact HB.out | apply below_alloc | apply pw_below_drewN | apply below_drew1 | refine below_set ?_ GE118.out) | exact HB.out)))); (case aL => have := LMc28.out; omega); intro v124 w29 ho hb hg hat; rw [← Ny123.out] at ho; have n0_ := Aside0.mk (blk_grown (g := gb118) (o := .cells #[.int .i64 ((rd_T54 l0 x24_2).f0), .int .i64 ((rd_T54 l0 x24_2).f1), .bool ((rd_T54 l0 x24_2).f2), .slice A117_3 ((rd_T54 l0 x24_2).f3).length c117_3] 54 (0, 0)) (by (with_reducible repeat (first | refine blk_drewN ?_ _ | refine blk_drew ?_ | refine blk_alloc ?_ _)); exact BK118.out) hg (Kd.R_ne HO_11.out BK118.out (by decide))); have n1_ := Aside0.mk (hb); have n2_ := Aside0.mk (ho); clear BK118; clear HB; clear HO_11; have BK118 := n0_; have HB := n1_; have HO125 := n2_; clear n0_ n1_ n2_; clear ho hb hg hat))
                          go_roundg kj13
                          case measure => have := HJ6.out; have := HK2.out; have := HJ13.out; omega
                          case rel => exact ⟨(y123), (wrap64 (x24_2 + 1)), (by first | rfl | (simp; done) | (simp [*]; done)), H', ⟨by have := HJ6.out; have := HK2.out; have := HJ13.out; omega⟩, ⟨by (with_reducible repeat (first | apply Kd.R_alloc | apply Kd.R_drewN | apply Kd.R_drew)); exact HO125.out⟩, ⟨by repeat (first | (with_reducible first | exact HB.out | apply below_alloc | apply pw_below_drewN | apply below_drew1 | refine below_set ?_ GE118.out) | exact HB.out)⟩⟩
                        · rw [if_neg c28] at H
                          exact absurd H (by simp)
              · rw [if_neg c13] at H
                exact absurd H (by simp)
            · rw [if_neg c12] at H
              exact absurd H (by simp)
          · rw [if_neg c11] at H
            have c11b0 : decide (x24_2 < (l0.length : Int)) = false := decide_eq_false c11
            clear c11
            obtain rfl := Option.some.inj H
            go_wp2
            go_ret
            exact ⟨_, by first | rfl | (simp [errW_none, errW_some] <;> rfl) | (simp [*, errW_none, errW_some] <;> rfl), by (with_reducible repeat (first | apply Kd.R_alloc | apply Kd.R_drewN | apply Kd.R_drew)); exact HO_11.out, by repeat (first | (with_reducible first | exact HB.out | apply below_alloc | apply pw_below_drewN | apply below_drew1) | exact HB.out)⟩
def frame_Tag.f (a0_0 : Int) (a0_1 : Int) (a0_2 : Bool) (a0_3 : Int) (a0_4 : Int) (a0_5 : Int) (a0_6 : ByteArray) (a1 : Int) (a2 : Int) : Option (Int × Int × Bool × Int × Int × Int × ByteArray) := some (a0_0, a0_1, true, a1, a2, a0_5, a0_6)
set_option maxHeartbeats 8000000 in
set_option maxRecDepth 100000 in
theorem frame_Tag.calls (a0_0 : Int) (a0_1 : Int) (a0_2 : Bool) (a0_3 : Int) (a0_4 : Int) (a0_5 : Int) (a0_6 : ByteArray) (a1 : Int) (a2 : Int) (r1 : Int) (r2 : Int) (r3 : Bool) (r4 : Int) (r5 : Int) (r6 : Int) (r7 : ByteArray) (w : World) (h : frame_Tag.f a0_0 a0_1 a0_2 a0_3 a0_4 a0_5 a0_6 a1 a2 = some (r1, r2, r3, r4, r5, r6, r7)) :
    Calls Try.prog 41 #[.agg #[.int .i64 a0_0, .int .i64 a0_1, .bool a0_2, .int .i64 a0_3, .int .i64 a0_4, .int .i64 a0_5, .string a0_6], .int .i64 a1, .int .i64 a2] w fun e w' => e = .returned (.agg #[.int .i64 r1, .int .i64 r2, .bool r3, .int .i64 r4, .int .i64 r5, .int .i64 r6, .string r7]) ∧ Below w.heap.size w w' := by
  have hu49 := Try.underlying49
  have HB := Aside0.mk (Below.refl w.heap.size w)
  have H : (some (a0_0, a0_1, true, a1, a2, a0_5, a0_6)) = some (r1, r2, r3, r4, r5, r6, r7) := h
  clear h
  simp only [Option.some.injEq, Prod.mk.injEq] at H
  obtain ⟨rfl, rfl, rfl, rfl, rfl, rfl, rfl⟩ := H
  go_enter Try.func41, Try.ntmps41
  go_wp2_with (first | ((with_reducible refine gate_dst (N := 3) rfl ?_); refine box_event ?hg (N := 3) ?hd (cs := #[.int .i64 a0_0, .int .i64 a0_1, .bool a0_2, .int .i64 a0_3, .int .i64 a0_4, .int .i64 a0_5, .string a0_6]) (t := 49) ?hr ?_; (case hd => rfl); (case hg => rfl); (case hr => first | (go_simp; done) | (go_simp; rfl)); intro gb126 hg w4 hbox hb; have n0_ := Aside0.mk (below_step (by repeat (first | (with_reducible first | exact HB.out | apply below_alloc | apply pw_below_drewN | apply below_drew1) | exact HB.out)) hb); have n1_ := Aside0.mk (hbox); have n2_ := Aside0.mk ((by rw [hg]; exact (below_size (by repeat (first | (with_reducible first | exact HB.out | apply below_alloc | apply pw_below_drewN | apply below_drew1) | exact HB.out))) : w.heap.size ≤ gb126)); have n3_ := Aside0.mk ((by rw [hg]; exact (below_size (by repeat (first | (with_reducible first | exact HB.out | apply below_alloc | apply pw_below_drewN | apply below_drew1) | exact HB.out))) : w.heap.size ≤ gb126)); clear HB; have HB := n0_; have BK126 := n1_; have GW126 := n2_; have GE126 := n3_; clear n0_ n1_ n2_ n3_; clear hb hbox hg) | ((with_reducible refine gate_dst (N := 6) rfl ?_); refine box_event ?hg (N := 6) ?hd (cs := #[.int .i64 0, .int .i64 0, .bool false, .int .i64 0, .int .i64 0, .int .i64 0, .string (⟨#[]⟩ : ByteArray)]) (t := 49) ?hr ?_; (case hd => rfl); (case hg => rfl); (case hr => first | (go_simp; done) | (go_simp; rfl)); intro gb127 hg w5 hbox hb; have n0_ := Aside0.mk (blk_below (g := gb126) (o := .cells #[.int .i64 a0_0, .int .i64 a0_1, .bool a0_2, .int .i64 a0_3, .int .i64 a0_4, .int .i64 a0_5, .string a0_6] 49 (0, 0)) (by (with_reducible repeat (first | refine blk_drewN ?_ _ | refine blk_drew ?_ | refine blk_alloc ?_ _)); exact BK126.out) hb); have n1_ := Aside0.mk (below_step (by repeat (first | (with_reducible first | exact HB.out | apply below_alloc | apply pw_below_drewN | apply below_drew1 | refine below_set ?_ GE126.out) | exact HB.out)) hb); have n2_ := Aside0.mk (hbox); have n3_ := Aside0.mk ((by rw [hg]; exact (below_size (by repeat (first | (with_reducible first | exact HB.out | apply below_alloc | apply pw_below_drewN | apply below_drew1 | refine below_set ?_ GE126.out) | exact HB.out))) : w.heap.size ≤ gb127)); have n4_ := Aside0.mk ((by rw [hg]; exact (below_size (by repeat (first | (with_reducible first | exact HB.out | apply below_alloc | apply pw_below_drewN | apply below_drew1 | refine below_set ?_ GE126.out) | exact HB.out))) : w.heap.size ≤ gb127)); have n5_ := Aside0.mk ((by rw [hg]; exact Nat.ne_of_lt (blk_lt (g := gb126) (o := .cells #[.int .i64 a0_0, .int .i64 a0_1, .bool a0_2, .int .i64 a0_3, .int .i64 a0_4, .int .i64 a0_5, .string a0_6] 49 (0, 0)) (by (with_reducible repeat (first | refine blk_drewN ?_ _ | refine blk_drew ?_ | refine blk_alloc ?_ _)); exact BK126.out)) : gb126 ≠ gb127)); have n6_ := Aside0.mk ((by rw [hg]; exact Nat.ne_of_gt (blk_lt (g := gb126) (o := .cells #[.int .i64 a0_0, .int .i64 a0_1, .bool a0_2, .int .i64 a0_3, .int .i64 a0_4, .int .i64 a0_5, .string a0_6] 49 (0, 0)) (by (with_reducible repeat (first | refine blk_drewN ?_ _ | refine blk_drew ?_ | refine blk_alloc ?_ _)); exact BK126.out)) : gb127 ≠ gb126)); clear BK126; clear HB; have BK126 := n0_; have HB := n1_; have BK127 := n2_; have GW127 := n3_; have GE127 := n4_; have NB126_127 := n5_; have NB127_126 := n6_; clear n0_ n1_ n2_ n3_ n4_ n5_ n6_; clear hb hbox hg; have hnb6 := NB126_127.out; have hnc6 := NB127_126.out; have hcz7_0 : w5.cell? ⟨gb126, 0, none⟩ = some (.int .i64 a0_0) := (blk_cell BK126.out 0).trans rfl; have hcz7_1 : w5.cell? ⟨gb126, 1, none⟩ = some (.int .i64 a0_1) := (blk_cell BK126.out 1).trans rfl; have hcz7_2 : w5.cell? ⟨gb126, 2, none⟩ = some (.bool a0_2) := (blk_cell BK126.out 2).trans rfl; have hcz7_3 : w5.cell? ⟨gb126, 3, none⟩ = some (.int .i64 a0_3) := (blk_cell BK126.out 3).trans rfl; have hcz7_4 : w5.cell? ⟨gb126, 4, none⟩ = some (.int .i64 a0_4) := (blk_cell BK126.out 4).trans rfl; have hcz7_5 : w5.cell? ⟨gb126, 5, none⟩ = some (.int .i64 a0_5) := (blk_cell BK126.out 5).trans rfl; have hcz7_6 : w5.cell? ⟨gb126, 6, none⟩ = some (.string a0_6) := (blk_cell BK126.out 6).trans rfl; have hfz7_0 := blk_frozen BK126.out 0; have hfz7_1 := blk_frozen BK126.out 1; have hfz7_2 := blk_frozen BK126.out 2; have hfz7_3 := blk_frozen BK126.out 3; have hfz7_4 := blk_frozen BK126.out 4; have hfz7_5 := blk_frozen BK126.out 5; have hfz7_6 := blk_frozen BK126.out 6; have hcz8_0 : w5.cell? ⟨gb127, 0, none⟩ = some (.int .i64 0) := (blk_cell BK127.out 0).trans rfl; have hcz8_1 : w5.cell? ⟨gb127, 1, none⟩ = some (.int .i64 0) := (blk_cell BK127.out 1).trans rfl; have hcz8_2 : w5.cell? ⟨gb127, 2, none⟩ = some (.bool false) := (blk_cell BK127.out 2).trans rfl; have hcz8_3 : w5.cell? ⟨gb127, 3, none⟩ = some (.int .i64 0) := (blk_cell BK127.out 3).trans rfl; have hcz8_4 : w5.cell? ⟨gb127, 4, none⟩ = some (.int .i64 0) := (blk_cell BK127.out 4).trans rfl; have hcz8_5 : w5.cell? ⟨gb127, 5, none⟩ = some (.int .i64 0) := (blk_cell BK127.out 5).trans rfl; have hcz8_6 : w5.cell? ⟨gb127, 6, none⟩ = some (.string (⟨#[]⟩ : ByteArray)) := (blk_cell BK127.out 6).trans rfl; have hfz8_0 := blk_frozen BK127.out 0; have hfz8_1 := blk_frozen BK127.out 1; have hfz8_2 := blk_frozen BK127.out 2; have hfz8_3 := blk_frozen BK127.out 3; have hfz8_4 := blk_frozen BK127.out 4; have hfz8_5 := blk_frozen BK127.out 5; have hfz8_6 := blk_frozen BK127.out 6))
  refine bodyPost_ret (results_cell_row rfl _ _ gb127 49 #[.int .i64 a0_0, .int .i64 a0_1, .bool true, .int .i64 a1, .int .i64 a2, .int .i64 a0_5, .string a0_6] (0, 0) _ rfl (by (with_reducible repeat (first | refine blk_drewN ?_ _ | refine blk_drew ?_ | refine blk_alloc ?_ _)); refine blk_put (cs := #[.int .i64 a0_0, .int .i64 a0_1, .bool true, .int .i64 a1, .int .i64 a2, .int .i64 a0_5, .string (⟨#[]⟩ : ByteArray)]) ?_ 6 _ rfl; (with_reducible repeat (first | refine blk_drewN ?_ _ | refine blk_drew ?_ | refine blk_alloc ?_ _)); refine blk_put (cs := #[.int .i64 a0_0, .int .i64 a0_1, .bool true, .int .i64 a1, .int .i64 a2, .int .i64 0, .string (⟨#[]⟩ : ByteArray)]) ?_ 5 _ rfl; (with_reducible repeat (first | refine blk_drewN ?_ _ | refine blk_drew ?_ | refine blk_alloc ?_ _)); refine blk_put (cs := #[.int .i64 a0_0, .int .i64 a0_1, .bool true, .int .i64 a1, .int .i64 0, .int .i64 0, .string (⟨#[]⟩ : ByteArray)]) ?_ 4 _ rfl; (with_reducible repeat (first | refine blk_drewN ?_ _ | refine blk_drew ?_ | refine blk_alloc ?_ _)); refine blk_put (cs := #[.int .i64 a0_0, .int .i64 a0_1, .bool true, .int .i64 0, .int .i64 0, .int .i64 0, .string (⟨#[]⟩ : ByteArray)]) ?_ 3 _ rfl; (with_reducible repeat (first | refine blk_drewN ?_ _ | refine blk_drew ?_ | refine blk_alloc ?_ _)); refine blk_put (cs := #[.int .i64 a0_0, .int .i64 a0_1, .bool false, .int .i64 0, .int .i64 0, .int .i64 0, .string (⟨#[]⟩ : ByteArray)]) ?_ 2 _ rfl; (with_reducible repeat (first | refine blk_drewN ?_ _ | refine blk_drew ?_ | refine blk_alloc ?_ _)); refine blk_put (cs := #[.int .i64 a0_0, .int .i64 0, .bool false, .int .i64 0, .int .i64 0, .int .i64 0, .string (⟨#[]⟩ : ByteArray)]) ?_ 1 _ rfl; (with_reducible repeat (first | refine blk_drewN ?_ _ | refine blk_drew ?_ | refine blk_alloc ?_ _)); refine blk_put (cs := #[.int .i64 0, .int .i64 0, .bool false, .int .i64 0, .int .i64 0, .int .i64 0, .string (⟨#[]⟩ : ByteArray)]) ?_ 0 _ rfl; (with_reducible repeat (first | refine blk_drewN ?_ _ | refine blk_drew ?_ | refine blk_alloc ?_ _)); refine blk_far ?_ NB127_126.out _; (with_reducible repeat (first | refine blk_drewN ?_ _ | refine blk_drew ?_ | refine blk_alloc ?_ _)); refine blk_far ?_ NB127_126.out _; (with_reducible repeat (first | refine blk_drewN ?_ _ | refine blk_drew ?_ | refine blk_alloc ?_ _)); refine blk_far ?_ NB127_126.out _; (with_reducible repeat (first | refine blk_drewN ?_ _ | refine blk_drew ?_ | refine blk_alloc ?_ _)); exact BK127.out) Try.underlying49 rfl (by kernel_rfl)) rfl ?_
  exact ⟨by first | rfl | (simp [errW_none, errW_some] <;> rfl) | (simp [*, errW_none, errW_some] <;> rfl), by repeat (first | (with_reducible first | exact HB.out | apply below_alloc | apply pw_below_drewN | apply below_drew1 | refine below_set ?_ GE126.out | refine below_set ?_ GE127.out) | exact HB.out)⟩
def frame_Untag.f (a0_0 : Int) (a0_1 : Int) (a0_2 : Bool) (a0_3 : Int) (a0_4 : Int) (a0_5 : Int) (a0_6 : ByteArray) : Option (Int × Int × Bool × Int × Int × Int × ByteArray) := some (a0_0, a0_1, false, 0, 0, a0_5, a0_6)
set_option maxHeartbeats 8000000 in
set_option maxRecDepth 100000 in
theorem frame_Untag.calls (a0_0 : Int) (a0_1 : Int) (a0_2 : Bool) (a0_3 : Int) (a0_4 : Int) (a0_5 : Int) (a0_6 : ByteArray) (r1 : Int) (r2 : Int) (r3 : Bool) (r4 : Int) (r5 : Int) (r6 : Int) (r7 : ByteArray) (w : World) (h : frame_Untag.f a0_0 a0_1 a0_2 a0_3 a0_4 a0_5 a0_6 = some (r1, r2, r3, r4, r5, r6, r7)) :
    Calls Try.prog 42 #[.agg #[.int .i64 a0_0, .int .i64 a0_1, .bool a0_2, .int .i64 a0_3, .int .i64 a0_4, .int .i64 a0_5, .string a0_6]] w fun e w' => e = .returned (.agg #[.int .i64 r1, .int .i64 r2, .bool r3, .int .i64 r4, .int .i64 r5, .int .i64 r6, .string r7]) ∧ Below w.heap.size w w' := by
  have hu49 := Try.underlying49
  have HB := Aside0.mk (Below.refl w.heap.size w)
  have H : (some (a0_0, a0_1, false, 0, 0, a0_5, a0_6)) = some (r1, r2, r3, r4, r5, r6, r7) := h
  clear h
  simp only [Option.some.injEq, Prod.mk.injEq] at H
  obtain ⟨rfl, rfl, rfl, rfl, rfl, rfl, rfl⟩ := H
  go_enter Try.func42, Try.ntmps42
  go_wp2_with (first | ((with_reducible refine gate_dst (N := 1) rfl ?_); refine box_event ?hg (N := 1) ?hd (cs := #[.int .i64 a0_0, .int .i64 a0_1, .bool a0_2, .int .i64 a0_3, .int .i64 a0_4, .int .i64 a0_5, .string a0_6]) (t := 49) ?hr ?_; (case hd => rfl); (case hg => rfl); (case hr => first | (go_simp; done) | (go_simp; rfl)); intro gb128 hg w2 hbox hb; have n0_ := Aside0.mk (below_step (by repeat (first | (with_reducible first | exact HB.out | apply below_alloc | apply pw_below_drewN | apply below_drew1) | exact HB.out)) hb); have n1_ := Aside0.mk (hbox); have n2_ := Aside0.mk ((by rw [hg]; exact (below_size (by repeat (first | (with_reducible first | exact HB.out | apply below_alloc | apply pw_below_drewN | apply below_drew1) | exact HB.out))) : w.heap.size ≤ gb128)); have n3_ := Aside0.mk ((by rw [hg]; exact (below_size (by repeat (first | (with_reducible first | exact HB.out | apply below_alloc | apply pw_below_drewN | apply below_drew1) | exact HB.out))) : w.heap.size ≤ gb128)); clear HB; have HB := n0_; have BK128 := n1_; have GW128 := n2_; have GE128 := n3_; clear n0_ n1_ n2_ n3_; clear hb hbox hg) | ((with_reducible refine gate_dst (N := 2) rfl ?_); refine box_event ?hg (N := 2) ?hd (cs := #[.int .i64 0, .int .i64 0, .bool false, .int .i64 0, .int .i64 0, .int .i64 0, .string (⟨#[]⟩ : ByteArray)]) (t := 49) ?hr ?_; (case hd => rfl); (case hg => rfl); (case hr => first | (go_simp; done) | (go_simp; rfl)); intro gb129 hg w3 hbox hb; have n0_ := Aside0.mk (blk_below (g := gb128) (o := .cells #[.int .i64 a0_0, .int .i64 a0_1, .bool a0_2, .int .i64 a0_3, .int .i64 a0_4, .int .i64 a0_5, .string a0_6] 49 (0, 0)) (by (with_reducible repeat (first | refine blk_drewN ?_ _ | refine blk_drew ?_ | refine blk_alloc ?_ _)); exact BK128.out) hb); have n1_ := Aside0.mk (below_step (by repeat (first | (with_reducible first | exact HB.out | apply below_alloc | apply pw_below_drewN | apply below_drew1 | refine below_set ?_ GE128.out) | exact HB.out)) hb); have n2_ := Aside0.mk (hbox); have n3_ := Aside0.mk ((by rw [hg]; exact (below_size (by repeat (first | (with_reducible first | exact HB.out | apply below_alloc | apply pw_below_drewN | apply below_drew1 | refine below_set ?_ GE128.out) | exact HB.out))) : w.heap.size ≤ gb129)); have n4_ := Aside0.mk ((by rw [hg]; exact (below_size (by repeat (first | (with_reducible first | exact HB.out | apply below_alloc | apply pw_below_drewN | apply below_drew1 | refine below_set ?_ GE128.out) | exact HB.out))) : w.heap.size ≤ gb129)); have n5_ := Aside0.mk ((by rw [hg]; exact Nat.ne_of_lt (blk_lt (g := gb128) (o := .cells #[.int .i64 a0_0, .int .i64 a0_1, .bool a0_2, .int .i64 a0_3, .int .i64 a0_4, .int .i64 a0_5, .string a0_6] 49 (0, 0)) (by (with_reducible repeat (first | refine blk_drewN ?_ _ | refine blk_drew ?_ | refine blk_alloc ?_ _)); exact BK128.out)) : gb128 ≠ gb129)); have n6_ := Aside0.mk ((by rw [hg]; exact Nat.ne_of_gt (blk_lt (g := gb128) (o := .cells #[.int .i64 a0_0, .int .i64 a0_1, .bool a0_2, .int .i64 a0_3, .int .i64 a0_4, .int .i64 a0_5, .string a0_6] 49 (0, 0)) (by (with_reducible repeat (first | refine blk_drewN ?_ _ | refine blk_drew ?_ | refine blk_alloc ?_ _)); exact BK128.out)) : gb129 ≠ gb128)); clear BK128; clear HB; have BK128 := n0_; have HB := n1_; have BK129 := n2_; have GW129 := n3_; have GE129 := n4_; have NB128_129 := n5_; have NB129_128 := n6_; clear n0_ n1_ n2_ n3_ n4_ n5_ n6_; clear hb hbox hg; have hnb4 := NB128_129.out; have hnc4 := NB129_128.out; have hcz5_0 : w3.cell? ⟨gb128, 0, none⟩ = some (.int .i64 a0_0) := (blk_cell BK128.out 0).trans rfl; have hcz5_1 : w3.cell? ⟨gb128, 1, none⟩ = some (.int .i64 a0_1) := (blk_cell BK128.out 1).trans rfl; have hcz5_2 : w3.cell? ⟨gb128, 2, none⟩ = some (.bool a0_2) := (blk_cell BK128.out 2).trans rfl; have hcz5_3 : w3.cell? ⟨gb128, 3, none⟩ = some (.int .i64 a0_3) := (blk_cell BK128.out 3).trans rfl; have hcz5_4 : w3.cell? ⟨gb128, 4, none⟩ = some (.int .i64 a0_4) := (blk_cell BK128.out 4).trans rfl; have hcz5_5 : w3.cell? ⟨gb128, 5, none⟩ = some (.int .i64 a0_5) := (blk_cell BK128.out 5).trans rfl; have hcz5_6 : w3.cell? ⟨gb128, 6, none⟩ = some (.string a0_6) := (blk_cell BK128.out 6).trans rfl; have hfz5_0 := blk_frozen BK128.out 0; have hfz5_1 := blk_frozen BK128.out 1; have hfz5_2 := blk_frozen BK128.out 2; have hfz5_3 := blk_frozen BK128.out 3; have hfz5_4 := blk_frozen BK128.out 4; have hfz5_5 := blk_frozen BK128.out 5; have hfz5_6 := blk_frozen BK128.out 6; have hcz6_0 : w3.cell? ⟨gb129, 0, none⟩ = some (.int .i64 0) := (blk_cell BK129.out 0).trans rfl; have hcz6_1 : w3.cell? ⟨gb129, 1, none⟩ = some (.int .i64 0) := (blk_cell BK129.out 1).trans rfl; have hcz6_2 : w3.cell? ⟨gb129, 2, none⟩ = some (.bool false) := (blk_cell BK129.out 2).trans rfl; have hcz6_3 : w3.cell? ⟨gb129, 3, none⟩ = some (.int .i64 0) := (blk_cell BK129.out 3).trans rfl; have hcz6_4 : w3.cell? ⟨gb129, 4, none⟩ = some (.int .i64 0) := (blk_cell BK129.out 4).trans rfl; have hcz6_5 : w3.cell? ⟨gb129, 5, none⟩ = some (.int .i64 0) := (blk_cell BK129.out 5).trans rfl; have hcz6_6 : w3.cell? ⟨gb129, 6, none⟩ = some (.string (⟨#[]⟩ : ByteArray)) := (blk_cell BK129.out 6).trans rfl; have hfz6_0 := blk_frozen BK129.out 0; have hfz6_1 := blk_frozen BK129.out 1; have hfz6_2 := blk_frozen BK129.out 2; have hfz6_3 := blk_frozen BK129.out 3; have hfz6_4 := blk_frozen BK129.out 4; have hfz6_5 := blk_frozen BK129.out 5; have hfz6_6 := blk_frozen BK129.out 6))
  refine bodyPost_ret (results_cell_row rfl _ _ gb129 49 #[.int .i64 a0_0, .int .i64 a0_1, .bool false, .int .i64 0, .int .i64 0, .int .i64 a0_5, .string a0_6] (0, 0) _ rfl (by (with_reducible repeat (first | refine blk_drewN ?_ _ | refine blk_drew ?_ | refine blk_alloc ?_ _)); refine blk_put (cs := #[.int .i64 a0_0, .int .i64 a0_1, .bool false, .int .i64 0, .int .i64 0, .int .i64 a0_5, .string (⟨#[]⟩ : ByteArray)]) ?_ 6 _ rfl; (with_reducible repeat (first | refine blk_drewN ?_ _ | refine blk_drew ?_ | refine blk_alloc ?_ _)); refine blk_put (cs := #[.int .i64 a0_0, .int .i64 a0_1, .bool false, .int .i64 0, .int .i64 0, .int .i64 0, .string (⟨#[]⟩ : ByteArray)]) ?_ 5 _ rfl; (with_reducible repeat (first | refine blk_drewN ?_ _ | refine blk_drew ?_ | refine blk_alloc ?_ _)); refine blk_put (cs := #[.int .i64 a0_0, .int .i64 a0_1, .bool false, .int .i64 0, .int .i64 0, .int .i64 0, .string (⟨#[]⟩ : ByteArray)]) ?_ 4 _ rfl; (with_reducible repeat (first | refine blk_drewN ?_ _ | refine blk_drew ?_ | refine blk_alloc ?_ _)); refine blk_put (cs := #[.int .i64 a0_0, .int .i64 a0_1, .bool false, .int .i64 0, .int .i64 0, .int .i64 0, .string (⟨#[]⟩ : ByteArray)]) ?_ 3 _ rfl; (with_reducible repeat (first | refine blk_drewN ?_ _ | refine blk_drew ?_ | refine blk_alloc ?_ _)); refine blk_put (cs := #[.int .i64 a0_0, .int .i64 a0_1, .bool false, .int .i64 0, .int .i64 0, .int .i64 0, .string (⟨#[]⟩ : ByteArray)]) ?_ 2 _ rfl; (with_reducible repeat (first | refine blk_drewN ?_ _ | refine blk_drew ?_ | refine blk_alloc ?_ _)); refine blk_put (cs := #[.int .i64 a0_0, .int .i64 0, .bool false, .int .i64 0, .int .i64 0, .int .i64 0, .string (⟨#[]⟩ : ByteArray)]) ?_ 1 _ rfl; (with_reducible repeat (first | refine blk_drewN ?_ _ | refine blk_drew ?_ | refine blk_alloc ?_ _)); refine blk_put (cs := #[.int .i64 0, .int .i64 0, .bool false, .int .i64 0, .int .i64 0, .int .i64 0, .string (⟨#[]⟩ : ByteArray)]) ?_ 0 _ rfl; (with_reducible repeat (first | refine blk_drewN ?_ _ | refine blk_drew ?_ | refine blk_alloc ?_ _)); refine blk_far ?_ NB129_128.out _; (with_reducible repeat (first | refine blk_drewN ?_ _ | refine blk_drew ?_ | refine blk_alloc ?_ _)); refine blk_far ?_ NB129_128.out _; (with_reducible repeat (first | refine blk_drewN ?_ _ | refine blk_drew ?_ | refine blk_alloc ?_ _)); refine blk_far ?_ NB129_128.out _; (with_reducible repeat (first | refine blk_drewN ?_ _ | refine blk_drew ?_ | refine blk_alloc ?_ _)); exact BK129.out) Try.underlying49 rfl (by kernel_rfl)) rfl ?_
  exact ⟨by first | rfl | (simp [errW_none, errW_some] <;> rfl) | (simp [*, errW_none, errW_some] <;> rfl), by repeat (first | (with_reducible first | exact HB.out | apply below_alloc | apply pw_below_drewN | apply below_drew1 | refine below_set ?_ GE128.out | refine below_set ?_ GE129.out) | exact HB.out)⟩
end Go.Proofs.Ytjhkbmdblfdlnaa.QRlb
namespace Go.Proofs.Ytjhkbmdblfdlnaa.QRlb
open Go.RowKit Go.Proofs.YtjhkbmdblfdlnaaW.PrintWords Go.Proofs.YtjhkbmdblfdlnaaW.PrintLast Go.Proofs.YtjhkbmdblfdlnaaW.PrintMore
attribute [local go_sem] max2_int min2_int max_two min_two max_three min_three max_four min_four
set_option linter.unusedVariables false
set_option linter.unusedSimpArgs false
mutual
def relay_Relay.j0 : Nat → List (S54) → Int → List (S84) → Bool → Int → Int → Bool → Int → Int → Int → ByteArray → Option ((List (S63)))
  | 0, _, _, _, _, _, _, _, _, _, _, _ => none
  | k + 1, x0, x1, x3, x39, x131000, x131001, x131002, x131003, x131004, x131005, x131006 => if x39 = true then (some ([] : List (S63))) else (if 0 ≤ x1 then (if x1 < (x0.length : Int) then ((relay_Class.f k ((rd_T54 x0 x1).f0) ((rd_T54 x0 x1).f1) ((rd_T54 x0 x1).f2) ((rd_T54 x0 x1).f3) x131000 x131001 x131002 x131003 x131004 x131005 x131006).bind fun t135 => (if t135 = 0 then (some ([] : List (S63))) else ((relay_targets.f k x0 x1 t135 x131000 x3).bind fun t136 => (relay_Relay.l0 k x0 t135 ([] : List (S63)) t136 (t136.length : Int) 0 x131000 x131001 x131002 x131003 x131004 x131005 x131006)))) else (none)) else (none))
def relay_Relay.l0 : Nat → List (S54) → Int → List (S63) → List Int → Int → Int → Int → Int → Bool → Int → Int → Int → ByteArray → Option ((List (S63)))
  | 0, _, _, _, _, _, _, _, _, _, _, _, _, _ => none
  | k + 1, x0, x9, x10, x54, x55, x56, x131000, x131001, x131002, x131003, x131004, x131005, x131006 => if x56 < x55 then (if 0 ≤ x56 then (if x56 < (x54.length : Int) then ((frame_Tag.f x131000 x131001 x131002 x131003 x131004 x131005 x131006 x9 x131004).bind fun bt140 => (if 0 ≤ (rd x54 x56) then (if (rd x54 x56) < (x0.length : Int) then (if (rd_T54 x0 (rd x54 x56)).f2 = true then (if ((rd_T54 x0 (rd x54 x56)).f1) = x9 then ((frame_Untag.f x131000 x131001 x131002 x131003 x131004 x131005 x131006).bind fun bt150 => (if x10.length < 1954687338268 then (relay_Relay.l0 k x0 x9 (x10 ++ [(⟨rd x54 x56, (⟨bt150.1, bt150.2.1, bt150.2.2.1, bt150.2.2.2.1, bt150.2.2.2.2.1, bt150.2.2.2.2.2.1, bt150.2.2.2.2.2.2⟩ : S49)⟩ : S63)]) x54 x55 (wrap64 (x56 + 1)) x131000 x131001 x131002 x131003 x131004 x131005 x131006) else (none))) else (if x10.length < 1954687338268 then (relay_Relay.l0 k x0 x9 (x10 ++ [(⟨rd x54 x56, (⟨bt140.1, bt140.2.1, bt140.2.2.1, bt140.2.2.2.1, bt140.2.2.2.2.1, bt140.2.2.2.2.2.1, bt140.2.2.2.2.2.2⟩ : S49)⟩ : S63)]) x54 x55 (wrap64 (x56 + 1)) x131000 x131001 x131002 x131003 x131004 x131005 x131006) else (none))) else (if x10.length < 1954687338268 then (relay_Relay.l0 k x0 x9 (x10 ++ [(⟨rd x54 x56, (⟨bt140.1, bt140.2.1, bt140.2.2.1, bt140.2.2.2.1, bt140.2.2.2.2.1, bt140.2.2.2.2.2.1, bt140.2.2.2.2.2.2⟩ : S49)⟩ : S63)]) x54 x55 (wrap64 (x56 + 1)) x131000 x131001 x131002 x131003 x131004 x131005 x131006) else (none))) else (none)) else (none))) else (none)) else (none)) else (some x10)
end
def relay_Relay.f (k : Nat) (l0 : List (S54)) (a1 : Int) (a2_0 : Int) (a2_1 : Int) (a2_2 : Bool) (a2_3 : Int) (a2_4 : Int) (a2_5 : Int) (a2_6 : ByteArray) (l3 : List (S84)) : Option ((List (S63))) := if a1 < 0 then (relay_Relay.j0 k l0 a1 l3 true a2_0 a2_1 a2_2 a2_3 a2_4 a2_5 a2_6) else (if a1 ≥ (l0.length : Int) then (relay_Relay.j0 k l0 a1 l3 true a2_0 a2_1 a2_2 a2_3 a2_4 a2_5 a2_6) else (if 0 ≤ a1 then (if a1 < (l0.length : Int) then (if ((rd_T54 l0 a1).f0) = 2 then ((addr_Kept.f a2_0).bind fun t132 => (if t132 = true then (relay_Relay.j0 k l0 a1 l3 true a2_0 a2_1 a2_2 a2_3 a2_4 a2_5 a2_6) else ((frame_Good.f k a2_0 a2_1 a2_2 a2_3 a2_4 a2_5 a2_6).bind fun t133 => (relay_Relay.j0 k l0 a1 l3 (!t133) a2_0 a2_1 a2_2 a2_3 a2_4 a2_5 a2_6)))) else (relay_Relay.j0 k l0 a1 l3 true a2_0 a2_1 a2_2 a2_3 a2_4 a2_5 a2_6)) else (none)) else (none)))
theorem relay_Relay.mono_l : ∀ k, (∀ y0 y1 y2 y3 y4 y5 y6 y7 y8 y9 y10, LeO (relay_Relay.j0 k y0 y1 y2 y3 y4 y5 y6 y7 y8 y9 y10) (relay_Relay.j0 (k + 1) y0 y1 y2 y3 y4 y5 y6 y7 y8 y9 y10)) ∧ (∀ y0 y1 y2 y3 y4 y5 y6 y7 y8 y9 y10 y11 y12, LeO (relay_Relay.l0 k y0 y1 y2 y3 y4 y5 y6 y7 y8 y9 y10 y11 y12) (relay_Relay.l0 (k + 1) y0 y1 y2 y3 y4 y5 y6 y7 y8 y9 y10 y11 y12))
  | 0 => ⟨fun _ _ _ _ _ _ _ _ _ _ _ r h => by simp [relay_Relay.j0] at h, fun _ _ _ _ _ _ _ _ _ _ _ _ _ r h => by simp [relay_Relay.l0] at h⟩
  | k + 1 => by
    obtain ⟨ih0, ih1⟩ := relay_Relay.mono_l k
    refine ⟨?_, ?_⟩
    · intro y0 y1 y2 y3 y4 y5 y6 y7 y8 y9 y10
      unfold relay_Relay.j0
      repeat' first
      | (with_reducible exact ih0 _ _ _ _ _ _ _ _ _ _ _)
      | (with_reducible exact ih1 _ _ _ _ _ _ _ _ _ _ _ _ _)
      | (with_reducible exact frame_Good.mono _ _ _ _ _ _ _ _)
      | (with_reducible exact relay_Class.mono _ _ _ _ _ _ _ _ _ _ _ _)
      | (with_reducible exact relay_targets.mono _ _ _ _ _ _)
      | (with_reducible exact LeO.refl _)
      | (with_reducible exact LeO.none _)
      | (with_reducible refine LeO.ite ?_ ?_)
      | (with_reducible refine LeO.bind ?_ (fun _ => ?_))
      | exact ih0 _ _ _ _ _ _ _ _ _ _ _
      | exact ih1 _ _ _ _ _ _ _ _ _ _ _ _ _
      | exact frame_Good.mono _ _ _ _ _ _ _ _
      | exact relay_Class.mono _ _ _ _ _ _ _ _ _ _ _ _
      | exact relay_targets.mono _ _ _ _ _ _
      | exact LeO.none _
      | refine LeO.ite ?_ ?_
      | refine LeO.bind ?_ (fun _ => ?_)
    · intro y0 y1 y2 y3 y4 y5 y6 y7 y8 y9 y10 y11 y12
      unfold relay_Relay.l0
      repeat' first
      | (with_reducible exact ih0 _ _ _ _ _ _ _ _ _ _ _)
      | (with_reducible exact ih1 _ _ _ _ _ _ _ _ _ _ _ _ _)
      | (with_reducible exact frame_Good.mono _ _ _ _ _ _ _ _)
      | (with_reducible exact relay_Class.mono _ _ _ _ _ _ _ _ _ _ _ _)
      | (with_reducible exact relay_targets.mono _ _ _ _ _ _)
      | (with_reducible exact LeO.refl _)
      | (with_reducible exact LeO.none _)
      | (with_reducible refine LeO.ite ?_ ?_)
      | (with_reducible refine LeO.bind ?_ (fun _ => ?_))
      | exact ih0 _ _ _ _ _ _ _ _ _ _ _
      | exact ih1 _ _ _ _ _ _ _ _ _ _ _ _ _
      | exact frame_Good.mono _ _ _ _ _ _ _ _
      | exact relay_Class.mono _ _ _ _ _ _ _ _ _ _ _ _
      | exact relay_targets.mono _ _ _ _ _ _
      | exact LeO.none _
      | refine LeO.ite ?_ ?_
      | refine LeO.bind ?_ (fun _ => ?_)
theorem relay_Relay.mono : ∀ a0 a1 a2 a3 a4 a5 a6 a7 a8 a9 k, LeO (relay_Relay.f k a0 a1 a2 a3 a4 a5 a6 a7 a8 a9) (relay_Relay.f (k + 1) a0 a1 a2 a3 a4 a5 a6 a7 a8 a9) := by
  intro a0 a1 a2 a3 a4 a5 a6 a7 a8 a9 k
  obtain ⟨ih0, ih1⟩ := relay_Relay.mono_l k
  unfold relay_Relay.f
  repeat' first
      | (with_reducible exact ih0 _ _ _ _ _ _ _ _ _ _ _)
      | (with_reducible exact ih1 _ _ _ _ _ _ _ _ _ _ _ _ _)
      | (with_reducible exact frame_Good.mono _ _ _ _ _ _ _ _)
      | (with_reducible exact relay_Class.mono _ _ _ _ _ _ _ _ _ _ _ _)
      | (with_reducible exact relay_targets.mono _ _ _ _ _ _)
      | (with_reducible exact LeO.refl _)
      | (with_reducible exact LeO.none _)
      | (with_reducible refine LeO.ite ?_ ?_)
      | (with_reducible refine LeO.bind ?_ (fun _ => ?_))
      | exact ih0 _ _ _ _ _ _ _ _ _ _ _
      | exact ih1 _ _ _ _ _ _ _ _ _ _ _ _ _
      | exact frame_Good.mono _ _ _ _ _ _ _ _
      | exact relay_Class.mono _ _ _ _ _ _ _ _ _ _ _ _
      | exact relay_targets.mono _ _ _ _ _ _
      | exact LeO.none _
      | refine LeO.ite ?_ ?_
      | refine LeO.bind ?_ (fun _ => ?_)
set_option maxHeartbeats 8000000 in
set_option maxRecDepth 100000 in
theorem relay_Relay.calls (k : Nat) (A0 : Option Addr) (c0 : Nat) (l0 : List (S54)) (a1 : Int) (a2_0 : Int) (a2_1 : Int) (a2_2 : Bool) (a2_3 : Int) (a2_4 : Int) (a2_5 : Int) (a2_6 : ByteArray) (v3 : Value) (l3 : List (S84)) (r : List (S63)) (w : World) (hr0 : Kd.C k54 w A0 l0.length l0) (hc0 : l0.length ≤ c0) (hr3 : TabC w v3 l3) (h : relay_Relay.f k l0 a1 a2_0 a2_1 a2_2 a2_3 a2_4 a2_5 a2_6 l3 = some r) :
    Calls Try.prog 27 #[.slice A0 l0.length c0, .int .i64 a1, .agg #[.int .i64 a2_0, .int .i64 a2_1, .bool a2_2, .int .i64 a2_3, .int .i64 a2_4, .int .i64 a2_5, .string a2_6], v3] w fun e w' => ∃ v0_ : Value, e = .returned (v0_) ∧ Kd.R k63 63 w' w.heap.size (fun _ => True) v0_ r ∧ Below w.heap.size w w' := by
  have hu49 := Try.underlying49
  have hu54 := Try.underlying54
  have hu63 := Try.underlying63
  have HR0 := Aside0.mk hr0
  have HC0 := Aside0.mk hc0
  clear hr0 hc0
  have HR3 := Aside0.mk hr3
  clear hr3
  have HB := Aside0.mk (Below.refl w.heap.size w)
  have H : (if a1 < 0 then (relay_Relay.j0 k l0 a1 l3 true a2_0 a2_1 a2_2 a2_3 a2_4 a2_5 a2_6) else (if a1 ≥ (l0.length : Int) then (relay_Relay.j0 k l0 a1 l3 true a2_0 a2_1 a2_2 a2_3 a2_4 a2_5 a2_6) else (if 0 ≤ a1 then (if a1 < (l0.length : Int) then (if ((rd_T54 l0 a1).f0) = 2 then ((addr_Kept.f a2_0).bind fun t132 => (if t132 = true then (relay_Relay.j0 k l0 a1 l3 true a2_0 a2_1 a2_2 a2_3 a2_4 a2_5 a2_6) else ((frame_Good.f k a2_0 a2_1 a2_2 a2_3 a2_4 a2_5 a2_6).bind fun t133 => (relay_Relay.j0 k l0 a1 l3 (!t133) a2_0 a2_1 a2_2 a2_3 a2_4 a2_5 a2_6)))) else (relay_Relay.j0 k l0 a1 l3 true a2_0 a2_1 a2_2 a2_3 a2_4 a2_5 a2_6)) else (none)) else (none)))) = some r := h
  clear h
  have HC5 := Aside0.mk H
  clear H
  go_enter Try.func27, Try.ntmps27
  go_upto_region 1 with (first | ((with_reducible refine gate_dst (N := 6) rfl ?_); (try (refine gate_guard (by rfl) ?_; dsimp only)); refine box_event ?hg (N := 6) ?hd (cs := #[.int .i64 a2_0, .int .i64 a2_1, .bool a2_2, .int .i64 a2_3, .int .i64 a2_4, .int .i64 a2_5, .string a2_6]) (t := 49) ?hr ?_; (case hd => rfl); (case hg => rfl); (case hr => first | (go_simp; done) | (go_simp; rfl)); intro gb130 hg w6 hbox hb; have n0_ := Aside0.mk (below_step (by repeat (first | (with_reducible first | exact HB.out | apply below_alloc | apply pw_below_drewN | apply below_drew1) | exact HB.out)) hb); have n1_ := Aside0.mk (hbox); have n2_ := Aside0.mk ((by rw [hg]; exact (below_size (by repeat (first | (with_reducible first | exact HB.out | apply below_alloc | apply pw_below_drewN | apply below_drew1) | exact HB.out))) : w.heap.size ≤ gb130)); have n3_ := Aside0.mk ((by rw [hg]; exact (below_size (by repeat (first | (with_reducible first | exact HB.out | apply below_alloc | apply pw_below_drewN | apply below_drew1) | exact HB.out))) : w.heap.size ≤ gb130)); clear HB; have HB := n0_; have BK130 := n1_; have GW130 := n2_; have GE130 := n3_; clear n0_ n1_ n2_ n3_; clear hb hbox hg))
  (try simp only [Act.put, List.setIfInBounds_toArray, List.set_cons_zero, List.set_cons_succ])
  go_cut [39] (fun v39 wc => ∃ (kq : Nat) (x39_4 : Bool), v39 = .bool x39_4 ∧ Aside0 (relay_Relay.j0 kq l0 a1 l3 x39_4 a2_0 a2_1 a2_2 a2_3 a2_4 a2_5 a2_6 = some r) ∧ Aside0 (kq ≤ k) ∧ Aside0 (wc.heap[gb130]? = some (.cells #[.int .i64 a2_0, .int .i64 a2_1, .bool a2_2, .int .i64 a2_3, .int .i64 a2_4, .int .i64 a2_5, .string a2_6] 49 (0, 0))) ∧ Aside0 (Below w.heap.size w wc))
  case first =>
    have H := HC5.out
    clear HC5
    by_cases c7 : a1 < 0
    · rw [if_pos c7] at H
      have c7b0 : decide (a1 < 0) = true := decide_eq_true c7
      clear c7
      (first | rw [c7b0] | (simp only [i64_w, i32_w]; rw [c7b0]) | skip)
      have H' := Aside0.mk H
      clear H
      go_wp2
      go_meet
      case rel => exact ⟨_, (true), (by first | rfl | (simp; done) | (simp [*]; done)), H', ⟨by first | omega | exact Nat.le_refl _⟩, ⟨by (with_reducible repeat (first | refine blk_drewN ?_ _ | refine blk_drew ?_ | refine blk_alloc ?_ _)); exact BK130.out⟩, ⟨by repeat (first | (with_reducible first | exact HB.out | apply below_alloc | apply pw_below_drewN | apply below_drew1 | refine below_set ?_ GE130.out) | exact HB.out)⟩⟩
    · rw [if_neg c7] at H
      have c7b0 : decide (a1 < 0) = false := decide_eq_false c7
      clear c7
      (first | rw [c7b0] | (simp only [i64_w, i32_w]; rw [c7b0]) | skip)
      by_cases c8 : a1 ≥ (l0.length : Int)
      · rw [if_pos c8] at H
        have c8b0 : decide ((l0.length : Int) ≤ a1) = true := decide_eq_true c8
        clear c8
        have H' := Aside0.mk H
        clear H
        go_wp2
        go_meet
        case rel => exact ⟨_, (true), (by first | rfl | (simp; done) | (simp [*]; done)), H', ⟨by first | omega | exact Nat.le_refl _⟩, ⟨by (with_reducible repeat (first | refine blk_drewN ?_ _ | refine blk_drew ?_ | refine blk_alloc ?_ _)); exact BK130.out⟩, ⟨by repeat (first | (with_reducible first | exact HB.out | apply below_alloc | apply pw_below_drewN | apply below_drew1 | refine below_set ?_ GE130.out) | exact HB.out)⟩⟩
      · rw [if_neg c8] at H
        have c8b0 : decide ((l0.length : Int) ≤ a1) = false := decide_eq_false c8
        clear c8
        by_cases c9 : 0 ≤ a1
        · rw [if_pos c9] at H
          have c9b0 : decide (0 ≤ a1) = true := decide_eq_true c9
          clear c9
          by_cases c10 : a1 < (l0.length : Int)
          · rw [if_pos c10] at H
            have c10b0 : decide (a1 < (l0.length : Int)) = true := decide_eq_true c10
            clear c10
            by_cases c11 : ((rd_T54 l0 a1).f0) = 2
            · rw [if_pos c11] at H
              have c11b0 : (((rd_T54 l0 a1).f0) == 2) = true := beq_iff_eq.mpr c11
              have c11b1 : (((rd_T54 l0 a1).f0) != 2) = false := bne_eq_false_iff_eq.mpr c11
              clear c11
              replace H := Option.bind_eq_some_iff.mp H
              obtain ⟨t132, A120, H⟩ := H
              replace H : (if t132 = true then (relay_Relay.j0 k l0 a1 l3 true a2_0 a2_1 a2_2 a2_3 a2_4 a2_5 a2_6) else ((frame_Good.f k a2_0 a2_1 a2_2 a2_3 a2_4 a2_5 a2_6).bind fun t133 => (relay_Relay.j0 k l0 a1 l3 (!t133) a2_0 a2_1 a2_2 a2_3 a2_4 a2_5 a2_6))) = some r := H
              have A12 := Aside0.mk A120
              clear A120
              by_cases c13 : t132 = true
              · subst c13
                have H1 : (relay_Relay.j0 k l0 a1 l3 true a2_0 a2_1 a2_2 a2_3 a2_4 a2_5 a2_6) = some r := by rw [if_pos rfl] at H; exact H
                clear H
                have H := H1
                clear H1
                have H' := Aside0.mk H
                clear H
                have p131 : 0 ≤ (a1 : Int) := of_decide_eq_true (by first | (with_reducible assumption) | assumption)
                have q131 : a1 < (l0.length : Int) := of_decide_eq_true (by first | (with_reducible assumption) | assumption)
                obtain ⟨ad131, A131_3, c131_3, e131, hx131_0, hx131_1, hx131_2, hx131_3, hl131_3, hi131_3⟩ := at_T54 HR0.out a1 p131 q131
                cases e131
                replace hx131_0 := (HB.out.cell (World.block_lt_of_cell? w _ hx131_0)).trans hx131_0
                replace hx131_1 := (HB.out.cell (World.block_lt_of_cell? w _ hx131_1)).trans hx131_1
                replace hx131_2 := (HB.out.cell (World.block_lt_of_cell? w _ hx131_2)).trans hx131_2
                replace hx131_3 := (HB.out.cell (World.block_lt_of_cell? w _ hx131_3)).trans hx131_3
                have HR131_3 := Aside0.mk hi131_3
                have HC131_3 := Aside0.mk hl131_3
                clear hi131_3 hl131_3
                replace p131 := eq_true p131
                replace q131 := eq_true q131
                have hcz14_0 : w6.cell? ⟨gb130, 0, none⟩ = some (.int .i64 a2_0) := (blk_cell BK130.out 0).trans rfl
                have hcz14_1 : w6.cell? ⟨gb130, 1, none⟩ = some (.int .i64 a2_1) := (blk_cell BK130.out 1).trans rfl
                have hcz14_2 : w6.cell? ⟨gb130, 2, none⟩ = some (.bool a2_2) := (blk_cell BK130.out 2).trans rfl
                have hcz14_3 : w6.cell? ⟨gb130, 3, none⟩ = some (.int .i64 a2_3) := (blk_cell BK130.out 3).trans rfl
                have hcz14_4 : w6.cell? ⟨gb130, 4, none⟩ = some (.int .i64 a2_4) := (blk_cell BK130.out 4).trans rfl
                have hcz14_5 : w6.cell? ⟨gb130, 5, none⟩ = some (.int .i64 a2_5) := (blk_cell BK130.out 5).trans rfl
                have hcz14_6 : w6.cell? ⟨gb130, 6, none⟩ = some (.string a2_6) := (blk_cell BK130.out 6).trans rfl
                have hfz14_0 := blk_frozen BK130.out 0
                have hfz14_1 := blk_frozen BK130.out 1
                have hfz14_2 := blk_frozen BK130.out 2
                have hfz14_3 := blk_frozen BK130.out 3
                have hfz14_4 := blk_frozen BK130.out 4
                have hfz14_5 := blk_frozen BK130.out 5
                have hfz14_6 := blk_frozen BK130.out 6
                go_wp2_with (first | (go_at_call 37; (with_reducible refine (addr_Kept.calls a2_0 true _ A12.out).mono ?_); rintro e w' ⟨rfl, ⟨nd, rfl⟩⟩))
                go_meet
                case rel => exact ⟨_, (true), (by first | rfl | (simp; done) | (simp [*]; done)), H', ⟨by first | omega | exact Nat.le_refl _⟩, ⟨by (with_reducible repeat (first | refine blk_drewN ?_ _ | refine blk_drew ?_ | refine blk_alloc ?_ _)); exact BK130.out⟩, ⟨by repeat (first | (with_reducible first | exact HB.out | apply below_alloc | apply pw_below_drewN | apply below_drew1 | refine below_set ?_ GE130.out) | exact HB.out)⟩⟩
              · replace c13 := Bool.eq_false_iff.mpr c13
                subst c13
                have H1 : ((frame_Good.f k a2_0 a2_1 a2_2 a2_3 a2_4 a2_5 a2_6).bind fun t133 => (relay_Relay.j0 k l0 a1 l3 (!t133) a2_0 a2_1 a2_2 a2_3 a2_4 a2_5 a2_6)) = some r := by rw [if_neg (show ¬ (false = true) by decide)] at H; exact H
                clear H
                have H := H1
                clear H1
                replace H := Option.bind_eq_some_iff.mp H
                obtain ⟨t133, A150, H⟩ := H
                replace H : (relay_Relay.j0 k l0 a1 l3 (!t133) a2_0 a2_1 a2_2 a2_3 a2_4 a2_5 a2_6) = some r := H
                have A15 := Aside0.mk A150
                clear A150
                have H' := Aside0.mk H
                clear H
                have p131 : 0 ≤ (a1 : Int) := of_decide_eq_true (by first | (with_reducible assumption) | assumption)
                have q131 : a1 < (l0.length : Int) := of_decide_eq_true (by first | (with_reducible assumption) | assumption)
                obtain ⟨ad131, A131_3, c131_3, e131, hx131_0, hx131_1, hx131_2, hx131_3, hl131_3, hi131_3⟩ := at_T54 HR0.out a1 p131 q131
                cases e131
                replace hx131_0 := (HB.out.cell (World.block_lt_of_cell? w _ hx131_0)).trans hx131_0
                replace hx131_1 := (HB.out.cell (World.block_lt_of_cell? w _ hx131_1)).trans hx131_1
                replace hx131_2 := (HB.out.cell (World.block_lt_of_cell? w _ hx131_2)).trans hx131_2
                replace hx131_3 := (HB.out.cell (World.block_lt_of_cell? w _ hx131_3)).trans hx131_3
                have HR131_3 := Aside0.mk hi131_3
                have HC131_3 := Aside0.mk hl131_3
                clear hi131_3 hl131_3
                replace p131 := eq_true p131
                replace q131 := eq_true q131
                have hcz16_0 : w6.cell? ⟨gb130, 0, none⟩ = some (.int .i64 a2_0) := (blk_cell BK130.out 0).trans rfl
                have hcz16_1 : w6.cell? ⟨gb130, 1, none⟩ = some (.int .i64 a2_1) := (blk_cell BK130.out 1).trans rfl
                have hcz16_2 : w6.cell? ⟨gb130, 2, none⟩ = some (.bool a2_2) := (blk_cell BK130.out 2).trans rfl
                have hcz16_3 : w6.cell? ⟨gb130, 3, none⟩ = some (.int .i64 a2_3) := (blk_cell BK130.out 3).trans rfl
                have hcz16_4 : w6.cell? ⟨gb130, 4, none⟩ = some (.int .i64 a2_4) := (blk_cell BK130.out 4).trans rfl
                have hcz16_5 : w6.cell? ⟨gb130, 5, none⟩ = some (.int .i64 a2_5) := (blk_cell BK130.out 5).trans rfl
                have hcz16_6 : w6.cell? ⟨gb130, 6, none⟩ = some (.string a2_6) := (blk_cell BK130.out 6).trans rfl
                have hfz16_0 := blk_frozen BK130.out 0
                have hfz16_1 := blk_frozen BK130.out 1
                have hfz16_2 := blk_frozen BK130.out 2
                have hfz16_3 := blk_frozen BK130.out 3
                have hfz16_4 := blk_frozen BK130.out 4
                have hfz16_5 := blk_frozen BK130.out 5
                have hfz16_6 := blk_frozen BK130.out 6
                go_wp2_with (first | (go_at_call 37; (with_reducible refine (addr_Kept.calls a2_0 false _ A12.out).mono ?_); rintro e w' ⟨rfl, ⟨nd, rfl⟩⟩) | (go_at_call 38; (with_reducible refine (frame_Good.calls k a2_0 a2_1 a2_2 a2_3 a2_4 a2_5 a2_6 t133 _ A15.out).mono ?_); rintro e w17 ⟨rfl, hb⟩; have n0_ := Aside0.mk (blk_below (g := gb130) (o := .cells #[.int .i64 a2_0, .int .i64 a2_1, .bool a2_2, .int .i64 a2_3, .int .i64 a2_4, .int .i64 a2_5, .string a2_6] 49 (0, 0)) (by (with_reducible repeat (first | refine blk_drewN ?_ _ | refine blk_drew ?_ | refine blk_alloc ?_ _)); exact BK130.out) hb); have n1_ := Aside0.mk (below_step (by repeat (first | (with_reducible first | exact HB.out | apply below_alloc | apply pw_below_drewN | apply below_drew1 | refine below_set ?_ GE130.out) | exact HB.out)) hb); clear BK130; clear HB; have BK130 := n0_; have HB := n1_; clear n0_ n1_; (try clear hb); (try clear hb2); (try clear hk); (try clear hi)))
                go_meet
                case rel => exact ⟨_, (!t133), (by first | rfl | (simp; done) | (simp [*]; done)), H', ⟨by first | omega | exact Nat.le_refl _⟩, ⟨by (with_reducible repeat (first | refine blk_drewN ?_ _ | refine blk_drew ?_ | refine blk_alloc ?_ _)); exact BK130.out⟩, ⟨by repeat (first | (with_reducible first | exact HB.out | apply below_alloc | apply pw_below_drewN | apply below_drew1 | refine below_set ?_ GE130.out) | exact HB.out)⟩⟩
            · rw [if_neg c11] at H
              have c11b0 : (((rd_T54 l0 a1).f0) == 2) = false := beq_eq_false_iff_ne.mpr c11
              have c11b1 : (((rd_T54 l0 a1).f0) != 2) = true := bne_iff_ne.mpr c11
              have H' := Aside0.mk H
              clear H
              have p131 : 0 ≤ (a1 : Int) := of_decide_eq_true (by first | (with_reducible assumption) | assumption)
              have q131 : a1 < (l0.length : Int) := of_decide_eq_true (by first | (with_reducible assumption) | assumption)
              obtain ⟨ad131, A131_3, c131_3, e131, hx131_0, hx131_1, hx131_2, hx131_3, hl131_3, hi131_3⟩ := at_T54 HR0.out a1 p131 q131
              cases e131
              replace hx131_0 := (HB.out.cell (World.block_lt_of_cell? w _ hx131_0)).trans hx131_0
              replace hx131_1 := (HB.out.cell (World.block_lt_of_cell? w _ hx131_1)).trans hx131_1
              replace hx131_2 := (HB.out.cell (World.block_lt_of_cell? w _ hx131_2)).trans hx131_2
              replace hx131_3 := (HB.out.cell (World.block_lt_of_cell? w _ hx131_3)).trans hx131_3
              have HR131_3 := Aside0.mk hi131_3
              have HC131_3 := Aside0.mk hl131_3
              clear hi131_3 hl131_3
              replace p131 := eq_true p131
              replace q131 := eq_true q131
              go_wp2
              go_meet
              case rel => exact ⟨_, (true), (by first | rfl | (simp; done) | (simp [*]; done)), H', ⟨by first | omega | exact Nat.le_refl _⟩, ⟨by (with_reducible repeat (first | refine blk_drewN ?_ _ | refine blk_drew ?_ | refine blk_alloc ?_ _)); exact BK130.out⟩, ⟨by repeat (first | (with_reducible first | exact HB.out | apply below_alloc | apply pw_below_drewN | apply below_drew1 | refine below_set ?_ GE130.out) | exact HB.out)⟩⟩
          · rw [if_neg c10] at H
            exact absurd H (by simp)
        · rw [if_neg c9] at H
          exact absurd H (by simp)
  case rest =>
    clear HC5
    try clear c1
    try clear p1
    try clear q1
    try clear hx1
    try clear c2
    try clear p2
    try clear c3
    try clear c7
    try clear c7b0
    try clear c8
    try clear c8b0
    try clear c9
    try clear c9b0
    try clear c10
    try clear c10b0
    try clear c11
    try clear c11b0
    try clear c11b1
    try clear c13
    try clear p13
    try clear q13
    try clear hx13
    try clear hcz14_0
    try clear hcz14_1
    try clear hcz14_2
    try clear hcz14_3
    try clear hcz14_4
    try clear hcz14_5
    try clear hcz14_6
    try clear hcz16_0
    try clear hcz16_1
    try clear hcz16_2
    try clear hcz16_3
    try clear hcz16_4
    try clear hcz16_5
    try clear hcz16_6
    try clear hfz14_0
    try clear hfz14_1
    try clear hfz14_2
    try clear hfz14_3
    try clear hfz14_4
    try clear hfz14_5
    try clear hfz14_6
    try clear hfz16_0
    try clear hfz16_1
    try clear hfz16_2
    try clear hfz16_3
    try clear hfz16_4
    try clear hfz16_5
    try clear hfz16_6
    try clear hx131_0
    try clear hx131_1
    try clear hx131_2
    try clear hx131_3
    try clear p131
    try clear q131
    obtain ⟨kq, x39_4, rfl, HA, HJ4, BK130, HB⟩ := hcut
    cases kq with
    | zero => exact absurd HA.out (by simp [relay_Relay.j0])
    | succ kj4 =>
      have H := HA.out
      clear HA
      simp only [relay_Relay.j0] at H
      by_cases c18 : x39_4 = true
      · subst c18
        have H1 : (some ([] : List (S63))) = some r := by rw [if_pos rfl] at H; exact H
        clear H
        have H := H1
        clear H1
        obtain rfl := Option.some.inj H
        go_wp2
        go_ret
        exact ⟨_, by first | rfl | (simp [errW_none, errW_some] <;> rfl) | (simp [*, errW_none, errW_some] <;> rfl), by first | exact Kd.R_nil _ _ _ _ _ | exact Kd.N_nil _ _ _ _ _ | exact Kd.V_nil _ _ _ _ _ | exact Kd.Q_nil _ _ _ _ _ | exact Kd.S_nil _ _ _ _ _, by repeat (first | (with_reducible first | exact HB.out | apply below_alloc | apply pw_below_drewN | apply below_drew1 | refine below_set ?_ GE130.out) | exact HB.out)⟩
      · replace c18 := Bool.eq_false_iff.mpr c18
        subst c18
        have H1 : (if 0 ≤ a1 then (if a1 < (l0.length : Int) then ((relay_Class.f kj4 ((rd_T54 l0 a1).f0) ((rd_T54 l0 a1).f1) ((rd_T54 l0 a1).f2) ((rd_T54 l0 a1).f3) a2_0 a2_1 a2_2 a2_3 a2_4 a2_5 a2_6).bind fun t135 => (if t135 = 0 then (some ([] : List (S63))) else ((relay_targets.f kj4 l0 a1 t135 a2_0 l3).bind fun t136 => (relay_Relay.l0 kj4 l0 t135 ([] : List (S63)) t136 (t136.length : Int) 0 a2_0 a2_1 a2_2 a2_3 a2_4 a2_5 a2_6)))) else (none)) else (none)) = some r := by rw [if_neg (show ¬ (false = true) by decide)] at H; exact H
        clear H
        have H := H1
        clear H1
        by_cases c19 : 0 ≤ a1
        · rw [if_pos c19] at H
          have c19b0 : decide (0 ≤ a1) = true := decide_eq_true c19
          clear c19
          by_cases c20 : a1 < (l0.length : Int)
          · rw [if_pos c20] at H
            have c20b0 : decide (a1 < (l0.length : Int)) = true := decide_eq_true c20
            clear c20
            replace H := Option.bind_eq_some_iff.mp H
            obtain ⟨t135, A210, H⟩ := H
            replace H : (if t135 = 0 then (some ([] : List (S63))) else ((relay_targets.f kj4 l0 a1 t135 a2_0 l3).bind fun t136 => (relay_Relay.l0 kj4 l0 t135 ([] : List (S63)) t136 (t136.length : Int) 0 a2_0 a2_1 a2_2 a2_3 a2_4 a2_5 a2_6))) = some r := H
            have A21 := Aside0.mk A210
            clear A210
            by_cases c22 : t135 = 0
            · rw [if_pos c22] at H
              have c22b0 : (t135 == 0) = true := beq_iff_eq.mpr c22
              have c22b1 : (t135 != 0) = false := bne_eq_false_iff_eq.mpr c22
              clear c22
              obtain rfl := Option.some.inj H
              try go_wp2
              have n0_ := Aside0.mk (blk_drew BK130.out)
              have n1_ := Aside0.mk (below_drew1 HB.out)
              clear BK130
              clear HB
              have BK130 := n0_
              have HB := n1_
              clear n0_ n1_
              have p134 : 0 ≤ (a1 : Int) := of_decide_eq_true (by first | (with_reducible assumption) | assumption)
              have q134 : a1 < (l0.length : Int) := of_decide_eq_true (by first | (with_reducible assumption) | assumption)
              obtain ⟨ad134, A134_3, c134_3, e134, hx134_0, hx134_1, hx134_2, hx134_3, hl134_3, hi134_3⟩ := at_T54 HR0.out a1 p134 q134
              have hw134_3 := hx134_3
              have hw134_2 := hx134_2
              have hw134_1 := hx134_1
              have hw134_0 := hx134_0
              cases e134
              replace hx134_0 := (HB.out.cell (World.block_lt_of_cell? w _ hx134_0)).trans hx134_0
              replace hx134_1 := (HB.out.cell (World.block_lt_of_cell? w _ hx134_1)).trans hx134_1
              replace hx134_2 := (HB.out.cell (World.block_lt_of_cell? w _ hx134_2)).trans hx134_2
              replace hx134_3 := (HB.out.cell (World.block_lt_of_cell? w _ hx134_3)).trans hx134_3
              have HR134_3 := Aside0.mk hi134_3
              have HC134_3 := Aside0.mk hl134_3
              clear hi134_3 hl134_3
              replace p134 := eq_true p134
              replace q134 := eq_true q134
              refine start_ (n := 7) (S := fun w' => w'.cell? ⟨gb130, 0, none⟩ = some (.int .i64 a2_0) ∧ w'.cell? ⟨gb130, 1, none⟩ = some (.int .i64 a2_1) ∧ w'.cell? ⟨gb130, 2, none⟩ = some (.bool a2_2) ∧ w'.cell? ⟨gb130, 3, none⟩ = some (.int .i64 a2_3) ∧ w'.cell? ⟨gb130, 4, none⟩ = some (.int .i64 a2_4) ∧ w'.cell? ⟨gb130, 5, none⟩ = some (.int .i64 a2_5) ∧ w'.cell? ⟨gb130, 6, none⟩ = some (.string a2_6) ∧ w'.cell? (ad134.add ((a1).toNat * 4)) = some (.int .i64 ((rd_T54 l0 a1).f0)) ∧ w'.cell? ⟨(ad134.add ((a1).toNat * 4)).block, (ad134.add ((a1).toNat * 4)).off + 1, none⟩ = some (.int .i64 ((rd_T54 l0 a1).f1)) ∧ w'.cell? ⟨(ad134.add ((a1).toNat * 4)).block, (ad134.add ((a1).toNat * 4)).off + 2, none⟩ = some (.bool ((rd_T54 l0 a1).f2)) ∧ w'.cell? ⟨(ad134.add ((a1).toNat * 4)).block, (ad134.add ((a1).toNat * 4)).off + 3, none⟩ = some (.slice A134_3 ((rd_T54 l0 a1).f3).length c134_3)) (ds := []) #[false, false, false, false, false, false, false] (by kernel_rfl) rfl rfl ⟨(blk_cell BK130.out 0).trans rfl, (blk_cell BK130.out 1).trans rfl, (blk_cell BK130.out 2).trans rfl, (blk_cell BK130.out 3).trans rfl, (blk_cell BK130.out 4).trans rfl, (blk_cell BK130.out 5).trans rfl, (blk_cell BK130.out 6).trans rfl, ((HB.out.cell (World.block_lt_of_cell? w _ hw134_0)).trans hw134_0), ((HB.out.cell (World.block_lt_of_cell? w _ hw134_1)).trans hw134_1), ((HB.out.cell (World.block_lt_of_cell? w _ hw134_2)).trans hw134_2), ((HB.out.cell (World.block_lt_of_cell? w _ hw134_3)).trans hw134_3)⟩ (fun hHeld => ?_)
              generalize wc.drew = w23 at BK130 HB HR134_3 hx134_0 hx134_1 hx134_2 hx134_3 hHeld ⊢
              refine pure_ (i := 0) (N := some 40) (v := ?_) (a' := ?_) #[true, false, false, false, false, false, false] rfl rfl (by kernel_rfl) (fun _ _ _ h => h) (Or.inl ⟨by rfl, ?_⟩) ?_ ?_
              rotate_left
              · intro w'
                go_simp
                with_reducible rfl
              rotate_left
              · simp only [Act.put, List.setIfInBounds_toArray, List.set_cons_zero, List.set_cons_succ, i64_w, i32_w]
                rfl
              refine pure_ (i := 1) (N := some 41) (v := ?_) (a' := ?_) #[true, true, false, false, false, false, false] rfl rfl (by kernel_rfl) (fun _ _ _ h => h) (Or.inl ⟨by rfl, ?_⟩) ?_ ?_
              rotate_left
              · intro w'
                go_simp
                with_reducible rfl
              rotate_left
              · simp only [Act.put, List.setIfInBounds_toArray, List.set_cons_zero, List.set_cons_succ, i64_w, i32_w]
                rfl
              refine pure_ (i := 2) (N := some 42) (v := ?_) (a' := ?_) #[true, true, true, false, false, false, false] rfl rfl (by kernel_rfl) (fun _ _ _ h => h) (Or.inl ⟨by rfl, ?_⟩) ?_ ?_
              rotate_left
              · intro w'
                go_simp
                with_reducible rfl
              rotate_left
              · simp only [Act.put, List.setIfInBounds_toArray, List.set_cons_zero, List.set_cons_succ, i64_w, i32_w]
                rfl
              refine take_ (i := 3) (N := some 43) (v := ?_) (a' := ?_) #[true, true, true, true, false, false, false] rfl rfl (by kernel_rfl) (fun _ _ _ h => h) (Or.inl ⟨by rfl, ?_⟩) hHeld ?_ ?_
              rotate_left
              · rintro w' ⟨s0, s1, s2, s3, s4, s5, s6, s7, s8, s9, s10⟩
                go_simp
                with_reducible rfl
              rotate_left
              · simp only [Act.put, List.setIfInBounds_toArray, List.set_cons_zero, List.set_cons_succ, i64_w, i32_w]
                rfl
              refine take_ (i := 4) (N := some 44) (v := ?_) (a' := ?_) #[true, true, true, true, true, false, false] rfl rfl (by kernel_rfl) (fun _ _ _ h => h) (Or.inl ⟨by rfl, ?_⟩) hHeld ?_ ?_
              rotate_left
              · rintro w' ⟨s0, s1, s2, s3, s4, s5, s6, s7, s8, s9, s10⟩
                go_simp
                with_reducible rfl
              rotate_left
              · simp only [Act.put, List.setIfInBounds_toArray, List.set_cons_zero, List.set_cons_succ, i64_w, i32_w]
                rfl
              refine one_ (i := 5) (N := some 45) #[true, true, true, true, true, true, false] rfl rfl (by kernel_rfl) (by decide) (fun K hK => ?_)
              refine goes_ Try.func39 (by kernel_rfl) rfl #[.agg #[.int .i64 ((rd_T54 l0 a1).f0), .int .i64 ((rd_T54 l0 a1).f1), .bool ((rd_T54 l0 a1).f2), .slice A134_3 ((rd_T54 l0 a1).f3).length c134_3], .agg #[.int .i64 a2_0, .int .i64 a2_1, .bool a2_2, .int .i64 a2_3, .int .i64 a2_4, .int .i64 a2_5, .string a2_6]] (by rfl) rfl rfl (by (try simp only [List.map_toArray, List.map_cons, List.map_nil]); first | done | rfl | (simp only [List.length_drop, List.length_take]; rfl)) ?_
              with_reducible refine (relay_Class.calls kj4 ((rd_T54 l0 a1).f0) ((rd_T54 l0 a1).f1) ((rd_T54 l0 a1).f2) _ _ ((rd_T54 l0 a1).f3) a2_0 a2_1 a2_2 a2_3 a2_4 a2_5 a2_6 t135 _ ?side1 ?side2 A21.out).mono ?_
              (case side1 => repeat (first | exact (Kd.C_below HR134_3.out HB.out) | (with_reducible refine Kd.C_alloc ?_ _) | (with_reducible refine Kd.C_drewN ?_ _) | (with_reducible refine Kd.C_drew ?_)))
              (case side2 => exact HC134_3.out)
              rintro e w24 ⟨rfl, hb⟩
              refine ⟨_, rfl, ?_⟩
              have n0_ := Aside0.mk (blk_below (g := gb130) (o := .cells #[.int .i64 a2_0, .int .i64 a2_1, .bool a2_2, .int .i64 a2_3, .int .i64 a2_4, .int .i64 a2_5, .string a2_6] 49 (0, 0)) (by (with_reducible repeat (first | refine blk_drewN ?_ _ | refine blk_drew ?_ | refine blk_alloc ?_ _)); exact BK130.out) hb)
              have n1_ := Aside0.mk (below_step (by repeat (first | (with_reducible first | exact HB.out | apply below_alloc | apply pw_below_drewN | apply below_drew1 | refine below_set ?_ GE130.out) | exact HB.out)) hb)
              clear BK130
              clear HB
              have BK130 := n0_
              have HB := n1_
              clear n0_ n1_
              (try clear hb)
              (try clear hb2)
              (try clear hk)
              (try clear hi)
              refine hK.out _ _ ⟨(blk_cell BK130.out 0).trans rfl, (blk_cell BK130.out 1).trans rfl, (blk_cell BK130.out 2).trans rfl, (blk_cell BK130.out 3).trans rfl, (blk_cell BK130.out 4).trans rfl, (blk_cell BK130.out 5).trans rfl, (blk_cell BK130.out 6).trans rfl, ((HB.out.cell (World.block_lt_of_cell? w _ hw134_0)).trans hw134_0), ((HB.out.cell (World.block_lt_of_cell? w _ hw134_1)).trans hw134_1), ((HB.out.cell (World.block_lt_of_cell? w _ hw134_2)).trans hw134_2), ((HB.out.cell (World.block_lt_of_cell? w _ hw134_3)).trans hw134_3)⟩ (fun hHeld => ?_)
              clear hK K
              refine norm_ (a' := ?_) ?_ ?_
              rotate_left
              · show Act.put _ (some 45) _ = _
                simp only [Act.put, List.setIfInBounds_toArray, List.set_cons_zero, List.set_cons_succ, i64_w, i32_w]
                rfl
              refine pure_ (i := 6) (N := some 9) (v := ?_) (a' := ?_) #[true, true, true, true, true, true, true] rfl rfl (by kernel_rfl) (fun _ _ _ h => h) (Or.inl ⟨by rfl, ?_⟩) ?_ ?_
              rotate_left
              · intro w'
                go_simp
                with_reducible rfl
              rotate_left
              · simp only [Act.put, List.setIfInBounds_toArray, List.set_cons_zero, List.set_cons_succ, i64_w, i32_w]
                rfl
              refine done_ (by kernel_rfl) ?_
              try go_wp2
              go_ret
              exact ⟨_, by first | rfl | (simp [errW_none, errW_some] <;> rfl) | (simp [*, errW_none, errW_some] <;> rfl), by first | exact Kd.R_nil _ _ _ _ _ | exact Kd.N_nil _ _ _ _ _ | exact Kd.V_nil _ _ _ _ _ | exact Kd.Q_nil _ _ _ _ _ | exact Kd.S_nil _ _ _ _ _, by repeat (first | (with_reducible first | exact HB.out | apply below_alloc | apply pw_below_drewN | apply below_drew1 | refine below_set ?_ GE130.out) | exact HB.out)⟩
            · rw [if_neg c22] at H
              have c22b0 : (t135 == 0) = false := beq_eq_false_iff_ne.mpr c22
              have c22b1 : (t135 != 0) = true := bne_iff_ne.mpr c22
              replace H := Option.bind_eq_some_iff.mp H
              obtain ⟨t136, A250, H⟩ := H
              replace H : (relay_Relay.l0 kj4 l0 t135 ([] : List (S63)) t136 (t136.length : Int) 0 a2_0 a2_1 a2_2 a2_3 a2_4 a2_5 a2_6) = some r := H
              have A25 := Aside0.mk A250
              clear A250
              have H' := Aside0.mk H
              clear H
              try go_wp2
              have n0_ := Aside0.mk (blk_drew BK130.out)
              have n1_ := Aside0.mk (below_drew1 HB.out)
              clear BK130
              clear HB
              have BK130 := n0_
              have HB := n1_
              clear n0_ n1_
              have p134 : 0 ≤ (a1 : Int) := of_decide_eq_true (by first | (with_reducible assumption) | assumption)
              have q134 : a1 < (l0.length : Int) := of_decide_eq_true (by first | (with_reducible assumption) | assumption)
              obtain ⟨ad134, A134_3, c134_3, e134, hx134_0, hx134_1, hx134_2, hx134_3, hl134_3, hi134_3⟩ := at_T54 HR0.out a1 p134 q134
              have hw134_3 := hx134_3
              have hw134_2 := hx134_2
              have hw134_1 := hx134_1
              have hw134_0 := hx134_0
              cases e134
              replace hx134_0 := (HB.out.cell (World.block_lt_of_cell? w _ hx134_0)).trans hx134_0
              replace hx134_1 := (HB.out.cell (World.block_lt_of_cell? w _ hx134_1)).trans hx134_1
              replace hx134_2 := (HB.out.cell (World.block_lt_of_cell? w _ hx134_2)).trans hx134_2
              replace hx134_3 := (HB.out.cell (World.block_lt_of_cell? w _ hx134_3)).trans hx134_3
              have HR134_3 := Aside0.mk hi134_3
              have HC134_3 := Aside0.mk hl134_3
              clear hi134_3 hl134_3
              replace p134 := eq_true p134
              replace q134 := eq_true q134
              refine start_ (n := 7) (S := fun w' => w'.cell? ⟨gb130, 0, none⟩ = some (.int .i64 a2_0) ∧ w'.cell? ⟨gb130, 1, none⟩ = some (.int .i64 a2_1) ∧ w'.cell? ⟨gb130, 2, none⟩ = some (.bool a2_2) ∧ w'.cell? ⟨gb130, 3, none⟩ = some (.int .i64 a2_3) ∧ w'.cell? ⟨gb130, 4, none⟩ = some (.int .i64 a2_4) ∧ w'.cell? ⟨gb130, 5, none⟩ = some (.int .i64 a2_5) ∧ w'.cell? ⟨gb130, 6, none⟩ = some (.string a2_6) ∧ w'.cell? (ad134.add ((a1).toNat * 4)) = some (.int .i64 ((rd_T54 l0 a1).f0)) ∧ w'.cell? ⟨(ad134.add ((a1).toNat * 4)).block, (ad134.add ((a1).toNat * 4)).off + 1, none⟩ = some (.int .i64 ((rd_T54 l0 a1).f1)) ∧ w'.cell? ⟨(ad134.add ((a1).toNat * 4)).block, (ad134.add ((a1).toNat * 4)).off + 2, none⟩ = some (.bool ((rd_T54 l0 a1).f2)) ∧ w'.cell? ⟨(ad134.add ((a1).toNat * 4)).block, (ad134.add ((a1).toNat * 4)).off + 3, none⟩ = some (.slice A134_3 ((rd_T54 l0 a1).f3).length c134_3)) (ds := []) #[false, false, false, false, false, false, false] (by kernel_rfl) rfl rfl ⟨(blk_cell BK130.out 0).trans rfl, (blk_cell BK130.out 1).trans rfl, (blk_cell BK130.out 2).trans rfl, (blk_cell BK130.out 3).trans rfl, (blk_cell BK130.out 4).trans rfl, (blk_cell BK130.out 5).trans rfl, (blk_cell BK130.out 6).trans rfl, ((HB.out.cell (World.block_lt_of_cell? w _ hw134_0)).trans hw134_0), ((HB.out.cell (World.block_lt_of_cell? w _ hw134_1)).trans hw134_1), ((HB.out.cell (World.block_lt_of_cell? w _ hw134_2)).trans hw134_2), ((HB.out.cell (World.block_lt_of_cell? w _ hw134_3)).trans hw134_3)⟩ (fun hHeld => ?_)
              generalize wc.drew = w26 at BK130 HB HR134_3 hx134_0 hx134_1 hx134_2 hx134_3 hHeld ⊢
              refine pure_ (i := 0) (N := some 40) (v := ?_) (a' := ?_) #[true, false, false, false, false, false, false] rfl rfl (by kernel_rfl) (fun _ _ _ h => h) (Or.inl ⟨by rfl, ?_⟩) ?_ ?_
              rotate_left
              · intro w'
                go_simp
                with_reducible rfl
              rotate_left
              · simp only [Act.put, List.setIfInBounds_toArray, List.set_cons_zero, List.set_cons_succ, i64_w, i32_w]
                rfl
              refine pure_ (i := 1) (N := some 41) (v := ?_) (a' := ?_) #[true, true, false, false, false, false, false] rfl rfl (by kernel_rfl) (fun _ _ _ h => h) (Or.inl ⟨by rfl, ?_⟩) ?_ ?_
              rotate_left
              · intro w'
                go_simp
                with_reducible rfl
              rotate_left
              · simp only [Act.put, List.setIfInBounds_toArray, List.set_cons_zero, List.set_cons_succ, i64_w, i32_w]
                rfl
              refine pure_ (i := 2) (N := some 42) (v := ?_) (a' := ?_) #[true, true, true, false, false, false, false] rfl rfl (by kernel_rfl) (fun _ _ _ h => h) (Or.inl ⟨by rfl, ?_⟩) ?_ ?_
              rotate_left
              · intro w'
                go_simp
                with_reducible rfl
              rotate_left
              · simp only [Act.put, List.setIfInBounds_toArray, List.set_cons_zero, List.set_cons_succ, i64_w, i32_w]
                rfl
              refine take_ (i := 3) (N := some 43) (v := ?_) (a' := ?_) #[true, true, true, true, false, false, false] rfl rfl (by kernel_rfl) (fun _ _ _ h => h) (Or.inl ⟨by rfl, ?_⟩) hHeld ?_ ?_
              rotate_left
              · rintro w' ⟨s0, s1, s2, s3, s4, s5, s6, s7, s8, s9, s10⟩
                go_simp
                with_reducible rfl
              rotate_left
              · simp only [Act.put, List.setIfInBounds_toArray, List.set_cons_zero, List.set_cons_succ, i64_w, i32_w]
                rfl
              refine take_ (i := 4) (N := some 44) (v := ?_) (a' := ?_) #[true, true, true, true, true, false, false] rfl rfl (by kernel_rfl) (fun _ _ _ h => h) (Or.inl ⟨by rfl, ?_⟩) hHeld ?_ ?_
              rotate_left
              · rintro w' ⟨s0, s1, s2, s3, s4, s5, s6, s7, s8, s9, s10⟩
                go_simp
                with_reducible rfl
              rotate_left
              · simp only [Act.put, List.setIfInBounds_toArray, List.set_cons_zero, List.set_cons_succ, i64_w, i32_w]
                rfl
              refine one_ (i := 5) (N := some 45) #[true, true, true, true, true, true, false] rfl rfl (by kernel_rfl) (by decide) (fun K hK => ?_)
              refine goes_ Try.func39 (by kernel_rfl) rfl #[.agg #[.int .i64 ((rd_T54 l0 a1).f0), .int .i64 ((rd_T54 l0 a1).f1), .bool ((rd_T54 l0 a1).f2), .slice A134_3 ((rd_T54 l0 a1).f3).length c134_3], .agg #[.int .i64 a2_0, .int .i64 a2_1, .bool a2_2, .int .i64 a2_3, .int .i64 a2_4, .int .i64 a2_5, .string a2_6]] (by rfl) rfl rfl (by (try simp only [List.map_toArray, List.map_cons, List.map_nil]); first | done | rfl | (simp only [List.length_drop, List.length_take]; rfl)) ?_
              with_reducible refine (relay_Class.calls kj4 ((rd_T54 l0 a1).f0) ((rd_T54 l0 a1).f1) ((rd_T54 l0 a1).f2) _ _ ((rd_T54 l0 a1).f3) a2_0 a2_1 a2_2 a2_3 a2_4 a2_5 a2_6 t135 _ ?side1 ?side2 A21.out).mono ?_
              (case side1 => repeat (first | exact (Kd.C_below HR134_3.out HB.out) | (with_reducible refine Kd.C_alloc ?_ _) | (with_reducible refine Kd.C_drewN ?_ _) | (with_reducible refine Kd.C_drew ?_)))
              (case side2 => exact HC134_3.out)
              rintro e w27 ⟨rfl, hb⟩
              refine ⟨_, rfl, ?_⟩
              have n0_ := Aside0.mk (blk_below (g := gb130) (o := .cells #[.int .i64 a2_0, .int .i64 a2_1, .bool a2_2, .int .i64 a2_3, .int .i64 a2_4, .int .i64 a2_5, .string a2_6] 49 (0, 0)) (by (with_reducible repeat (first | refine blk_drewN ?_ _ | refine blk_drew ?_ | refine blk_alloc ?_ _)); exact BK130.out) hb)
              have n1_ := Aside0.mk (below_step (by repeat (first | (with_reducible first | exact HB.out | apply below_alloc | apply pw_below_drewN | apply below_drew1 | refine below_set ?_ GE130.out) | exact HB.out)) hb)
              clear BK130
              clear HB
              have BK130 := n0_
              have HB := n1_
              clear n0_ n1_
              (try clear hb)
              (try clear hb2)
              (try clear hk)
              (try clear hi)
              refine hK.out _ _ ⟨(blk_cell BK130.out 0).trans rfl, (blk_cell BK130.out 1).trans rfl, (blk_cell BK130.out 2).trans rfl, (blk_cell BK130.out 3).trans rfl, (blk_cell BK130.out 4).trans rfl, (blk_cell BK130.out 5).trans rfl, (blk_cell BK130.out 6).trans rfl, ((HB.out.cell (World.block_lt_of_cell? w _ hw134_0)).trans hw134_0), ((HB.out.cell (World.block_lt_of_cell? w _ hw134_1)).trans hw134_1), ((HB.out.cell (World.block_lt_of_cell? w _ hw134_2)).trans hw134_2), ((HB.out.cell (World.block_lt_of_cell? w _ hw134_3)).trans hw134_3)⟩ (fun hHeld => ?_)
              clear hK K
              refine norm_ (a' := ?_) ?_ ?_
              rotate_left
              · show Act.put _ (some 45) _ = _
                simp only [Act.put, List.setIfInBounds_toArray, List.set_cons_zero, List.set_cons_succ, i64_w, i32_w]
                rfl
              refine pure_ (i := 6) (N := some 9) (v := ?_) (a' := ?_) #[true, true, true, true, true, true, true] rfl rfl (by kernel_rfl) (fun _ _ _ h => h) (Or.inl ⟨by rfl, ?_⟩) ?_ ?_
              rotate_left
              · intro w'
                go_simp
                with_reducible rfl
              rotate_left
              · simp only [Act.put, List.setIfInBounds_toArray, List.set_cons_zero, List.set_cons_succ, i64_w, i32_w]
                rfl
              refine done_ (by kernel_rfl) ?_
              have hcz28_0 : w27.cell? ⟨gb130, 0, none⟩ = some (.int .i64 a2_0) := (blk_cell BK130.out 0).trans rfl
              have hcz28_1 : w27.cell? ⟨gb130, 1, none⟩ = some (.int .i64 a2_1) := (blk_cell BK130.out 1).trans rfl
              have hcz28_2 : w27.cell? ⟨gb130, 2, none⟩ = some (.bool a2_2) := (blk_cell BK130.out 2).trans rfl
              have hcz28_3 : w27.cell? ⟨gb130, 3, none⟩ = some (.int .i64 a2_3) := (blk_cell BK130.out 3).trans rfl
              have hcz28_4 : w27.cell? ⟨gb130, 4, none⟩ = some (.int .i64 a2_4) := (blk_cell BK130.out 4).trans rfl
              have hcz28_5 : w27.cell? ⟨gb130, 5, none⟩ = some (.int .i64 a2_5) := (blk_cell BK130.out 5).trans rfl
              have hcz28_6 : w27.cell? ⟨gb130, 6, none⟩ = some (.string a2_6) := (blk_cell BK130.out 6).trans rfl
              have hfz28_0 := blk_frozen BK130.out 0
              have hfz28_1 := blk_frozen BK130.out 1
              have hfz28_2 := blk_frozen BK130.out 2
              have hfz28_3 := blk_frozen BK130.out 3
              have hfz28_4 := blk_frozen BK130.out 4
              have hfz28_5 := blk_frozen BK130.out 5
              have hfz28_6 := blk_frozen BK130.out 6
              try go_wp2_with (first | ((with_reducible refine gate_callee (f := 40) rfl ?_); refine goesL_ (some 54) rfl rfl Try.func40 (by kernel_rfl) rfl #[.slice (some ad134) l0.length c0, .int .i64 a1, .int .i64 t135, .int .i64 a2_0, v3] rfl (by (try simp only [List.map_toArray, List.map_cons, List.map_nil]); first | done | rfl | (simp only [List.length_drop, List.length_take]; rfl)) ?_; (with_reducible refine (relay_targets.calls kj4 _ _ l0 a1 t135 a2_0 _ l3 t136 _ ?side1 ?side2 ?side3 A25.out).mono ?_); (case side1 => repeat (first | exact (Kd.C_below HR0.out HB.out) | (with_reducible refine Kd.C_alloc ?_ _) | (with_reducible refine Kd.C_drewN ?_ _) | (with_reducible refine Kd.C_drew ?_))); (case side2 => exact HC0.out); (case side3 => repeat (first | exact (TabC.below HR3.out HB.out) | (with_reducible refine TabC.alloc ?_ _) | (with_reducible refine TabC.drewN ?_ _) | (with_reducible refine TabC.drew ?_))); rintro e w29 ⟨v137, rfl, ho0, hb⟩; refine ⟨_, rfl, ?_⟩; have n0_ := Aside0.mk (Kd.R_lower ho0 (below_size (by repeat (first | (with_reducible first | exact HB.out | apply below_alloc | apply pw_below_drewN | apply below_drew1 | refine below_set ?_ GE130.out) | exact HB.out)))); have n1_ := Aside0.mk (blk_below (g := gb130) (o := .cells #[.int .i64 a2_0, .int .i64 a2_1, .bool a2_2, .int .i64 a2_3, .int .i64 a2_4, .int .i64 a2_5, .string a2_6] 49 (0, 0)) (by (with_reducible repeat (first | refine blk_drewN ?_ _ | refine blk_drew ?_ | refine blk_alloc ?_ _)); exact BK130.out) hb); have n2_ := Aside0.mk (below_step (by repeat (first | (with_reducible first | exact HB.out | apply below_alloc | apply pw_below_drewN | apply below_drew1 | refine below_set ?_ GE130.out) | exact HB.out)) hb); clear BK130; clear HB; have HO138 := n0_; have BK130 := n1_; have HB := n2_; clear n0_ n1_ n2_; (try clear hb); (try clear hb2); (try clear hk); (try clear hi); (try clear ho0); obtain ⟨Ao30, co30, eo30⟩ := Kd.R_slice HO138.out; subst eo30))
              go_loopg [10, 56] kj4 (fun kq v10 v56 w' => ∃ (x10_2 : List (S63)) (x56_2 : Int), v56 = .int .i64 x56_2 ∧ Aside0 (relay_Relay.l0 kq l0 t135 x10_2 t136 (t136.length : Int) x56_2 a2_0 a2_1 a2_2 a2_3 a2_4 a2_5 a2_6 = some r) ∧ Aside0 (kq ≤ kj4) ∧ Aside0 (Kd.R k63 63 w' w.heap.size (fun _ => True) v10 x10_2) ∧ Aside0 (Kd.R (Kd.int .i64) 3 w' w.heap.size (fun _ => True) (.slice Ao30 t136.length co30) t136) ∧ Aside0 (w'.heap[gb130]? = some (.cells #[.int .i64 a2_0, .int .i64 a2_1, .bool a2_2, .int .i64 a2_3, .int .i64 a2_4, .int .i64 a2_5, .string a2_6] 49 (0, 0))) ∧ Aside0 (Below w.heap.size w w'))
              case atStart => exact ⟨(([] : List (S63))), (0), (by first | rfl | (simp; done) | (simp [*]; done)), H', ⟨Nat.le_refl _⟩, ⟨by first | exact Kd.R_nil _ _ _ _ _ | exact Kd.N_nil _ _ _ _ _ | exact Kd.V_nil _ _ _ _ _ | exact Kd.Q_nil _ _ _ _ _ | exact Kd.S_nil _ _ _ _ _⟩, ⟨by (with_reducible repeat (first | apply Kd.R_alloc | apply Kd.R_drewN | apply Kd.R_drew)); exact HO138.out⟩, ⟨by (with_reducible repeat (first | refine blk_drewN ?_ _ | refine blk_drew ?_ | refine blk_alloc ?_ _)); exact BK130.out⟩, ⟨by repeat (first | (with_reducible first | exact HB.out | apply below_alloc | apply pw_below_drewN | apply below_drew1 | refine below_set ?_ GE130.out) | exact HB.out)⟩⟩
              case round =>
                clear H'
                try clear c1
                try clear p1
                try clear q1
                try clear hx1
                try clear c2
                try clear p2
                try clear c3
                try clear c4
                try clear c7
                try clear c7b0
                try clear c8
                try clear c8b0
                try clear c9
                try clear c9b0
                try clear c10
                try clear c10b0
                try clear c11
                try clear c11b0
                try clear c11b1
                try clear c13
                try clear p13
                try clear q13
                try clear hx13
                try clear c18
                try clear c19
                try clear c19b0
                try clear c20
                try clear c20b0
                try clear c22
                try clear c22b0
                try clear c22b1
                try clear c27
                try clear hcz14_0
                try clear hcz14_1
                try clear hcz14_2
                try clear hcz14_3
                try clear hcz14_4
                try clear hcz14_5
                try clear hcz14_6
                try clear hcz16_0
                try clear hcz16_1
                try clear hcz16_2
                try clear hcz16_3
                try clear hcz16_4
                try clear hcz16_5
                try clear hcz16_6
                try clear hcz28_0
                try clear hcz28_1
                try clear hcz28_2
                try clear hcz28_3
                try clear hcz28_4
                try clear hcz28_5
                try clear hcz28_6
                try clear hfz14_0
                try clear hfz14_1
                try clear hfz14_2
                try clear hfz14_3
                try clear hfz14_4
                try clear hfz14_5
                try clear hfz14_6
                try clear hfz16_0
                try clear hfz16_1
                try clear hfz16_2
                try clear hfz16_3
                try clear hfz16_4
                try clear hfz16_5
                try clear hfz16_6
                try clear hfz28_0
                try clear hfz28_1
                try clear hfz28_2
                try clear hfz28_3
                try clear hfz28_4
                try clear hfz28_5
                try clear hfz28_6
                try clear hx131_0
                try clear hx131_1
                try clear hx131_2
                try clear hx131_3
                try clear hx134_0
                try clear hx134_1
                try clear hx134_2
                try clear hx134_3
                try clear p1
                try clear p13
                try clear p131
                try clear p134
                try clear p2
                try clear q1
                try clear q13
                try clear q131
                try clear q134
                obtain ⟨x10_2, x56_2, rfl, HA, HK2, HO_10, HO_54, BK130, HB⟩ := hrel
                cases gk with
                | zero => exact absurd HA.out (by simp [relay_Relay.l0])
                | succ k2 =>
                  have H := HA.out
                  clear HA
                  simp only [relay_Relay.l0] at H
                  by_cases c31 : x56_2 < (t136.length : Int)
                  · rw [if_pos c31] at H
                    have c31b0 : decide (x56_2 < (t136.length : Int)) = true := decide_eq_true c31
                    clear c31
                    by_cases c32 : 0 ≤ x56_2
                    · rw [if_pos c32] at H
                      have c32b0 : decide (0 ≤ x56_2) = true := decide_eq_true c32
                      clear c32
                      by_cases c33 : x56_2 < (t136.length : Int)
                      · rw [if_pos c33] at H
                        have c33b0 : decide (x56_2 < (t136.length : Int)) = true := decide_eq_true c33
                        clear c33
                        replace H := Option.bind_eq_some_iff.mp H
                        obtain ⟨⟨t140, t141, t142, t143, t144, t145, t146⟩, A340, H⟩ := H
                        replace H : (if 0 ≤ (rd t136 x56_2) then (if (rd t136 x56_2) < (l0.length : Int) then (if (rd_T54 l0 (rd t136 x56_2)).f2 = true then (if ((rd_T54 l0 (rd t136 x56_2)).f1) = t135 then ((frame_Untag.f a2_0 a2_1 a2_2 a2_3 a2_4 a2_5 a2_6).bind fun bt150 => (if x10_2.length < 1954687338268 then (relay_Relay.l0 k2 l0 t135 (x10_2 ++ [(⟨rd t136 x56_2, (⟨bt150.1, bt150.2.1, bt150.2.2.1, bt150.2.2.2.1, bt150.2.2.2.2.1, bt150.2.2.2.2.2.1, bt150.2.2.2.2.2.2⟩ : S49)⟩ : S63)]) t136 (t136.length : Int) (wrap64 (x56_2 + 1)) a2_0 a2_1 a2_2 a2_3 a2_4 a2_5 a2_6) else (none))) else (if x10_2.length < 1954687338268 then (relay_Relay.l0 k2 l0 t135 (x10_2 ++ [(⟨rd t136 x56_2, (⟨t140, t141, t142, t143, t144, t145, t146⟩ : S49)⟩ : S63)]) t136 (t136.length : Int) (wrap64 (x56_2 + 1)) a2_0 a2_1 a2_2 a2_3 a2_4 a2_5 a2_6) else (none))) else (if x10_2.length < 1954687338268 then (relay_Relay.l0 k2 l0 t135 (x10_2 ++ [(⟨rd t136 x56_2, (⟨t140, t141, t142, t143, t144, t145, t146⟩ : S49)⟩ : S63)]) t136 (t136.length : Int) (wrap64 (x56_2 + 1)) a2_0 a2_1 a2_2 a2_3 a2_4 a2_5 a2_6) else (none))) else (none)) else (none)) = some r := H
                        have A34 := Aside0.mk A340
                        clear A340
                        by_cases c35 : 0 ≤ (rd t136 x56_2)
                        · rw [if_pos c35] at H
                          have c35b0 : decide (0 ≤ (rd t136 x56_2)) = true := decide_eq_true c35
                          clear c35
                          by_cases c36 : (rd t136 x56_2) < (l0.length : Int)
                          · rw [if_pos c36] at H
                            have c36b0 : decide ((rd t136 x56_2) < (l0.length : Int)) = true := decide_eq_true c36
                            clear c36
                            obtain ⟨bq37, hbq37⟩ : ∃ b_ : Bool, b_ = ((rd_T54 l0 (rd t136 x56_2)).f2) := ⟨_, rfl⟩
                            replace H : (if bq37 = true then (if ((rd_T54 l0 (rd t136 x56_2)).f1) = t135 then ((frame_Untag.f a2_0 a2_1 a2_2 a2_3 a2_4 a2_5 a2_6).bind fun bt150 => (if x10_2.length < 1954687338268 then (relay_Relay.l0 k2 l0 t135 (x10_2 ++ [(⟨rd t136 x56_2, (⟨bt150.1, bt150.2.1, bt150.2.2.1, bt150.2.2.2.1, bt150.2.2.2.2.1, bt150.2.2.2.2.2.1, bt150.2.2.2.2.2.2⟩ : S49)⟩ : S63)]) t136 (t136.length : Int) (wrap64 (x56_2 + 1)) a2_0 a2_1 a2_2 a2_3 a2_4 a2_5 a2_6) else (none))) else (if x10_2.length < 1954687338268 then (relay_Relay.l0 k2 l0 t135 (x10_2 ++ [(⟨rd t136 x56_2, (⟨t140, t141, t142, t143, t144, t145, t146⟩ : S49)⟩ : S63)]) t136 (t136.length : Int) (wrap64 (x56_2 + 1)) a2_0 a2_1 a2_2 a2_3 a2_4 a2_5 a2_6) else (none))) else (if x10_2.length < 1954687338268 then (relay_Relay.l0 k2 l0 t135 (x10_2 ++ [(⟨rd t136 x56_2, (⟨t140, t141, t142, t143, t144, t145, t146⟩ : S49)⟩ : S63)]) t136 (t136.length : Int) (wrap64 (x56_2 + 1)) a2_0 a2_1 a2_2 a2_3 a2_4 a2_5 a2_6) else (none))) = some r := by rw [← hbq37] at H; exact H
                            have Nbq37 := Aside0.mk hbq37
                            clear hbq37
                            by_cases c38 : bq37 = true
                            · subst c38
                              have H1 : (if ((rd_T54 l0 (rd t136 x56_2)).f1) = t135 then ((frame_Untag.f a2_0 a2_1 a2_2 a2_3 a2_4 a2_5 a2_6).bind fun bt150 => (if x10_2.length < 1954687338268 then (relay_Relay.l0 k2 l0 t135 (x10_2 ++ [(⟨rd t136 x56_2, (⟨bt150.1, bt150.2.1, bt150.2.2.1, bt150.2.2.2.1, bt150.2.2.2.2.1, bt150.2.2.2.2.2.1, bt150.2.2.2.2.2.2⟩ : S49)⟩ : S63)]) t136 (t136.length : Int) (wrap64 (x56_2 + 1)) a2_0 a2_1 a2_2 a2_3 a2_4 a2_5 a2_6) else (none))) else (if x10_2.length < 1954687338268 then (relay_Relay.l0 k2 l0 t135 (x10_2 ++ [(⟨rd t136 x56_2, (⟨t140, t141, t142, t143, t144, t145, t146⟩ : S49)⟩ : S63)]) t136 (t136.length : Int) (wrap64 (x56_2 + 1)) a2_0 a2_1 a2_2 a2_3 a2_4 a2_5 a2_6) else (none))) = some r := by rw [if_pos rfl] at H; exact H
                              clear H
                              have H := H1
                              clear H1
                              by_cases c39 : ((rd_T54 l0 (rd t136 x56_2)).f1) = t135
                              · rw [if_pos c39] at H
                                have c39b0 : (((rd_T54 l0 (rd t136 x56_2)).f1) == t135) = true := beq_iff_eq.mpr c39
                                have c39b1 : (((rd_T54 l0 (rd t136 x56_2)).f1) != t135) = false := bne_eq_false_iff_eq.mpr c39
                                clear c39
                                replace H := Option.bind_eq_some_iff.mp H
                                obtain ⟨⟨t150, t151, t152, t153, t154, t155, t156⟩, A400, H⟩ := H
                                replace H : (if x10_2.length < 1954687338268 then (relay_Relay.l0 k2 l0 t135 (x10_2 ++ [(⟨rd t136 x56_2, (⟨t150, t151, t152, t153, t154, t155, t156⟩ : S49)⟩ : S63)]) t136 (t136.length : Int) (wrap64 (x56_2 + 1)) a2_0 a2_1 a2_2 a2_3 a2_4 a2_5 a2_6) else (none)) = some r := H
                                have A40 := Aside0.mk A400
                                clear A400
                                by_cases c41 : x10_2.length < 1954687338268
                                · rw [if_pos c41] at H
                                  have LMc41 := Aside0.mk c41
                                  clear c41
                                  obtain ⟨y157, hy157⟩ : ∃ y_ : List (S63), y_ = (x10_2 ++ [(⟨rd t136 x56_2, (⟨t150, t151, t152, t153, t154, t155, t156⟩ : S49)⟩ : S63)]) := ⟨_, rfl⟩
                                  replace H : (relay_Relay.l0 k2 l0 t135 y157 t136 (t136.length : Int) (wrap64 (x56_2 + 1)) a2_0 a2_1 a2_2 a2_3 a2_4 a2_5 a2_6) = some r := by first | (rw [hy157]; with_reducible exact H) | (have H2_ := (Option.bind_some _ _).symm.trans H; rw [hy157]; with_reducible exact H2_) | (have H2_ := (Option.bind_some _ _).symm.trans H; with_reducible exact H2_) | with_reducible exact H | (rw [hy157]; exact H) | exact H
                                  have Ny157 := Aside0.mk hy157
                                  clear hy157
                                  have H' := Aside0.mk H
                                  clear H
                                  have p139 : 0 ≤ (x56_2 : Int) := of_decide_eq_true (by first | (with_reducible assumption) | assumption)
                                  have q139 : x56_2 < (t136.length : Int) := of_decide_eq_true (by first | (with_reducible assumption) | assumption)
                                  obtain ⟨ad139, e139, hx139_0⟩ := Kd.at_int (Kd.R_reads' HO_54.out).2.2 x56_2 p139 q139
                                  cases e139
                                  replace p139 := eq_true p139
                                  replace q139 := eq_true q139
                                  have hcz42_0 : wr.cell? ⟨gb130, 0, none⟩ = some (.int .i64 a2_0) := (blk_cell BK130.out 0).trans rfl
                                  have hcz42_1 : wr.cell? ⟨gb130, 1, none⟩ = some (.int .i64 a2_1) := (blk_cell BK130.out 1).trans rfl
                                  have hcz42_2 : wr.cell? ⟨gb130, 2, none⟩ = some (.bool a2_2) := (blk_cell BK130.out 2).trans rfl
                                  have hcz42_3 : wr.cell? ⟨gb130, 3, none⟩ = some (.int .i64 a2_3) := (blk_cell BK130.out 3).trans rfl
                                  have hcz42_4 : wr.cell? ⟨gb130, 4, none⟩ = some (.int .i64 a2_4) := (blk_cell BK130.out 4).trans rfl
                                  have hcz42_5 : wr.cell? ⟨gb130, 5, none⟩ = some (.int .i64 a2_5) := (blk_cell BK130.out 5).trans rfl
                                  have hcz42_6 : wr.cell? ⟨gb130, 6, none⟩ = some (.string a2_6) := (blk_cell BK130.out 6).trans rfl
                                  have hfz42_0 := blk_frozen BK130.out 0
                                  have hfz42_1 := blk_frozen BK130.out 1
                                  have hfz42_2 := blk_frozen BK130.out 2
                                  have hfz42_3 := blk_frozen BK130.out 3
                                  have hfz42_4 := blk_frozen BK130.out 4
                                  have hfz42_5 := blk_frozen BK130.out 5
                                  have hfz42_6 := blk_frozen BK130.out 6
                                  go_wp2_with (first | ((with_reducible refine gate_callee (f := 41) rfl ?_); refine goesL_ (some 64) rfl rfl Try.func41 (by kernel_rfl) rfl #[.agg #[.int .i64 a2_0, .int .i64 a2_1, .bool a2_2, .int .i64 a2_3, .int .i64 a2_4, .int .i64 a2_5, .string a2_6], .int .i64 t135, .int .i64 a2_4] rfl (by (try simp only [List.map_toArray, List.map_cons, List.map_nil]); first | done | rfl | (simp only [List.length_drop, List.length_take]; rfl)) ?_; (with_reducible refine (frame_Tag.calls a2_0 a2_1 a2_2 a2_3 a2_4 a2_5 a2_6 t135 a2_4 t140 t141 t142 t143 t144 t145 t146 _ A34.out).mono ?_); rintro e w43 ⟨rfl, hb⟩; refine ⟨_, rfl, ?_⟩; have n0_ := Aside0.mk (Kd.R_below (by (with_reducible repeat (first | apply Kd.R_alloc | apply Kd.R_drewN | apply Kd.R_drew)); exact HO_10.out) hb); have n1_ := Aside0.mk (Kd.R_below (by (with_reducible repeat (first | apply Kd.R_alloc | apply Kd.R_drewN | apply Kd.R_drew)); exact HO_54.out) hb); have n2_ := Aside0.mk (blk_below (g := gb130) (o := .cells #[.int .i64 a2_0, .int .i64 a2_1, .bool a2_2, .int .i64 a2_3, .int .i64 a2_4, .int .i64 a2_5, .string a2_6] 49 (0, 0)) (by (with_reducible repeat (first | refine blk_drewN ?_ _ | refine blk_drew ?_ | refine blk_alloc ?_ _)); exact BK130.out) hb); have n3_ := Aside0.mk (below_step (by repeat (first | (with_reducible first | exact HB.out | apply below_alloc | apply pw_below_drewN | apply below_drew1 | refine below_set ?_ GE130.out) | exact HB.out)) hb); clear HO_10; clear HO_54; clear BK130; clear HB; have HO_10 := n0_; have HO_54 := n1_; have BK130 := n2_; have HB := n3_; clear n0_ n1_ n2_ n3_; (try clear hb); (try clear hb2); (try clear hk); (try clear hi)) | ((with_reducible refine gate_dst (N := 13) rfl ?_); (try (refine gate_guard (by rfl) ?_; dsimp only)); refine box_event ?hg (N := 13) ?hd (cs := #[.int .i64 0, .int .i64 0, .bool false, .int .i64 0, .int .i64 0, .int .i64 0, .string (⟨#[]⟩ : ByteArray)]) (t := 49) ?hr ?_; (case hd => rfl); (case hg => rfl); (case hr => first | (go_simp; done) | (go_simp; rfl)); intro gb147 hg w44 hbox hb; have n0_ := Aside0.mk (Kd.R_below (by (with_reducible repeat (first | apply Kd.R_alloc | apply Kd.R_drewN | apply Kd.R_drew)); exact HO_10.out) hb); have n1_ := Aside0.mk (Kd.R_below (by (with_reducible repeat (first | apply Kd.R_alloc | apply Kd.R_drewN | apply Kd.R_drew)); exact HO_54.out) hb); have n2_ := Aside0.mk (blk_below (g := gb130) (o := .cells #[.int .i64 a2_0, .int .i64 a2_1, .bool a2_2, .int .i64 a2_3, .int .i64 a2_4, .int .i64 a2_5, .string a2_6] 49 (0, 0)) (by (with_reducible repeat (first | refine blk_drewN ?_ _ | refine blk_drew ?_ | refine blk_alloc ?_ _)); exact BK130.out) hb); have n3_ := Aside0.mk (below_step (by repeat (first | (with_reducible first | exact HB.out | apply below_alloc | apply pw_below_drewN | apply below_drew1 | refine below_set ?_ GE130.out) | exact HB.out)) hb); have n4_ := Aside0.mk (hbox); have n5_ := Aside0.mk ((by rw [hg]; exact (below_size (by repeat (first | (with_reducible first | exact HB.out | apply below_alloc | apply pw_below_drewN | apply below_drew1 | refine below_set ?_ GE130.out) | exact HB.out))) : w.heap.size ≤ gb147)); have n6_ := Aside0.mk ((by rw [hg]; exact (below_size (by repeat (first | (with_reducible first | exact HB.out | apply below_alloc | apply pw_below_drewN | apply below_drew1 | refine below_set ?_ GE130.out) | exact HB.out))) : w.heap.size ≤ gb147)); have n7_ := Aside0.mk ((by rw [hg]; exact Nat.ne_of_lt (blk_lt (g := gb130) (o := .cells #[.int .i64 a2_0, .int .i64 a2_1, .bool a2_2, .int .i64 a2_3, .int .i64 a2_4, .int .i64 a2_5, .string a2_6] 49 (0, 0)) (by (with_reducible repeat (first | refine blk_drewN ?_ _ | refine blk_drew ?_ | refine blk_alloc ?_ _)); exact BK130.out)) : gb130 ≠ gb147)); have n8_ := Aside0.mk ((by rw [hg]; exact Nat.ne_of_gt (blk_lt (g := gb130) (o := .cells #[.int .i64 a2_0, .int .i64 a2_1, .bool a2_2, .int .i64 a2_3, .int .i64 a2_4, .int .i64 a2_5, .string a2_6] 49 (0, 0)) (by (with_reducible repeat (first | refine blk_drewN ?_ _ | refine blk_drew ?_ | refine blk_alloc ?_ _)); exact BK130.out)) : gb147 ≠ gb130)); clear HO_10; clear HO_54; clear BK130; clear HB; have HO_10 := n0_; have HO_54 := n1_; have BK130 := n2_; have HB := n3_; have BK147 := n4_; have GW147 := n5_; have GE147 := n6_; have NB130_147 := n7_; have NB147_130 := n8_; clear n0_ n1_ n2_ n3_ n4_ n5_ n6_ n7_ n8_; clear hb hbox hg; have hnb45 := NB147_130.out; have hnc45 := NB130_147.out; have hcz46_0 : w44.cell? ⟨gb147, 0, none⟩ = some (.int .i64 0) := (blk_cell BK147.out 0).trans rfl; have hcz46_1 : w44.cell? ⟨gb147, 1, none⟩ = some (.int .i64 0) := (blk_cell BK147.out 1).trans rfl; have hcz46_2 : w44.cell? ⟨gb147, 2, none⟩ = some (.bool false) := (blk_cell BK147.out 2).trans rfl; have hcz46_3 : w44.cell? ⟨gb147, 3, none⟩ = some (.int .i64 0) := (blk_cell BK147.out 3).trans rfl; have hcz46_4 : w44.cell? ⟨gb147, 4, none⟩ = some (.int .i64 0) := (blk_cell BK147.out 4).trans rfl; have hcz46_5 : w44.cell? ⟨gb147, 5, none⟩ = some (.int .i64 0) := (blk_cell BK147.out 5).trans rfl; have hcz46_6 : w44.cell? ⟨gb147, 6, none⟩ = some (.string (⟨#[]⟩ : ByteArray)) := (blk_cell BK147.out 6).trans rfl; have hfz46_0 := blk_frozen BK147.out 0; have hfz46_1 := blk_frozen BK147.out 1; have hfz46_2 := blk_frozen BK147.out 2; have hfz46_3 := blk_frozen BK147.out 3; have hfz46_4 := blk_frozen BK147.out 4; have hfz46_5 := blk_frozen BK147.out 5; have hfz46_6 := blk_frozen BK147.out 6; have p148 : 0 ≤ ((rd t136 x56_2) : Int) := of_decide_eq_true (by first | (with_reducible assumption) | assumption); have q148 : (rd t136 x56_2) < (l0.length : Int) := of_decide_eq_true (by first | (with_reducible assumption) | assumption); obtain ⟨ad148, A148_3, c148_3, e148, hx148_0, hx148_1, hx148_2, hx148_3, hl148_3, hi148_3⟩ := at_T54 HR0.out (rd t136 x56_2) p148 q148; (try rw [← Nbq37.out] at hx148_2); obtain rfl : ad134 = ad148 := (by injection e148); have hn148_0 : ad134.block ≠ gb147 := Nat.ne_of_lt (Nat.lt_of_lt_of_le (by have := World.block_lt_of_cell? _ _ hx148_0; first | rwa [add_block] at this | exact this) GW147.out); have hn148_1 : ad134.block ≠ gb147 := Nat.ne_of_lt (Nat.lt_of_lt_of_le (by have := World.block_lt_of_cell? _ _ hx148_0; first | rwa [add_block] at this | exact this) GW147.out); have hn148_2 : ad134.block ≠ gb147 := Nat.ne_of_lt (Nat.lt_of_lt_of_le (by have := World.block_lt_of_cell? _ _ hx148_0; first | rwa [add_block] at this | exact this) GW147.out); have hn148_3 : ad134.block ≠ gb147 := Nat.ne_of_lt (Nat.lt_of_lt_of_le (by have := World.block_lt_of_cell? _ _ hx148_0; first | rwa [add_block] at this | exact this) GW147.out); have hn148_4 : ad134.block ≠ gb147 := Nat.ne_of_lt (Nat.lt_of_lt_of_le (by have := World.block_lt_of_cell? _ _ hx148_0; first | rwa [add_block] at this | exact this) GW147.out); have hn148_5 : ad134.block ≠ gb147 := Nat.ne_of_lt (Nat.lt_of_lt_of_le (by have := World.block_lt_of_cell? _ _ hx148_0; first | rwa [add_block] at this | exact this) GW147.out); have hn148_6 : ad134.block ≠ gb147 := Nat.ne_of_lt (Nat.lt_of_lt_of_le (by have := World.block_lt_of_cell? _ _ hx148_0; first | rwa [add_block] at this | exact this) GW147.out); replace hx148_0 := (HB.out.cell (World.block_lt_of_cell? w _ hx148_0)).trans hx148_0; replace hx148_1 := (HB.out.cell (World.block_lt_of_cell? w _ hx148_1)).trans hx148_1; replace hx148_2 := (HB.out.cell (World.block_lt_of_cell? w _ hx148_2)).trans hx148_2; replace hx148_3 := (HB.out.cell (World.block_lt_of_cell? w _ hx148_3)).trans hx148_3; have HR148_3 := Aside0.mk hi148_3; have HC148_3 := Aside0.mk hl148_3; clear hi148_3 hl148_3; replace hx148_0 := (cell_far (p := ⟨gb147, 0, none⟩) (by first | (rw [add_block]; exact hn148_0) | (show (Addr.add _ _).block ≠ _; rw [add_block]; exact hn148_0) | exact hn148_0) (.int .i64 t140)).trans hx148_0; replace hx148_1 := (cell_far (p := ⟨gb147, 0, none⟩) (by first | (rw [add_block]; exact hn148_0) | (show (Addr.add _ _).block ≠ _; rw [add_block]; exact hn148_0) | exact hn148_0) (.int .i64 t140)).trans hx148_1; replace hx148_2 := (cell_far (p := ⟨gb147, 0, none⟩) (by first | (rw [add_block]; exact hn148_0) | (show (Addr.add _ _).block ≠ _; rw [add_block]; exact hn148_0) | exact hn148_0) (.int .i64 t140)).trans hx148_2; replace hx148_3 := (cell_far (p := ⟨gb147, 0, none⟩) (by first | (rw [add_block]; exact hn148_0) | (show (Addr.add _ _).block ≠ _; rw [add_block]; exact hn148_0) | exact hn148_0) (.int .i64 t140)).trans hx148_3; replace hx148_0 := (cell_far (p := ⟨gb147, 1, none⟩) (by first | (rw [add_block]; exact hn148_1) | (show (Addr.add _ _).block ≠ _; rw [add_block]; exact hn148_1) | exact hn148_1) (.int .i64 t141)).trans hx148_0; replace hx148_1 := (cell_far (p := ⟨gb147, 1, none⟩) (by first | (rw [add_block]; exact hn148_1) | (show (Addr.add _ _).block ≠ _; rw [add_block]; exact hn148_1) | exact hn148_1) (.int .i64 t141)).trans hx148_1; replace hx148_2 := (cell_far (p := ⟨gb147, 1, none⟩) (by first | (rw [add_block]; exact hn148_1) | (show (Addr.add _ _).block ≠ _; rw [add_block]; exact hn148_1) | exact hn148_1) (.int .i64 t141)).trans hx148_2; replace hx148_3 := (cell_far (p := ⟨gb147, 1, none⟩) (by first | (rw [add_block]; exact hn148_1) | (show (Addr.add _ _).block ≠ _; rw [add_block]; exact hn148_1) | exact hn148_1) (.int .i64 t141)).trans hx148_3; replace hx148_0 := (cell_far (p := ⟨gb147, 2, none⟩) (by first | (rw [add_block]; exact hn148_2) | (show (Addr.add _ _).block ≠ _; rw [add_block]; exact hn148_2) | exact hn148_2) (.bool t142)).trans hx148_0; replace hx148_1 := (cell_far (p := ⟨gb147, 2, none⟩) (by first | (rw [add_block]; exact hn148_2) | (show (Addr.add _ _).block ≠ _; rw [add_block]; exact hn148_2) | exact hn148_2) (.bool t142)).trans hx148_1; replace hx148_2 := (cell_far (p := ⟨gb147, 2, none⟩) (by first | (rw [add_block]; exact hn148_2) | (show (Addr.add _ _).block ≠ _; rw [add_block]; exact hn148_2) | exact hn148_2) (.bool t142)).trans hx148_2; replace hx148_3 := (cell_far (p := ⟨gb147, 2, none⟩) (by first | (rw [add_block]; exact hn148_2) | (show (Addr.add _ _).block ≠ _; rw [add_block]; exact hn148_2) | exact hn148_2) (.bool t142)).trans hx148_3; replace hx148_0 := (cell_far (p := ⟨gb147, 3, none⟩) (by first | (rw [add_block]; exact hn148_3) | (show (Addr.add _ _).block ≠ _; rw [add_block]; exact hn148_3) | exact hn148_3) (.int .i64 t143)).trans hx148_0; replace hx148_1 := (cell_far (p := ⟨gb147, 3, none⟩) (by first | (rw [add_block]; exact hn148_3) | (show (Addr.add _ _).block ≠ _; rw [add_block]; exact hn148_3) | exact hn148_3) (.int .i64 t143)).trans hx148_1; replace hx148_2 := (cell_far (p := ⟨gb147, 3, none⟩) (by first | (rw [add_block]; exact hn148_3) | (show (Addr.add _ _).block ≠ _; rw [add_block]; exact hn148_3) | exact hn148_3) (.int .i64 t143)).trans hx148_2; replace hx148_3 := (cell_far (p := ⟨gb147, 3, none⟩) (by first | (rw [add_block]; exact hn148_3) | (show (Addr.add _ _).block ≠ _; rw [add_block]; exact hn148_3) | exact hn148_3) (.int .i64 t143)).trans hx148_3; replace hx148_0 := (cell_far (p := ⟨gb147, 4, none⟩) (by first | (rw [add_block]; exact hn148_4) | (show (Addr.add _ _).block ≠ _; rw [add_block]; exact hn148_4) | exact hn148_4) (.int .i64 t144)).trans hx148_0; replace hx148_1 := (cell_far (p := ⟨gb147, 4, none⟩) (by first | (rw [add_block]; exact hn148_4) | (show (Addr.add _ _).block ≠ _; rw [add_block]; exact hn148_4) | exact hn148_4) (.int .i64 t144)).trans hx148_1; replace hx148_2 := (cell_far (p := ⟨gb147, 4, none⟩) (by first | (rw [add_block]; exact hn148_4) | (show (Addr.add _ _).block ≠ _; rw [add_block]; exact hn148_4) | exact hn148_4) (.int .i64 t144)).trans hx148_2; replace hx148_3 := (cell_far (p := ⟨gb147, 4, none⟩) (by first | (rw [add_block]; exact hn148_4) | (show (Addr.add _ _).block ≠ _; rw [add_block]; exact hn148_4) | exact hn148_4) (.int .i64 t144)).trans hx148_3; replace hx148_0 := (cell_far (p := ⟨gb147, 5, none⟩) (by first | (rw [add_block]; exact hn148_5) | (show (Addr.add _ _).block ≠ _; rw [add_block]; exact hn148_5) | exact hn148_5) (.int .i64 t145)).trans hx148_0; replace hx148_1 := (cell_far (p := ⟨gb147, 5, none⟩) (by first | (rw [add_block]; exact hn148_5) | (show (Addr.add _ _).block ≠ _; rw [add_block]; exact hn148_5) | exact hn148_5) (.int .i64 t145)).trans hx148_1; replace hx148_2 := (cell_far (p := ⟨gb147, 5, none⟩) (by first | (rw [add_block]; exact hn148_5) | (show (Addr.add _ _).block ≠ _; rw [add_block]; exact hn148_5) | exact hn148_5) (.int .i64 t145)).trans hx148_2; replace hx148_3 := (cell_far (p := ⟨gb147, 5, none⟩) (by first | (rw [add_block]; exact hn148_5) | (show (Addr.add _ _).block ≠ _; rw [add_block]; exact hn148_5) | exact hn148_5) (.int .i64 t145)).trans hx148_3; replace hx148_0 := (cell_far (p := ⟨gb147, 6, none⟩) (by first | (rw [add_block]; exact hn148_6) | (show (Addr.add _ _).block ≠ _; rw [add_block]; exact hn148_6) | exact hn148_6) (.string t146)).trans hx148_0; replace hx148_1 := (cell_far (p := ⟨gb147, 6, none⟩) (by first | (rw [add_block]; exact hn148_6) | (show (Addr.add _ _).block ≠ _; rw [add_block]; exact hn148_6) | exact hn148_6) (.string t146)).trans hx148_1; replace hx148_2 := (cell_far (p := ⟨gb147, 6, none⟩) (by first | (rw [add_block]; exact hn148_6) | (show (Addr.add _ _).block ≠ _; rw [add_block]; exact hn148_6) | exact hn148_6) (.string t146)).trans hx148_2; replace hx148_3 := (cell_far (p := ⟨gb147, 6, none⟩) (by first | (rw [add_block]; exact hn148_6) | (show (Addr.add _ _).block ≠ _; rw [add_block]; exact hn148_6) | exact hn148_6) (.string t146)).trans hx148_3; clear hn148_0; clear hn148_1; clear hn148_2; clear hn148_3; clear hn148_4; clear hn148_5; clear hn148_6; replace p148 := eq_true p148; replace q148 := eq_true q148; have p149 : 0 ≤ ((rd t136 x56_2) : Int) := of_decide_eq_true (by first | (with_reducible assumption) | assumption); have q149 : (rd t136 x56_2) < (l0.length : Int) := of_decide_eq_true (by first | (with_reducible assumption) | assumption); obtain ⟨ad149, A149_3, c149_3, e149, hx149_0, hx149_1, hx149_2, hx149_3, hl149_3, hi149_3⟩ := at_T54 HR0.out (rd t136 x56_2) p149 q149; (try rw [← Nbq37.out] at hx149_2); obtain rfl : ad134 = ad149 := (by injection e149); have hn149_0 : ad134.block ≠ gb147 := Nat.ne_of_lt (Nat.lt_of_lt_of_le (by have := World.block_lt_of_cell? _ _ hx149_0; first | rwa [add_block] at this | exact this) GW147.out); have hn149_1 : ad134.block ≠ gb147 := Nat.ne_of_lt (Nat.lt_of_lt_of_le (by have := World.block_lt_of_cell? _ _ hx149_0; first | rwa [add_block] at this | exact this) GW147.out); have hn149_2 : ad134.block ≠ gb147 := Nat.ne_of_lt (Nat.lt_of_lt_of_le (by have := World.block_lt_of_cell? _ _ hx149_0; first | rwa [add_block] at this | exact this) GW147.out); have hn149_3 : ad134.block ≠ gb147 := Nat.ne_of_lt (Nat.lt_of_lt_of_le (by have := World.block_lt_of_cell? _ _ hx149_0; first | rwa [add_block] at this | exact this) GW147.out); have hn149_4 : ad134.block ≠ gb147 := Nat.ne_of_lt (Nat.lt_of_lt_of_le (by have := World.block_lt_of_cell? _ _ hx149_0; first | rwa [add_block] at this | exact this) GW147.out); have hn149_5 : ad134.block ≠ gb147 := Nat.ne_of_lt (Nat.lt_of_lt_of_le (by have := World.block_lt_of_cell? _ _ hx149_0; first | rwa [add_block] at this | exact this) GW147.out); have hn149_6 : ad134.block ≠ gb147 := Nat.ne_of_lt (Nat.lt_of_lt_of_le (by have := World.block_lt_of_cell? _ _ hx149_0; first | rwa [add_block] at this | exact this) GW147.out); replace hx149_0 := (HB.out.cell (World.block_lt_of_cell? w _ hx149_0)).trans hx149_0; replace hx149_1 := (HB.out.cell (World.block_lt_of_cell? w _ hx149_1)).trans hx149_1; replace hx149_2 := (HB.out.cell (World.block_lt_of_cell? w _ hx149_2)).trans hx149_2; replace hx149_3 := (HB.out.cell (World.block_lt_of_cell? w _ hx149_3)).trans hx149_3; have HR149_3 := Aside0.mk hi149_3; have HC149_3 := Aside0.mk hl149_3; clear hi149_3 hl149_3; replace hx149_0 := (cell_far (p := ⟨gb147, 0, none⟩) (by first | (rw [add_block]; exact hn149_0) | (show (Addr.add _ _).block ≠ _; rw [add_block]; exact hn149_0) | exact hn149_0) (.int .i64 t140)).trans hx149_0; replace hx149_1 := (cell_far (p := ⟨gb147, 0, none⟩) (by first | (rw [add_block]; exact hn149_0) | (show (Addr.add _ _).block ≠ _; rw [add_block]; exact hn149_0) | exact hn149_0) (.int .i64 t140)).trans hx149_1; replace hx149_2 := (cell_far (p := ⟨gb147, 0, none⟩) (by first | (rw [add_block]; exact hn149_0) | (show (Addr.add _ _).block ≠ _; rw [add_block]; exact hn149_0) | exact hn149_0) (.int .i64 t140)).trans hx149_2; replace hx149_3 := (cell_far (p := ⟨gb147, 0, none⟩) (by first | (rw [add_block]; exact hn149_0) | (show (Addr.add _ _).block ≠ _; rw [add_block]; exact hn149_0) | exact hn149_0) (.int .i64 t140)).trans hx149_3; replace hx149_0 := (cell_far (p := ⟨gb147, 1, none⟩) (by first | (rw [add_block]; exact hn149_1) | (show (Addr.add _ _).block ≠ _; rw [add_block]; exact hn149_1) | exact hn149_1) (.int .i64 t141)).trans hx149_0; replace hx149_1 := (cell_far (p := ⟨gb147, 1, none⟩) (by first | (rw [add_block]; exact hn149_1) | (show (Addr.add _ _).block ≠ _; rw [add_block]; exact hn149_1) | exact hn149_1) (.int .i64 t141)).trans hx149_1; replace hx149_2 := (cell_far (p := ⟨gb147, 1, none⟩) (by first | (rw [add_block]; exact hn149_1) | (show (Addr.add _ _).block ≠ _; rw [add_block]; exact hn149_1) | exact hn149_1) (.int .i64 t141)).trans hx149_2; replace hx149_3 := (cell_far (p := ⟨gb147, 1, none⟩) (by first | (rw [add_block]; exact hn149_1) | (show (Addr.add _ _).block ≠ _; rw [add_block]; exact hn149_1) | exact hn149_1) (.int .i64 t141)).trans hx149_3; replace hx149_0 := (cell_far (p := ⟨gb147, 2, none⟩) (by first | (rw [add_block]; exact hn149_2) | (show (Addr.add _ _).block ≠ _; rw [add_block]; exact hn149_2) | exact hn149_2) (.bool t142)).trans hx149_0; replace hx149_1 := (cell_far (p := ⟨gb147, 2, none⟩) (by first | (rw [add_block]; exact hn149_2) | (show (Addr.add _ _).block ≠ _; rw [add_block]; exact hn149_2) | exact hn149_2) (.bool t142)).trans hx149_1; replace hx149_2 := (cell_far (p := ⟨gb147, 2, none⟩) (by first | (rw [add_block]; exact hn149_2) | (show (Addr.add _ _).block ≠ _; rw [add_block]; exact hn149_2) | exact hn149_2) (.bool t142)).trans hx149_2; replace hx149_3 := (cell_far (p := ⟨gb147, 2, none⟩) (by first | (rw [add_block]; exact hn149_2) | (show (Addr.add _ _).block ≠ _; rw [add_block]; exact hn149_2) | exact hn149_2) (.bool t142)).trans hx149_3; replace hx149_0 := (cell_far (p := ⟨gb147, 3, none⟩) (by first | (rw [add_block]; exact hn149_3) | (show (Addr.add _ _).block ≠ _; rw [add_block]; exact hn149_3) | exact hn149_3) (.int .i64 t143)).trans hx149_0; replace hx149_1 := (cell_far (p := ⟨gb147, 3, none⟩) (by first | (rw [add_block]; exact hn149_3) | (show (Addr.add _ _).block ≠ _; rw [add_block]; exact hn149_3) | exact hn149_3) (.int .i64 t143)).trans hx149_1; replace hx149_2 := (cell_far (p := ⟨gb147, 3, none⟩) (by first | (rw [add_block]; exact hn149_3) | (show (Addr.add _ _).block ≠ _; rw [add_block]; exact hn149_3) | exact hn149_3) (.int .i64 t143)).trans hx149_2; replace hx149_3 := (cell_far (p := ⟨gb147, 3, none⟩) (by first | (rw [add_block]; exact hn149_3) | (show (Addr.add _ _).block ≠ _; rw [add_block]; exact hn149_3) | exact hn149_3) (.int .i64 t143)).trans hx149_3; replace hx149_0 := (cell_far (p := ⟨gb147, 4, none⟩) (by first | (rw [add_block]; exact hn149_4) | (show (Addr.add _ _).block ≠ _; rw [add_block]; exact hn149_4) | exact hn149_4) (.int .i64 t144)).trans hx149_0; replace hx149_1 := (cell_far (p := ⟨gb147, 4, none⟩) (by first | (rw [add_block]; exact hn149_4) | (show (Addr.add _ _).block ≠ _; rw [add_block]; exact hn149_4) | exact hn149_4) (.int .i64 t144)).trans hx149_1; replace hx149_2 := (cell_far (p := ⟨gb147, 4, none⟩) (by first | (rw [add_block]; exact hn149_4) | (show (Addr.add _ _).block ≠ _; rw [add_block]; exact hn149_4) | exact hn149_4) (.int .i64 t144)).trans hx149_2; replace hx149_3 := (cell_far (p := ⟨gb147, 4, none⟩) (by first | (rw [add_block]; exact hn149_4) | (show (Addr.add _ _).block ≠ _; rw [add_block]; exact hn149_4) | exact hn149_4) (.int .i64 t144)).trans hx149_3; replace hx149_0 := (cell_far (p := ⟨gb147, 5, none⟩) (by first | (rw [add_block]; exact hn149_5) | (show (Addr.add _ _).block ≠ _; rw [add_block]; exact hn149_5) | exact hn149_5) (.int .i64 t145)).trans hx149_0; replace hx149_1 := (cell_far (p := ⟨gb147, 5, none⟩) (by first | (rw [add_block]; exact hn149_5) | (show (Addr.add _ _).block ≠ _; rw [add_block]; exact hn149_5) | exact hn149_5) (.int .i64 t145)).trans hx149_1; replace hx149_2 := (cell_far (p := ⟨gb147, 5, none⟩) (by first | (rw [add_block]; exact hn149_5) | (show (Addr.add _ _).block ≠ _; rw [add_block]; exact hn149_5) | exact hn149_5) (.int .i64 t145)).trans hx149_2; replace hx149_3 := (cell_far (p := ⟨gb147, 5, none⟩) (by first | (rw [add_block]; exact hn149_5) | (show (Addr.add _ _).block ≠ _; rw [add_block]; exact hn149_5) | exact hn149_5) (.int .i64 t145)).trans hx149_3; replace hx149_0 := (cell_far (p := ⟨gb147, 6, none⟩) (by first | (rw [add_block]; exact hn149_6) | (show (Addr.add _ _).block ≠ _; rw [add_block]; exact hn149_6) | exact hn149_6) (.string t146)).trans hx149_0; replace hx149_1 := (cell_far (p := ⟨gb147, 6, none⟩) (by first | (rw [add_block]; exact hn149_6) | (show (Addr.add _ _).block ≠ _; rw [add_block]; exact hn149_6) | exact hn149_6) (.string t146)).trans hx149_1; replace hx149_2 := (cell_far (p := ⟨gb147, 6, none⟩) (by first | (rw [add_block]; exact hn149_6) | (show (Addr.add _ _).block ≠ _; rw [add_block]; exact hn149_6) | exact hn149_6) (.string t146)).trans hx149_2; replace hx149_3 := (cell_far (p := ⟨gb147, 6, none⟩) (by first | (rw [add_block]; exact hn149_6) | (show (Addr.add _ _).block ≠ _; rw [add_block]; exact hn149_6) | exact hn149_6) (.string t146)).trans hx149_3; clear hn149_0; clear hn149_1; clear hn149_2; clear hn149_3; clear hn149_4; clear hn149_5; clear hn149_6; replace p149 := eq_true p149; replace q149 := eq_true q149; have hcz47_0 : w44.cell? ⟨gb130, 0, none⟩ = some (.int .i64 a2_0) := (blk_cell BK130.out 0).trans rfl; have hcz47_1 : w44.cell? ⟨gb130, 1, none⟩ = some (.int .i64 a2_1) := (blk_cell BK130.out 1).trans rfl; have hcz47_2 : w44.cell? ⟨gb130, 2, none⟩ = some (.bool a2_2) := (blk_cell BK130.out 2).trans rfl; have hcz47_3 : w44.cell? ⟨gb130, 3, none⟩ = some (.int .i64 a2_3) := (blk_cell BK130.out 3).trans rfl; have hcz47_4 : w44.cell? ⟨gb130, 4, none⟩ = some (.int .i64 a2_4) := (blk_cell BK130.out 4).trans rfl; have hcz47_5 : w44.cell? ⟨gb130, 5, none⟩ = some (.int .i64 a2_5) := (blk_cell BK130.out 5).trans rfl; have hcz47_6 : w44.cell? ⟨gb130, 6, none⟩ = some (.string a2_6) := (blk_cell BK130.out 6).trans rfl; have hfz47_0 := blk_frozen BK130.out 0; have hfz47_1 := blk_frozen BK130.out 1; have hfz47_2 := blk_frozen BK130.out 2; have hfz47_3 := blk_frozen BK130.out 3; have hfz47_4 := blk_frozen BK130.out 4; have hfz47_5 := blk_frozen BK130.out 5; have hfz47_6 := blk_frozen BK130.out 6) | ((with_reducible refine gate_callee (f := 42) rfl ?_); refine goesL_ (some 80) rfl rfl Try.func42 (by kernel_rfl) rfl #[.agg #[.int .i64 a2_0, .int .i64 a2_1, .bool a2_2, .int .i64 a2_3, .int .i64 a2_4, .int .i64 a2_5, .string a2_6]] rfl (by (try simp only [List.map_toArray, List.map_cons, List.map_nil]); first | done | rfl | (simp only [List.length_drop, List.length_take]; rfl)) ?_; (with_reducible refine (frame_Untag.calls a2_0 a2_1 a2_2 a2_3 a2_4 a2_5 a2_6 t150 t151 t152 t153 t154 t155 t156 _ A40.out).mono ?_); rintro e w48 ⟨rfl, hb⟩; refine ⟨_, rfl, ?_⟩; have n0_ := Aside0.mk (Kd.R_below (by (with_reducible repeat (first | apply Kd.R_alloc | apply Kd.R_drewN | apply Kd.R_drew)); exact (Kd.R_mono (Kd.R_far (p := ⟨gb147, 6, none⟩) (Kd.R_far (p := ⟨gb147, 5, none⟩) (Kd.R_far (p := ⟨gb147, 4, none⟩) (Kd.R_far (p := ⟨gb147, 3, none⟩) (Kd.R_far (p := ⟨gb147, 2, none⟩) (Kd.R_far (p := ⟨gb147, 1, none⟩) (Kd.R_far (p := ⟨gb147, 0, none⟩) (Kd.R_types HO_10.out BK147.out (by decide)) (fun _ hk => hk.2) (.int .i64 t140)) (fun _ hk => hk.2) (.int .i64 t141)) (fun _ hk => hk.2) (.bool t142)) (fun _ hk => hk.2) (.int .i64 t143)) (fun _ hk => hk.2) (.int .i64 t144)) (fun _ hk => hk.2) (.int .i64 t145)) (fun _ hk => hk.2) (.string t146)) (fun _ h_ => h_.1))) hb); have n1_ := Aside0.mk (Kd.R_below (by (with_reducible repeat (first | apply Kd.R_alloc | apply Kd.R_drewN | apply Kd.R_drew)); exact (Kd.R_mono (Kd.R_far (p := ⟨gb147, 6, none⟩) (Kd.R_far (p := ⟨gb147, 5, none⟩) (Kd.R_far (p := ⟨gb147, 4, none⟩) (Kd.R_far (p := ⟨gb147, 3, none⟩) (Kd.R_far (p := ⟨gb147, 2, none⟩) (Kd.R_far (p := ⟨gb147, 1, none⟩) (Kd.R_far (p := ⟨gb147, 0, none⟩) (Kd.R_types HO_54.out BK147.out (by decide)) (fun _ hk => hk.2) (.int .i64 t140)) (fun _ hk => hk.2) (.int .i64 t141)) (fun _ hk => hk.2) (.bool t142)) (fun _ hk => hk.2) (.int .i64 t143)) (fun _ hk => hk.2) (.int .i64 t144)) (fun _ hk => hk.2) (.int .i64 t145)) (fun _ hk => hk.2) (.string t146)) (fun _ h_ => h_.1))) hb); have n2_ := Aside0.mk (blk_below (g := gb130) (o := .cells #[.int .i64 a2_0, .int .i64 a2_1, .bool a2_2, .int .i64 a2_3, .int .i64 a2_4, .int .i64 a2_5, .string a2_6] 49 (0, 0)) (by (with_reducible repeat (first | refine blk_drewN ?_ _ | refine blk_drew ?_ | refine blk_alloc ?_ _)); refine blk_far ?_ NB130_147.out _; (with_reducible repeat (first | refine blk_drewN ?_ _ | refine blk_drew ?_ | refine blk_alloc ?_ _)); refine blk_far ?_ NB130_147.out _; (with_reducible repeat (first | refine blk_drewN ?_ _ | refine blk_drew ?_ | refine blk_alloc ?_ _)); refine blk_far ?_ NB130_147.out _; (with_reducible repeat (first | refine blk_drewN ?_ _ | refine blk_drew ?_ | refine blk_alloc ?_ _)); refine blk_far ?_ NB130_147.out _; (with_reducible repeat (first | refine blk_drewN ?_ _ | refine blk_drew ?_ | refine blk_alloc ?_ _)); refine blk_far ?_ NB130_147.out _; (with_reducible repeat (first | refine blk_drewN ?_ _ | refine blk_drew ?_ | refine blk_alloc ?_ _)); refine blk_far ?_ NB130_147.out _; (with_reducible repeat (first | refine blk_drewN ?_ _ | refine blk_drew ?_ | refine blk_alloc ?_ _)); refine blk_far ?_ NB130_147.out _; (with_reducible repeat (first | refine blk_drewN ?_ _ | refine blk_drew ?_ | refine blk_alloc ?_ _)); exact BK130.out) hb); have n3_ := Aside0.mk (blk_below (g := gb147) (o := .cells #[.int .i64 t140, .int .i64 t141, .bool t142, .int .i64 t143, .int .i64 t144, .int .i64 t145, .string t146] 49 (0, 0)) (by (with_reducible repeat (first | refine blk_drewN ?_ _ | refine blk_drew ?_ | refine blk_alloc ?_ _)); refine blk_put (cs := #[.int .i64 t140, .int .i64 t141, .bool t142, .int .i64 t143, .int .i64 t144, .int .i64 t145, .string (⟨#[]⟩ : ByteArray)]) ?_ 6 _ rfl; (with_reducible repeat (first | refine blk_drewN ?_ _ | refine blk_drew ?_ | refine blk_alloc ?_ _)); refine blk_put (cs := #[.int .i64 t140, .int .i64 t141, .bool t142, .int .i64 t143, .int .i64 t144, .int .i64 0, .string (⟨#[]⟩ : ByteArray)]) ?_ 5 _ rfl; (with_reducible repeat (first | refine blk_drewN ?_ _ | refine blk_drew ?_ | refine blk_alloc ?_ _)); refine blk_put (cs := #[.int .i64 t140, .int .i64 t141, .bool t142, .int .i64 t143, .int .i64 0, .int .i64 0, .string (⟨#[]⟩ : ByteArray)]) ?_ 4 _ rfl; (with_reducible repeat (first | refine blk_drewN ?_ _ | refine blk_drew ?_ | refine blk_alloc ?_ _)); refine blk_put (cs := #[.int .i64 t140, .int .i64 t141, .bool t142, .int .i64 0, .int .i64 0, .int .i64 0, .string (⟨#[]⟩ : ByteArray)]) ?_ 3 _ rfl; (with_reducible repeat (first | refine blk_drewN ?_ _ | refine blk_drew ?_ | refine blk_alloc ?_ _)); refine blk_put (cs := #[.int .i64 t140, .int .i64 t141, .bool false, .int .i64 0, .int .i64 0, .int .i64 0, .string (⟨#[]⟩ : ByteArray)]) ?_ 2 _ rfl; (with_reducible repeat (first | refine blk_drewN ?_ _ | refine blk_drew ?_ | refine blk_alloc ?_ _)); refine blk_put (cs := #[.int .i64 t140, .int .i64 0, .bool false, .int .i64 0, .int .i64 0, .int .i64 0, .string (⟨#[]⟩ : ByteArray)]) ?_ 1 _ rfl; (with_reducible repeat (first | refine blk_drewN ?_ _ | refine blk_drew ?_ | refine blk_alloc ?_ _)); refine blk_put (cs := #[.int .i64 0, .int .i64 0, .bool false, .int .i64 0, .int .i64 0, .int .i64 0, .string (⟨#[]⟩ : ByteArray)]) ?_ 0 _ rfl; (with_reducible repeat (first | refine blk_drewN ?_ _ | refine blk_drew ?_ | refine blk_alloc ?_ _)); exact BK147.out) hb); have n4_ := Aside0.mk (below_step (by repeat (first | (with_reducible first | exact HB.out | apply below_alloc | apply pw_below_drewN | apply below_drew1 | refine below_set ?_ GE130.out | refine below_set ?_ GE147.out) | exact HB.out)) hb); clear HO_10; clear HO_54; clear BK130; clear BK147; clear HB; have HO_10 := n0_; have HO_54 := n1_; have BK130 := n2_; have BK147 := n3_; have HB := n4_; clear n0_ n1_ n2_ n3_ n4_; (try clear hb); (try clear hb2); (try clear hk); (try clear hi); have hcz49_0 : w48.cell? ⟨gb147, 0, none⟩ = some (.int .i64 t140) := (blk_cell BK147.out 0).trans rfl; have hcz49_1 : w48.cell? ⟨gb147, 1, none⟩ = some (.int .i64 t141) := (blk_cell BK147.out 1).trans rfl; have hcz49_2 : w48.cell? ⟨gb147, 2, none⟩ = some (.bool t142) := (blk_cell BK147.out 2).trans rfl; have hcz49_3 : w48.cell? ⟨gb147, 3, none⟩ = some (.int .i64 t143) := (blk_cell BK147.out 3).trans rfl; have hcz49_4 : w48.cell? ⟨gb147, 4, none⟩ = some (.int .i64 t144) := (blk_cell BK147.out 4).trans rfl; have hcz49_5 : w48.cell? ⟨gb147, 5, none⟩ = some (.int .i64 t145) := (blk_cell BK147.out 5).trans rfl; have hcz49_6 : w48.cell? ⟨gb147, 6, none⟩ = some (.string t146) := (blk_cell BK147.out 6).trans rfl; have hfz49_0 := blk_frozen BK147.out 0; have hfz49_1 := blk_frozen BK147.out 1; have hfz49_2 := blk_frozen BK147.out 2; have hfz49_3 := blk_frozen BK147.out 3; have hfz49_4 := blk_frozen BK147.out 4; have hfz49_5 := blk_frozen BK147.out 5; have hfz49_6 := blk_frozen BK147.out 6) | ((with_reducible refine gate_builtin (b := .append) (xs := #[.tmp 81, .tmp 85]) rfl ?_); (try (refine gate_guard (by rfl) ?_; dsimp only)); at_builtin; refine Kd.R_append k63 (w0 := w) w.heap.size rfl (.tmp 81) (.tmp 85) 55 63 (.agg #[(.int .i64 0), (.int .i64 0), (.int .i64 0), (.bool false), (.int .i64 0), (.int .i64 0), (.int .i64 0), (.string ⟨#[]⟩)]) 72 rfl Try.underlying55 info63 rfl (by decide) (by omega) u10 x10_2 (⟨rd t136 x56_2, (⟨t150, t151, t152, t153, t154, t155, t156⟩ : S49)⟩ : S63) [.int .i64 (rd t136 x56_2), .int .i64 t150, .int .i64 t151, .bool t152, .int .i64 t153, .int .i64 t154, .int .i64 t155, .string t156] (fun _ => True) (fun _ => False) rfl (by first | (go_simp; done) | (go_simp; rfl)) ?aP (fun _ hk => hk.elim) ?aF ?aO ?aB ?aS ?aL ?_; (case aP => exact k63_mkM _ _ _ (⟨rd t136 x56_2, (⟨t150, t151, t152, t153, t154, t155, t156⟩ : S49)⟩ : S63)); (case aB => exact (by repeat (first | (with_reducible first | exact HB.out | apply below_alloc | apply pw_below_drewN | apply below_drew1 | refine below_set ?_ GE130.out | refine below_set ?_ GE147.out) | exact HB.out))); (case aF => exact (fun _ _ => trivial)); (case aO => exact (by (with_reducible repeat (first | apply Kd.R_alloc | apply Kd.R_drewN | apply Kd.R_drew)); exact Kd.R_mono (Kd.R_far (p := ⟨gb147, 6, none⟩) (Kd.R_far (p := ⟨gb147, 5, none⟩) (Kd.R_far (p := ⟨gb147, 4, none⟩) (Kd.R_far (p := ⟨gb147, 3, none⟩) (Kd.R_far (p := ⟨gb147, 2, none⟩) (Kd.R_far (p := ⟨gb147, 1, none⟩) (Kd.R_far (p := ⟨gb147, 0, none⟩) (Kd.R_types HO_10.out BK147.out (by decide)) (fun _ hk => hk.2) (.int .i64 t150)) (fun _ hk => hk.2) (.int .i64 t151)) (fun _ hk => hk.2) (.bool t152)) (fun _ hk => hk.2) (.int .i64 t153)) (fun _ hk => hk.2) (.int .i64 t154)) (fun _ hk => hk.2) (.int .i64 t155)) (fun _ hk => hk.2) (.string t156)) (fun _ hk => trivial))); (case aS => exact (below_size (by repeat (first | (with_reducible first | exact HB.out | apply below_alloc | apply pw_below_drewN | apply below_drew1 | refine below_set ?_ GE130.out | refine below_set ?_ GE147.out) | exact HB.out)))); (case aL => have := LMc41.out; omega); intro v158 w50 ho hb hg hat; rw [← Ny157.out] at ho; have n0_ := Aside0.mk (Kd.R_over' (by (with_reducible repeat (first | apply Kd.R_alloc | apply Kd.R_drewN | apply Kd.R_drew)); exact (Kd.R_mono (Kd.R_far (p := ⟨gb147, 6, none⟩) (Kd.R_far (p := ⟨gb147, 5, none⟩) (Kd.R_far (p := ⟨gb147, 4, none⟩) (Kd.R_far (p := ⟨gb147, 3, none⟩) (Kd.R_far (p := ⟨gb147, 2, none⟩) (Kd.R_far (p := ⟨gb147, 1, none⟩) (Kd.R_far (p := ⟨gb147, 0, none⟩) (Kd.R_types HO_54.out BK147.out (by decide)) (fun _ hk => hk.2) (.int .i64 t150)) (fun _ hk => hk.2) (.int .i64 t151)) (fun _ hk => hk.2) (.bool t152)) (fun _ hk => hk.2) (.int .i64 t153)) (fun _ hk => hk.2) (.int .i64 t154)) (fun _ hk => hk.2) (.int .i64 t155)) (fun _ hk => hk.2) (.string t156)) (fun _ h_ => h_.1))) (Kd.R_typed (by (with_reducible repeat (first | apply Kd.R_alloc | apply Kd.R_drewN | apply Kd.R_drew)); exact (Kd.R_mono (Kd.R_far (p := ⟨gb147, 6, none⟩) (Kd.R_far (p := ⟨gb147, 5, none⟩) (Kd.R_far (p := ⟨gb147, 4, none⟩) (Kd.R_far (p := ⟨gb147, 3, none⟩) (Kd.R_far (p := ⟨gb147, 2, none⟩) (Kd.R_far (p := ⟨gb147, 1, none⟩) (Kd.R_far (p := ⟨gb147, 0, none⟩) (Kd.R_types HO_10.out BK147.out (by decide)) (fun _ hk => hk.2) (.int .i64 t150)) (fun _ hk => hk.2) (.int .i64 t151)) (fun _ hk => hk.2) (.bool t152)) (fun _ hk => hk.2) (.int .i64 t153)) (fun _ hk => hk.2) (.int .i64 t154)) (fun _ hk => hk.2) (.int .i64 t155)) (fun _ hk => hk.2) (.string t156)) (fun _ h_ => h_.1)))) (by decide) hg); have n1_ := Aside0.mk (blk_grown (g := gb130) (o := .cells #[.int .i64 a2_0, .int .i64 a2_1, .bool a2_2, .int .i64 a2_3, .int .i64 a2_4, .int .i64 a2_5, .string a2_6] 49 (0, 0)) (by (with_reducible repeat (first | refine blk_drewN ?_ _ | refine blk_drew ?_ | refine blk_alloc ?_ _)); refine blk_far ?_ NB130_147.out _; (with_reducible repeat (first | refine blk_drewN ?_ _ | refine blk_drew ?_ | refine blk_alloc ?_ _)); refine blk_far ?_ NB130_147.out _; (with_reducible repeat (first | refine blk_drewN ?_ _ | refine blk_drew ?_ | refine blk_alloc ?_ _)); refine blk_far ?_ NB130_147.out _; (with_reducible repeat (first | refine blk_drewN ?_ _ | refine blk_drew ?_ | refine blk_alloc ?_ _)); refine blk_far ?_ NB130_147.out _; (with_reducible repeat (first | refine blk_drewN ?_ _ | refine blk_drew ?_ | refine blk_alloc ?_ _)); refine blk_far ?_ NB130_147.out _; (with_reducible repeat (first | refine blk_drewN ?_ _ | refine blk_drew ?_ | refine blk_alloc ?_ _)); refine blk_far ?_ NB130_147.out _; (with_reducible repeat (first | refine blk_drewN ?_ _ | refine blk_drew ?_ | refine blk_alloc ?_ _)); refine blk_far ?_ NB130_147.out _; (with_reducible repeat (first | refine blk_drewN ?_ _ | refine blk_drew ?_ | refine blk_alloc ?_ _)); exact BK130.out) hg (Kd.R_ne HO_10.out BK130.out (by decide))); have n2_ := Aside0.mk (blk_grown (g := gb147) (o := .cells #[.int .i64 t150, .int .i64 t151, .bool t152, .int .i64 t153, .int .i64 t154, .int .i64 t155, .string t156] 49 (0, 0)) (by (with_reducible repeat (first | refine blk_drewN ?_ _ | refine blk_drew ?_ | refine blk_alloc ?_ _)); refine blk_put (cs := #[.int .i64 t150, .int .i64 t151, .bool t152, .int .i64 t153, .int .i64 t154, .int .i64 t155, .string t146]) ?_ 6 _ rfl; (with_reducible repeat (first | refine blk_drewN ?_ _ | refine blk_drew ?_ | refine blk_alloc ?_ _)); refine blk_put (cs := #[.int .i64 t150, .int .i64 t151, .bool t152, .int .i64 t153, .int .i64 t154, .int .i64 t145, .string t146]) ?_ 5 _ rfl; (with_reducible repeat (first | refine blk_drewN ?_ _ | refine blk_drew ?_ | refine blk_alloc ?_ _)); refine blk_put (cs := #[.int .i64 t150, .int .i64 t151, .bool t152, .int .i64 t153, .int .i64 t144, .int .i64 t145, .string t146]) ?_ 4 _ rfl; (with_reducible repeat (first | refine blk_drewN ?_ _ | refine blk_drew ?_ | refine blk_alloc ?_ _)); refine blk_put (cs := #[.int .i64 t150, .int .i64 t151, .bool t152, .int .i64 t143, .int .i64 t144, .int .i64 t145, .string t146]) ?_ 3 _ rfl; (with_reducible repeat (first | refine blk_drewN ?_ _ | refine blk_drew ?_ | refine blk_alloc ?_ _)); refine blk_put (cs := #[.int .i64 t150, .int .i64 t151, .bool t142, .int .i64 t143, .int .i64 t144, .int .i64 t145, .string t146]) ?_ 2 _ rfl; (with_reducible repeat (first | refine blk_drewN ?_ _ | refine blk_drew ?_ | refine blk_alloc ?_ _)); refine blk_put (cs := #[.int .i64 t150, .int .i64 t141, .bool t142, .int .i64 t143, .int .i64 t144, .int .i64 t145, .string t146]) ?_ 1 _ rfl; (with_reducible repeat (first | refine blk_drewN ?_ _ | refine blk_drew ?_ | refine blk_alloc ?_ _)); refine blk_put (cs := #[.int .i64 t140, .int .i64 t141, .bool t142, .int .i64 t143, .int .i64 t144, .int .i64 t145, .string t146]) ?_ 0 _ rfl; (with_reducible repeat (first | refine blk_drewN ?_ _ | refine blk_drew ?_ | refine blk_alloc ?_ _)); exact BK147.out) hg (Kd.R_ne HO_10.out BK147.out (by decide))); have n3_ := Aside0.mk (hb); have n4_ := Aside0.mk (ho); clear HO_54; clear BK130; clear BK147; clear HB; clear HO_10; have HO_54 := n0_; have BK130 := n1_; have BK147 := n2_; have HB := n3_; have HO159 := n4_; clear n0_ n1_ n2_ n3_ n4_; clear ho hb hg hat))
                                  go_roundg k2
                                  case measure => have := HJ4.out; have := HK2.out; omega
                                  case rel => exact ⟨(y157), (wrap64 (x56_2 + 1)), (by first | rfl | (simp; done) | (simp [*]; done)), H', ⟨by have := HJ4.out; have := HK2.out; omega⟩, ⟨by (with_reducible repeat (first | apply Kd.R_alloc | apply Kd.R_drewN | apply Kd.R_drew)); exact HO159.out⟩, ⟨by (with_reducible repeat (first | apply Kd.R_alloc | apply Kd.R_drewN | apply Kd.R_drew)); exact HO_54.out⟩, ⟨by (with_reducible repeat (first | refine blk_drewN ?_ _ | refine blk_drew ?_ | refine blk_alloc ?_ _)); exact BK130.out⟩, ⟨by repeat (first | (with_reducible first | exact HB.out | apply below_alloc | apply pw_below_drewN | apply below_drew1 | refine below_set ?_ GE130.out | refine below_set ?_ GE147.out) | exact HB.out)⟩⟩
                                · rw [if_neg c41] at H
                                  exact absurd H (by simp)
                              · rw [if_neg c39] at H
                                have c39b0 : (((rd_T54 l0 (rd t136 x56_2)).f1) == t135) = false := beq_eq_false_iff_ne.mpr c39
                                have c39b1 : (((rd_T54 l0 (rd t136 x56_2)).f1) != t135) = true := bne_iff_ne.mpr c39
                                by_cases c51 : x10_2.length < 1954687338268
                                · rw [if_pos c51] at H
                                  have LMc51 := Aside0.mk c51
                                  clear c51
                                  obtain ⟨y160, hy160⟩ : ∃ y_ : List (S63), y_ = (x10_2 ++ [(⟨rd t136 x56_2, (⟨t140, t141, t142, t143, t144, t145, t146⟩ : S49)⟩ : S63)]) := ⟨_, rfl⟩
                                  replace H : (relay_Relay.l0 k2 l0 t135 y160 t136 (t136.length : Int) (wrap64 (x56_2 + 1)) a2_0 a2_1 a2_2 a2_3 a2_4 a2_5 a2_6) = some r := by first | (rw [hy160]; with_reducible exact H) | (have H2_ := (Option.bind_some _ _).symm.trans H; rw [hy160]; with_reducible exact H2_) | (have H2_ := (Option.bind_some _ _).symm.trans H; with_reducible exact H2_) | with_reducible exact H | (rw [hy160]; exact H) | exact H
                                  have Ny160 := Aside0.mk hy160
                                  clear hy160
                                  have H' := Aside0.mk H
                                  clear H
                                  have p139 : 0 ≤ (x56_2 : Int) := of_decide_eq_true (by first | (with_reducible assumption) | assumption)
                                  have q139 : x56_2 < (t136.length : Int) := of_decide_eq_true (by first | (with_reducible assumption) | assumption)
                                  obtain ⟨ad139, e139, hx139_0⟩ := Kd.at_int (Kd.R_reads' HO_54.out).2.2 x56_2 p139 q139
                                  cases e139
                                  replace p139 := eq_true p139
                                  replace q139 := eq_true q139
                                  have hcz52_0 : wr.cell? ⟨gb130, 0, none⟩ = some (.int .i64 a2_0) := (blk_cell BK130.out 0).trans rfl
                                  have hcz52_1 : wr.cell? ⟨gb130, 1, none⟩ = some (.int .i64 a2_1) := (blk_cell BK130.out 1).trans rfl
                                  have hcz52_2 : wr.cell? ⟨gb130, 2, none⟩ = some (.bool a2_2) := (blk_cell BK130.out 2).trans rfl
                                  have hcz52_3 : wr.cell? ⟨gb130, 3, none⟩ = some (.int .i64 a2_3) := (blk_cell BK130.out 3).trans rfl
                                  have hcz52_4 : wr.cell? ⟨gb130, 4, none⟩ = some (.int .i64 a2_4) := (blk_cell BK130.out 4).trans rfl
                                  have hcz52_5 : wr.cell? ⟨gb130, 5, none⟩ = some (.int .i64 a2_5) := (blk_cell BK130.out 5).trans rfl
                                  have hcz52_6 : wr.cell? ⟨gb130, 6, none⟩ = some (.string a2_6) := (blk_cell BK130.out 6).trans rfl
                                  have hfz52_0 := blk_frozen BK130.out 0
                                  have hfz52_1 := blk_frozen BK130.out 1
                                  have hfz52_2 := blk_frozen BK130.out 2
                                  have hfz52_3 := blk_frozen BK130.out 3
                                  have hfz52_4 := blk_frozen BK130.out 4
                                  have hfz52_5 := blk_frozen BK130.out 5
                                  have hfz52_6 := blk_frozen BK130.out 6
                                  go_wp2_with (first | ((with_reducible refine gate_callee (f := 41) rfl ?_); refine goesL_ (some 64) rfl rfl Try.func41 (by kernel_rfl) rfl #[.agg #[.int .i64 a2_0, .int .i64 a2_1, .bool a2_2, .int .i64 a2_3, .int .i64 a2_4, .int .i64 a2_5, .string a2_6], .int .i64 t135, .int .i64 a2_4] rfl (by (try simp only [List.map_toArray, List.map_cons, List.map_nil]); first | done | rfl | (simp only [List.length_drop, List.length_take]; rfl)) ?_; (with_reducible refine (frame_Tag.calls a2_0 a2_1 a2_2 a2_3 a2_4 a2_5 a2_6 t135 a2_4 t140 t141 t142 t143 t144 t145 t146 _ A34.out).mono ?_); rintro e w53 ⟨rfl, hb⟩; refine ⟨_, rfl, ?_⟩; have n0_ := Aside0.mk (Kd.R_below (by (with_reducible repeat (first | apply Kd.R_alloc | apply Kd.R_drewN | apply Kd.R_drew)); exact HO_10.out) hb); have n1_ := Aside0.mk (Kd.R_below (by (with_reducible repeat (first | apply Kd.R_alloc | apply Kd.R_drewN | apply Kd.R_drew)); exact HO_54.out) hb); have n2_ := Aside0.mk (blk_below (g := gb130) (o := .cells #[.int .i64 a2_0, .int .i64 a2_1, .bool a2_2, .int .i64 a2_3, .int .i64 a2_4, .int .i64 a2_5, .string a2_6] 49 (0, 0)) (by (with_reducible repeat (first | refine blk_drewN ?_ _ | refine blk_drew ?_ | refine blk_alloc ?_ _)); exact BK130.out) hb); have n3_ := Aside0.mk (below_step (by repeat (first | (with_reducible first | exact HB.out | apply below_alloc | apply pw_below_drewN | apply below_drew1 | refine below_set ?_ GE130.out) | exact HB.out)) hb); clear HO_10; clear HO_54; clear BK130; clear HB; have HO_10 := n0_; have HO_54 := n1_; have BK130 := n2_; have HB := n3_; clear n0_ n1_ n2_ n3_; (try clear hb); (try clear hb2); (try clear hk); (try clear hi)) | ((with_reducible refine gate_dst (N := 13) rfl ?_); (try (refine gate_guard (by rfl) ?_; dsimp only)); refine box_event ?hg (N := 13) ?hd (cs := #[.int .i64 0, .int .i64 0, .bool false, .int .i64 0, .int .i64 0, .int .i64 0, .string (⟨#[]⟩ : ByteArray)]) (t := 49) ?hr ?_; (case hd => rfl); (case hg => rfl); (case hr => first | (go_simp; done) | (go_simp; rfl)); intro gb147 hg w54 hbox hb; have n0_ := Aside0.mk (Kd.R_below (by (with_reducible repeat (first | apply Kd.R_alloc | apply Kd.R_drewN | apply Kd.R_drew)); exact HO_10.out) hb); have n1_ := Aside0.mk (Kd.R_below (by (with_reducible repeat (first | apply Kd.R_alloc | apply Kd.R_drewN | apply Kd.R_drew)); exact HO_54.out) hb); have n2_ := Aside0.mk (blk_below (g := gb130) (o := .cells #[.int .i64 a2_0, .int .i64 a2_1, .bool a2_2, .int .i64 a2_3, .int .i64 a2_4, .int .i64 a2_5, .string a2_6] 49 (0, 0)) (by (with_reducible repeat (first | refine blk_drewN ?_ _ | refine blk_drew ?_ | refine blk_alloc ?_ _)); exact BK130.out) hb); have n3_ := Aside0.mk (below_step (by repeat (first | (with_reducible first | exact HB.out | apply below_alloc | apply pw_below_drewN | apply below_drew1 | refine below_set ?_ GE130.out) | exact HB.out)) hb); have n4_ := Aside0.mk (hbox); have n5_ := Aside0.mk ((by rw [hg]; exact (below_size (by repeat (first | (with_reducible first | exact HB.out | apply below_alloc | apply pw_below_drewN | apply below_drew1 | refine below_set ?_ GE130.out) | exact HB.out))) : w.heap.size ≤ gb147)); have n6_ := Aside0.mk ((by rw [hg]; exact (below_size (by repeat (first | (with_reducible first | exact HB.out | apply below_alloc | apply pw_below_drewN | apply below_drew1 | refine below_set ?_ GE130.out) | exact HB.out))) : w.heap.size ≤ gb147)); have n7_ := Aside0.mk ((by rw [hg]; exact Nat.ne_of_lt (blk_lt (g := gb130) (o := .cells #[.int .i64 a2_0, .int .i64 a2_1, .bool a2_2, .int .i64 a2_3, .int .i64 a2_4, .int .i64 a2_5, .string a2_6] 49 (0, 0)) (by (with_reducible repeat (first | refine blk_drewN ?_ _ | refine blk_drew ?_ | refine blk_alloc ?_ _)); exact BK130.out)) : gb130 ≠ gb147)); have n8_ := Aside0.mk ((by rw [hg]; exact Nat.ne_of_gt (blk_lt (g := gb130) (o := .cells #[.int .i64 a2_0, .int .i64 a2_1, .bool a2_2, .int .i64 a2_3, .int .i64 a2_4, .int .i64 a2_5, .string a2_6] 49 (0, 0)) (by (with_reducible repeat (first | refine blk_drewN ?_ _ | refine blk_drew ?_ | refine blk_alloc ?_ _)); exact BK130.out)) : gb147 ≠ gb130)); clear HO_10; clear HO_54; clear BK130; clear HB; have HO_10 := n0_; have HO_54 := n1_; have BK130 := n2_; have HB := n3_; have BK147 := n4_; have GW147 := n5_; have GE147 := n6_; have NB130_147 := n7_; have NB147_130 := n8_; clear n0_ n1_ n2_ n3_ n4_ n5_ n6_ n7_ n8_; clear hb hbox hg; have hnb55 := NB147_130.out; have hnc55 := NB130_147.out; have hcz56_0 : w54.cell? ⟨gb147, 0, none⟩ = some (.int .i64 0) := (blk_cell BK147.out 0).trans rfl; have hcz56_1 : w54.cell? ⟨gb147, 1, none⟩ = some (.int .i64 0) := (blk_cell BK147.out 1).trans rfl; have hcz56_2 : w54.cell? ⟨gb147, 2, none⟩ = some (.bool false) := (blk_cell BK147.out 2).trans rfl; have hcz56_3 : w54.cell? ⟨gb147, 3, none⟩ = some (.int .i64 0) := (blk_cell BK147.out 3).trans rfl; have hcz56_4 : w54.cell? ⟨gb147, 4, none⟩ = some (.int .i64 0) := (blk_cell BK147.out 4).trans rfl; have hcz56_5 : w54.cell? ⟨gb147, 5, none⟩ = some (.int .i64 0) := (blk_cell BK147.out 5).trans rfl; have hcz56_6 : w54.cell? ⟨gb147, 6, none⟩ = some (.string (⟨#[]⟩ : ByteArray)) := (blk_cell BK147.out 6).trans rfl; have hfz56_0 := blk_frozen BK147.out 0; have hfz56_1 := blk_frozen BK147.out 1; have hfz56_2 := blk_frozen BK147.out 2; have hfz56_3 := blk_frozen BK147.out 3; have hfz56_4 := blk_frozen BK147.out 4; have hfz56_5 := blk_frozen BK147.out 5; have hfz56_6 := blk_frozen BK147.out 6; have p148 : 0 ≤ ((rd t136 x56_2) : Int) := of_decide_eq_true (by first | (with_reducible assumption) | assumption); have q148 : (rd t136 x56_2) < (l0.length : Int) := of_decide_eq_true (by first | (with_reducible assumption) | assumption); obtain ⟨ad148, A148_3, c148_3, e148, hx148_0, hx148_1, hx148_2, hx148_3, hl148_3, hi148_3⟩ := at_T54 HR0.out (rd t136 x56_2) p148 q148; (try rw [← Nbq37.out] at hx148_2); obtain rfl : ad134 = ad148 := (by injection e148); have hn148_0 : ad134.block ≠ gb147 := Nat.ne_of_lt (Nat.lt_of_lt_of_le (by have := World.block_lt_of_cell? _ _ hx148_0; first | rwa [add_block] at this | exact this) GW147.out); have hn148_1 : ad134.block ≠ gb147 := Nat.ne_of_lt (Nat.lt_of_lt_of_le (by have := World.block_lt_of_cell? _ _ hx148_0; first | rwa [add_block] at this | exact this) GW147.out); have hn148_2 : ad134.block ≠ gb147 := Nat.ne_of_lt (Nat.lt_of_lt_of_le (by have := World.block_lt_of_cell? _ _ hx148_0; first | rwa [add_block] at this | exact this) GW147.out); have hn148_3 : ad134.block ≠ gb147 := Nat.ne_of_lt (Nat.lt_of_lt_of_le (by have := World.block_lt_of_cell? _ _ hx148_0; first | rwa [add_block] at this | exact this) GW147.out); have hn148_4 : ad134.block ≠ gb147 := Nat.ne_of_lt (Nat.lt_of_lt_of_le (by have := World.block_lt_of_cell? _ _ hx148_0; first | rwa [add_block] at this | exact this) GW147.out); have hn148_5 : ad134.block ≠ gb147 := Nat.ne_of_lt (Nat.lt_of_lt_of_le (by have := World.block_lt_of_cell? _ _ hx148_0; first | rwa [add_block] at this | exact this) GW147.out); have hn148_6 : ad134.block ≠ gb147 := Nat.ne_of_lt (Nat.lt_of_lt_of_le (by have := World.block_lt_of_cell? _ _ hx148_0; first | rwa [add_block] at this | exact this) GW147.out); replace hx148_0 := (HB.out.cell (World.block_lt_of_cell? w _ hx148_0)).trans hx148_0; replace hx148_1 := (HB.out.cell (World.block_lt_of_cell? w _ hx148_1)).trans hx148_1; replace hx148_2 := (HB.out.cell (World.block_lt_of_cell? w _ hx148_2)).trans hx148_2; replace hx148_3 := (HB.out.cell (World.block_lt_of_cell? w _ hx148_3)).trans hx148_3; have HR148_3 := Aside0.mk hi148_3; have HC148_3 := Aside0.mk hl148_3; clear hi148_3 hl148_3; replace hx148_0 := (cell_far (p := ⟨gb147, 0, none⟩) (by first | (rw [add_block]; exact hn148_0) | (show (Addr.add _ _).block ≠ _; rw [add_block]; exact hn148_0) | exact hn148_0) (.int .i64 t140)).trans hx148_0; replace hx148_1 := (cell_far (p := ⟨gb147, 0, none⟩) (by first | (rw [add_block]; exact hn148_0) | (show (Addr.add _ _).block ≠ _; rw [add_block]; exact hn148_0) | exact hn148_0) (.int .i64 t140)).trans hx148_1; replace hx148_2 := (cell_far (p := ⟨gb147, 0, none⟩) (by first | (rw [add_block]; exact hn148_0) | (show (Addr.add _ _).block ≠ _; rw [add_block]; exact hn148_0) | exact hn148_0) (.int .i64 t140)).trans hx148_2; replace hx148_3 := (cell_far (p := ⟨gb147, 0, none⟩) (by first | (rw [add_block]; exact hn148_0) | (show (Addr.add _ _).block ≠ _; rw [add_block]; exact hn148_0) | exact hn148_0) (.int .i64 t140)).trans hx148_3; replace hx148_0 := (cell_far (p := ⟨gb147, 1, none⟩) (by first | (rw [add_block]; exact hn148_1) | (show (Addr.add _ _).block ≠ _; rw [add_block]; exact hn148_1) | exact hn148_1) (.int .i64 t141)).trans hx148_0; replace hx148_1 := (cell_far (p := ⟨gb147, 1, none⟩) (by first | (rw [add_block]; exact hn148_1) | (show (Addr.add _ _).block ≠ _; rw [add_block]; exact hn148_1) | exact hn148_1) (.int .i64 t141)).trans hx148_1; replace hx148_2 := (cell_far (p := ⟨gb147, 1, none⟩) (by first | (rw [add_block]; exact hn148_1) | (show (Addr.add _ _).block ≠ _; rw [add_block]; exact hn148_1) | exact hn148_1) (.int .i64 t141)).trans hx148_2; replace hx148_3 := (cell_far (p := ⟨gb147, 1, none⟩) (by first | (rw [add_block]; exact hn148_1) | (show (Addr.add _ _).block ≠ _; rw [add_block]; exact hn148_1) | exact hn148_1) (.int .i64 t141)).trans hx148_3; replace hx148_0 := (cell_far (p := ⟨gb147, 2, none⟩) (by first | (rw [add_block]; exact hn148_2) | (show (Addr.add _ _).block ≠ _; rw [add_block]; exact hn148_2) | exact hn148_2) (.bool t142)).trans hx148_0; replace hx148_1 := (cell_far (p := ⟨gb147, 2, none⟩) (by first | (rw [add_block]; exact hn148_2) | (show (Addr.add _ _).block ≠ _; rw [add_block]; exact hn148_2) | exact hn148_2) (.bool t142)).trans hx148_1; replace hx148_2 := (cell_far (p := ⟨gb147, 2, none⟩) (by first | (rw [add_block]; exact hn148_2) | (show (Addr.add _ _).block ≠ _; rw [add_block]; exact hn148_2) | exact hn148_2) (.bool t142)).trans hx148_2; replace hx148_3 := (cell_far (p := ⟨gb147, 2, none⟩) (by first | (rw [add_block]; exact hn148_2) | (show (Addr.add _ _).block ≠ _; rw [add_block]; exact hn148_2) | exact hn148_2) (.bool t142)).trans hx148_3; replace hx148_0 := (cell_far (p := ⟨gb147, 3, none⟩) (by first | (rw [add_block]; exact hn148_3) | (show (Addr.add _ _).block ≠ _; rw [add_block]; exact hn148_3) | exact hn148_3) (.int .i64 t143)).trans hx148_0; replace hx148_1 := (cell_far (p := ⟨gb147, 3, none⟩) (by first | (rw [add_block]; exact hn148_3) | (show (Addr.add _ _).block ≠ _; rw [add_block]; exact hn148_3) | exact hn148_3) (.int .i64 t143)).trans hx148_1; replace hx148_2 := (cell_far (p := ⟨gb147, 3, none⟩) (by first | (rw [add_block]; exact hn148_3) | (show (Addr.add _ _).block ≠ _; rw [add_block]; exact hn148_3) | exact hn148_3) (.int .i64 t143)).trans hx148_2; replace hx148_3 := (cell_far (p := ⟨gb147, 3, none⟩) (by first | (rw [add_block]; exact hn148_3) | (show (Addr.add _ _).block ≠ _; rw [add_block]; exact hn148_3) | exact hn148_3) (.int .i64 t143)).trans hx148_3; replace hx148_0 := (cell_far (p := ⟨gb147, 4, none⟩) (by first | (rw [add_block]; exact hn148_4) | (show (Addr.add _ _).block ≠ _; rw [add_block]; exact hn148_4) | exact hn148_4) (.int .i64 t144)).trans hx148_0; replace hx148_1 := (cell_far (p := ⟨gb147, 4, none⟩) (by first | (rw [add_block]; exact hn148_4) | (show (Addr.add _ _).block ≠ _; rw [add_block]; exact hn148_4) | exact hn148_4) (.int .i64 t144)).trans hx148_1; replace hx148_2 := (cell_far (p := ⟨gb147, 4, none⟩) (by first | (rw [add_block]; exact hn148_4) | (show (Addr.add _ _).block ≠ _; rw [add_block]; exact hn148_4) | exact hn148_4) (.int .i64 t144)).trans hx148_2; replace hx148_3 := (cell_far (p := ⟨gb147, 4, none⟩) (by first | (rw [add_block]; exact hn148_4) | (show (Addr.add _ _).block ≠ _; rw [add_block]; exact hn148_4) | exact hn148_4) (.int .i64 t144)).trans hx148_3; replace hx148_0 := (cell_far (p := ⟨gb147, 5, none⟩) (by first | (rw [add_block]; exact hn148_5) | (show (Addr.add _ _).block ≠ _; rw [add_block]; exact hn148_5) | exact hn148_5) (.int .i64 t145)).trans hx148_0; replace hx148_1 := (cell_far (p := ⟨gb147, 5, none⟩) (by first | (rw [add_block]; exact hn148_5) | (show (Addr.add _ _).block ≠ _; rw [add_block]; exact hn148_5) | exact hn148_5) (.int .i64 t145)).trans hx148_1; replace hx148_2 := (cell_far (p := ⟨gb147, 5, none⟩) (by first | (rw [add_block]; exact hn148_5) | (show (Addr.add _ _).block ≠ _; rw [add_block]; exact hn148_5) | exact hn148_5) (.int .i64 t145)).trans hx148_2; replace hx148_3 := (cell_far (p := ⟨gb147, 5, none⟩) (by first | (rw [add_block]; exact hn148_5) | (show (Addr.add _ _).block ≠ _; rw [add_block]; exact hn148_5) | exact hn148_5) (.int .i64 t145)).trans hx148_3; replace hx148_0 := (cell_far (p := ⟨gb147, 6, none⟩) (by first | (rw [add_block]; exact hn148_6) | (show (Addr.add _ _).block ≠ _; rw [add_block]; exact hn148_6) | exact hn148_6) (.string t146)).trans hx148_0; replace hx148_1 := (cell_far (p := ⟨gb147, 6, none⟩) (by first | (rw [add_block]; exact hn148_6) | (show (Addr.add _ _).block ≠ _; rw [add_block]; exact hn148_6) | exact hn148_6) (.string t146)).trans hx148_1; replace hx148_2 := (cell_far (p := ⟨gb147, 6, none⟩) (by first | (rw [add_block]; exact hn148_6) | (show (Addr.add _ _).block ≠ _; rw [add_block]; exact hn148_6) | exact hn148_6) (.string t146)).trans hx148_2; replace hx148_3 := (cell_far (p := ⟨gb147, 6, none⟩) (by first | (rw [add_block]; exact hn148_6) | (show (Addr.add _ _).block ≠ _; rw [add_block]; exact hn148_6) | exact hn148_6) (.string t146)).trans hx148_3; clear hn148_0; clear hn148_1; clear hn148_2; clear hn148_3; clear hn148_4; clear hn148_5; clear hn148_6; replace p148 := eq_true p148; replace q148 := eq_true q148; have p149 : 0 ≤ ((rd t136 x56_2) : Int) := of_decide_eq_true (by first | (with_reducible assumption) | assumption); have q149 : (rd t136 x56_2) < (l0.length : Int) := of_decide_eq_true (by first | (with_reducible assumption) | assumption); obtain ⟨ad149, A149_3, c149_3, e149, hx149_0, hx149_1, hx149_2, hx149_3, hl149_3, hi149_3⟩ := at_T54 HR0.out (rd t136 x56_2) p149 q149; (try rw [← Nbq37.out] at hx149_2); obtain rfl : ad134 = ad149 := (by injection e149); have hn149_0 : ad134.block ≠ gb147 := Nat.ne_of_lt (Nat.lt_of_lt_of_le (by have := World.block_lt_of_cell? _ _ hx149_0; first | rwa [add_block] at this | exact this) GW147.out); have hn149_1 : ad134.block ≠ gb147 := Nat.ne_of_lt (Nat.lt_of_lt_of_le (by have := World.block_lt_of_cell? _ _ hx149_0; first | rwa [add_block] at this | exact this) GW147.out); have hn149_2 : ad134.block ≠ gb147 := Nat.ne_of_lt (Nat.lt_of_lt_of_le (by have := World.block_lt_of_cell? _ _ hx149_0; first | rwa [add_block] at this | exact this) GW147.out); have hn149_3 : ad134.block ≠ gb147 := Nat.ne_of_lt (Nat.lt_of_lt_of_le (by have := World.block_lt_of_cell? _ _ hx149_0; first | rwa [add_block] at this | exact this) GW147.out); have hn149_4 : ad134.block ≠ gb147 := Nat.ne_of_lt (Nat.lt_of_lt_of_le (by have := World.block_lt_of_cell? _ _ hx149_0; first | rwa [add_block] at this | exact this) GW147.out); have hn149_5 : ad134.block ≠ gb147 := Nat.ne_of_lt (Nat.lt_of_lt_of_le (by have := World.block_lt_of_cell? _ _ hx149_0; first | rwa [add_block] at this | exact this) GW147.out); have hn149_6 : ad134.block ≠ gb147 := Nat.ne_of_lt (Nat.lt_of_lt_of_le (by have := World.block_lt_of_cell? _ _ hx149_0; first | rwa [add_block] at this | exact this) GW147.out); replace hx149_0 := (HB.out.cell (World.block_lt_of_cell? w _ hx149_0)).trans hx149_0; replace hx149_1 := (HB.out.cell (World.block_lt_of_cell? w _ hx149_1)).trans hx149_1; replace hx149_2 := (HB.out.cell (World.block_lt_of_cell? w _ hx149_2)).trans hx149_2; replace hx149_3 := (HB.out.cell (World.block_lt_of_cell? w _ hx149_3)).trans hx149_3; have HR149_3 := Aside0.mk hi149_3; have HC149_3 := Aside0.mk hl149_3; clear hi149_3 hl149_3; replace hx149_0 := (cell_far (p := ⟨gb147, 0, none⟩) (by first | (rw [add_block]; exact hn149_0) | (show (Addr.add _ _).block ≠ _; rw [add_block]; exact hn149_0) | exact hn149_0) (.int .i64 t140)).trans hx149_0; replace hx149_1 := (cell_far (p := ⟨gb147, 0, none⟩) (by first | (rw [add_block]; exact hn149_0) | (show (Addr.add _ _).block ≠ _; rw [add_block]; exact hn149_0) | exact hn149_0) (.int .i64 t140)).trans hx149_1; replace hx149_2 := (cell_far (p := ⟨gb147, 0, none⟩) (by first | (rw [add_block]; exact hn149_0) | (show (Addr.add _ _).block ≠ _; rw [add_block]; exact hn149_0) | exact hn149_0) (.int .i64 t140)).trans hx149_2; replace hx149_3 := (cell_far (p := ⟨gb147, 0, none⟩) (by first | (rw [add_block]; exact hn149_0) | (show (Addr.add _ _).block ≠ _; rw [add_block]; exact hn149_0) | exact hn149_0) (.int .i64 t140)).trans hx149_3; replace hx149_0 := (cell_far (p := ⟨gb147, 1, none⟩) (by first | (rw [add_block]; exact hn149_1) | (show (Addr.add _ _).block ≠ _; rw [add_block]; exact hn149_1) | exact hn149_1) (.int .i64 t141)).trans hx149_0; replace hx149_1 := (cell_far (p := ⟨gb147, 1, none⟩) (by first | (rw [add_block]; exact hn149_1) | (show (Addr.add _ _).block ≠ _; rw [add_block]; exact hn149_1) | exact hn149_1) (.int .i64 t141)).trans hx149_1; replace hx149_2 := (cell_far (p := ⟨gb147, 1, none⟩) (by first | (rw [add_block]; exact hn149_1) | (show (Addr.add _ _).block ≠ _; rw [add_block]; exact hn149_1) | exact hn149_1) (.int .i64 t141)).trans hx149_2; replace hx149_3 := (cell_far (p := ⟨gb147, 1, none⟩) (by first | (rw [add_block]; exact hn149_1) | (show (Addr.add _ _).block ≠ _; rw [add_block]; exact hn149_1) | exact hn149_1) (.int .i64 t141)).trans hx149_3; replace hx149_0 := (cell_far (p := ⟨gb147, 2, none⟩) (by first | (rw [add_block]; exact hn149_2) | (show (Addr.add _ _).block ≠ _; rw [add_block]; exact hn149_2) | exact hn149_2) (.bool t142)).trans hx149_0; replace hx149_1 := (cell_far (p := ⟨gb147, 2, none⟩) (by first | (rw [add_block]; exact hn149_2) | (show (Addr.add _ _).block ≠ _; rw [add_block]; exact hn149_2) | exact hn149_2) (.bool t142)).trans hx149_1; replace hx149_2 := (cell_far (p := ⟨gb147, 2, none⟩) (by first | (rw [add_block]; exact hn149_2) | (show (Addr.add _ _).block ≠ _; rw [add_block]; exact hn149_2) | exact hn149_2) (.bool t142)).trans hx149_2; replace hx149_3 := (cell_far (p := ⟨gb147, 2, none⟩) (by first | (rw [add_block]; exact hn149_2) | (show (Addr.add _ _).block ≠ _; rw [add_block]; exact hn149_2) | exact hn149_2) (.bool t142)).trans hx149_3; replace hx149_0 := (cell_far (p := ⟨gb147, 3, none⟩) (by first | (rw [add_block]; exact hn149_3) | (show (Addr.add _ _).block ≠ _; rw [add_block]; exact hn149_3) | exact hn149_3) (.int .i64 t143)).trans hx149_0; replace hx149_1 := (cell_far (p := ⟨gb147, 3, none⟩) (by first | (rw [add_block]; exact hn149_3) | (show (Addr.add _ _).block ≠ _; rw [add_block]; exact hn149_3) | exact hn149_3) (.int .i64 t143)).trans hx149_1; replace hx149_2 := (cell_far (p := ⟨gb147, 3, none⟩) (by first | (rw [add_block]; exact hn149_3) | (show (Addr.add _ _).block ≠ _; rw [add_block]; exact hn149_3) | exact hn149_3) (.int .i64 t143)).trans hx149_2; replace hx149_3 := (cell_far (p := ⟨gb147, 3, none⟩) (by first | (rw [add_block]; exact hn149_3) | (show (Addr.add _ _).block ≠ _; rw [add_block]; exact hn149_3) | exact hn149_3) (.int .i64 t143)).trans hx149_3; replace hx149_0 := (cell_far (p := ⟨gb147, 4, none⟩) (by first | (rw [add_block]; exact hn149_4) | (show (Addr.add _ _).block ≠ _; rw [add_block]; exact hn149_4) | exact hn149_4) (.int .i64 t144)).trans hx149_0; replace hx149_1 := (cell_far (p := ⟨gb147, 4, none⟩) (by first | (rw [add_block]; exact hn149_4) | (show (Addr.add _ _).block ≠ _; rw [add_block]; exact hn149_4) | exact hn149_4) (.int .i64 t144)).trans hx149_1; replace hx149_2 := (cell_far (p := ⟨gb147, 4, none⟩) (by first | (rw [add_block]; exact hn149_4) | (show (Addr.add _ _).block ≠ _; rw [add_block]; exact hn149_4) | exact hn149_4) (.int .i64 t144)).trans hx149_2; replace hx149_3 := (cell_far (p := ⟨gb147, 4, none⟩) (by first | (rw [add_block]; exact hn149_4) | (show (Addr.add _ _).block ≠ _; rw [add_block]; exact hn149_4) | exact hn149_4) (.int .i64 t144)).trans hx149_3; replace hx149_0 := (cell_far (p := ⟨gb147, 5, none⟩) (by first | (rw [add_block]; exact hn149_5) | (show (Addr.add _ _).block ≠ _; rw [add_block]; exact hn149_5) | exact hn149_5) (.int .i64 t145)).trans hx149_0; replace hx149_1 := (cell_far (p := ⟨gb147, 5, none⟩) (by first | (rw [add_block]; exact hn149_5) | (show (Addr.add _ _).block ≠ _; rw [add_block]; exact hn149_5) | exact hn149_5) (.int .i64 t145)).trans hx149_1; replace hx149_2 := (cell_far (p := ⟨gb147, 5, none⟩) (by first | (rw [add_block]; exact hn149_5) | (show (Addr.add _ _).block ≠ _; rw [add_block]; exact hn149_5) | exact hn149_5) (.int .i64 t145)).trans hx149_2; replace hx149_3 := (cell_far (p := ⟨gb147, 5, none⟩) (by first | (rw [add_block]; exact hn149_5) | (show (Addr.add _ _).block ≠ _; rw [add_block]; exact hn149_5) | exact hn149_5) (.int .i64 t145)).trans hx149_3; replace hx149_0 := (cell_far (p := ⟨gb147, 6, none⟩) (by first | (rw [add_block]; exact hn149_6) | (show (Addr.add _ _).block ≠ _; rw [add_block]; exact hn149_6) | exact hn149_6) (.string t146)).trans hx149_0; replace hx149_1 := (cell_far (p := ⟨gb147, 6, none⟩) (by first | (rw [add_block]; exact hn149_6) | (show (Addr.add _ _).block ≠ _; rw [add_block]; exact hn149_6) | exact hn149_6) (.string t146)).trans hx149_1; replace hx149_2 := (cell_far (p := ⟨gb147, 6, none⟩) (by first | (rw [add_block]; exact hn149_6) | (show (Addr.add _ _).block ≠ _; rw [add_block]; exact hn149_6) | exact hn149_6) (.string t146)).trans hx149_2; replace hx149_3 := (cell_far (p := ⟨gb147, 6, none⟩) (by first | (rw [add_block]; exact hn149_6) | (show (Addr.add _ _).block ≠ _; rw [add_block]; exact hn149_6) | exact hn149_6) (.string t146)).trans hx149_3; clear hn149_0; clear hn149_1; clear hn149_2; clear hn149_3; clear hn149_4; clear hn149_5; clear hn149_6; replace p149 := eq_true p149; replace q149 := eq_true q149) | ((with_reducible refine gate_builtin (b := .append) (xs := #[.tmp 81, .tmp 85]) rfl ?_); (try (refine gate_guard (by rfl) ?_; dsimp only)); at_builtin; refine Kd.R_append k63 (w0 := w) w.heap.size rfl (.tmp 81) (.tmp 85) 55 63 (.agg #[(.int .i64 0), (.int .i64 0), (.int .i64 0), (.bool false), (.int .i64 0), (.int .i64 0), (.int .i64 0), (.string ⟨#[]⟩)]) 72 rfl Try.underlying55 info63 rfl (by decide) (by omega) u10 x10_2 (⟨rd t136 x56_2, (⟨t140, t141, t142, t143, t144, t145, t146⟩ : S49)⟩ : S63) [.int .i64 (rd t136 x56_2), .int .i64 t140, .int .i64 t141, .bool t142, .int .i64 t143, .int .i64 t144, .int .i64 t145, .string t146] (fun _ => True) (fun _ => False) rfl (by first | (go_simp; done) | (go_simp; rfl)) ?aP (fun _ hk => hk.elim) ?aF ?aO ?aB ?aS ?aL ?_; (case aP => exact k63_mkM _ _ _ (⟨rd t136 x56_2, (⟨t140, t141, t142, t143, t144, t145, t146⟩ : S49)⟩ : S63)); (case aB => exact (by repeat (first | (with_reducible first | exact HB.out | apply below_alloc | apply pw_below_drewN | apply below_drew1 | refine below_set ?_ GE130.out | refine below_set ?_ GE147.out) | exact HB.out))); (case aF => exact (fun _ _ => trivial)); (case aO => exact (by (with_reducible repeat (first | apply Kd.R_alloc | apply Kd.R_drewN | apply Kd.R_drew)); exact Kd.R_mono (Kd.R_far (p := ⟨gb147, 6, none⟩) (Kd.R_far (p := ⟨gb147, 5, none⟩) (Kd.R_far (p := ⟨gb147, 4, none⟩) (Kd.R_far (p := ⟨gb147, 3, none⟩) (Kd.R_far (p := ⟨gb147, 2, none⟩) (Kd.R_far (p := ⟨gb147, 1, none⟩) (Kd.R_far (p := ⟨gb147, 0, none⟩) (Kd.R_types HO_10.out BK147.out (by decide)) (fun _ hk => hk.2) (.int .i64 t140)) (fun _ hk => hk.2) (.int .i64 t141)) (fun _ hk => hk.2) (.bool t142)) (fun _ hk => hk.2) (.int .i64 t143)) (fun _ hk => hk.2) (.int .i64 t144)) (fun _ hk => hk.2) (.int .i64 t145)) (fun _ hk => hk.2) (.string t146)) (fun _ hk => trivial))); (case aS => exact (below_size (by repeat (first | (with_reducible first | exact HB.out | apply below_alloc | apply pw_below_drewN | apply below_drew1 | refine below_set ?_ GE130.out | refine below_set ?_ GE147.out) | exact HB.out)))); (case aL => have := LMc51.out; omega); intro v161 w57 ho hb hg hat; rw [← Ny160.out] at ho; have n0_ := Aside0.mk (Kd.R_over' (by (with_reducible repeat (first | apply Kd.R_alloc | apply Kd.R_drewN | apply Kd.R_drew)); exact (Kd.R_mono (Kd.R_far (p := ⟨gb147, 6, none⟩) (Kd.R_far (p := ⟨gb147, 5, none⟩) (Kd.R_far (p := ⟨gb147, 4, none⟩) (Kd.R_far (p := ⟨gb147, 3, none⟩) (Kd.R_far (p := ⟨gb147, 2, none⟩) (Kd.R_far (p := ⟨gb147, 1, none⟩) (Kd.R_far (p := ⟨gb147, 0, none⟩) (Kd.R_types HO_54.out BK147.out (by decide)) (fun _ hk => hk.2) (.int .i64 t140)) (fun _ hk => hk.2) (.int .i64 t141)) (fun _ hk => hk.2) (.bool t142)) (fun _ hk => hk.2) (.int .i64 t143)) (fun _ hk => hk.2) (.int .i64 t144)) (fun _ hk => hk.2) (.int .i64 t145)) (fun _ hk => hk.2) (.string t146)) (fun _ h_ => h_.1))) (Kd.R_typed (by (with_reducible repeat (first | apply Kd.R_alloc | apply Kd.R_drewN | apply Kd.R_drew)); exact (Kd.R_mono (Kd.R_far (p := ⟨gb147, 6, none⟩) (Kd.R_far (p := ⟨gb147, 5, none⟩) (Kd.R_far (p := ⟨gb147, 4, none⟩) (Kd.R_far (p := ⟨gb147, 3, none⟩) (Kd.R_far (p := ⟨gb147, 2, none⟩) (Kd.R_far (p := ⟨gb147, 1, none⟩) (Kd.R_far (p := ⟨gb147, 0, none⟩) (Kd.R_types HO_10.out BK147.out (by decide)) (fun _ hk => hk.2) (.int .i64 t140)) (fun _ hk => hk.2) (.int .i64 t141)) (fun _ hk => hk.2) (.bool t142)) (fun _ hk => hk.2) (.int .i64 t143)) (fun _ hk => hk.2) (.int .i64 t144)) (fun _ hk => hk.2) (.int .i64 t145)) (fun _ hk => hk.2) (.string t146)) (fun _ h_ => h_.1)))) (by decide) hg); have n1_ := Aside0.mk (blk_grown (g := gb130) (o := .cells #[.int .i64 a2_0, .int .i64 a2_1, .bool a2_2, .int .i64 a2_3, .int .i64 a2_4, .int .i64 a2_5, .string a2_6] 49 (0, 0)) (by (with_reducible repeat (first | refine blk_drewN ?_ _ | refine blk_drew ?_ | refine blk_alloc ?_ _)); refine blk_far ?_ NB130_147.out _; (with_reducible repeat (first | refine blk_drewN ?_ _ | refine blk_drew ?_ | refine blk_alloc ?_ _)); refine blk_far ?_ NB130_147.out _; (with_reducible repeat (first | refine blk_drewN ?_ _ | refine blk_drew ?_ | refine blk_alloc ?_ _)); refine blk_far ?_ NB130_147.out _; (with_reducible repeat (first | refine blk_drewN ?_ _ | refine blk_drew ?_ | refine blk_alloc ?_ _)); refine blk_far ?_ NB130_147.out _; (with_reducible repeat (first | refine blk_drewN ?_ _ | refine blk_drew ?_ | refine blk_alloc ?_ _)); refine blk_far ?_ NB130_147.out _; (with_reducible repeat (first | refine blk_drewN ?_ _ | refine blk_drew ?_ | refine blk_alloc ?_ _)); refine blk_far ?_ NB130_147.out _; (with_reducible repeat (first | refine blk_drewN ?_ _ | refine blk_drew ?_ | refine blk_alloc ?_ _)); refine blk_far ?_ NB130_147.out _; (with_reducible repeat (first | refine blk_drewN ?_ _ | refine blk_drew ?_ | refine blk_alloc ?_ _)); exact BK130.out) hg (Kd.R_ne HO_10.out BK130.out (by decide))); have n2_ := Aside0.mk (blk_grown (g := gb147) (o := .cells #[.int .i64 t140, .int .i64 t141, .bool t142, .int .i64 t143, .int .i64 t144, .int .i64 t145, .string t146] 49 (0, 0)) (by (with_reducible repeat (first | refine blk_drewN ?_ _ | refine blk_drew ?_ | refine blk_alloc ?_ _)); refine blk_put (cs := #[.int .i64 t140, .int .i64 t141, .bool t142, .int .i64 t143, .int .i64 t144, .int .i64 t145, .string (⟨#[]⟩ : ByteArray)]) ?_ 6 _ rfl; (with_reducible repeat (first | refine blk_drewN ?_ _ | refine blk_drew ?_ | refine blk_alloc ?_ _)); refine blk_put (cs := #[.int .i64 t140, .int .i64 t141, .bool t142, .int .i64 t143, .int .i64 t144, .int .i64 0, .string (⟨#[]⟩ : ByteArray)]) ?_ 5 _ rfl; (with_reducible repeat (first | refine blk_drewN ?_ _ | refine blk_drew ?_ | refine blk_alloc ?_ _)); refine blk_put (cs := #[.int .i64 t140, .int .i64 t141, .bool t142, .int .i64 t143, .int .i64 0, .int .i64 0, .string (⟨#[]⟩ : ByteArray)]) ?_ 4 _ rfl; (with_reducible repeat (first | refine blk_drewN ?_ _ | refine blk_drew ?_ | refine blk_alloc ?_ _)); refine blk_put (cs := #[.int .i64 t140, .int .i64 t141, .bool t142, .int .i64 0, .int .i64 0, .int .i64 0, .string (⟨#[]⟩ : ByteArray)]) ?_ 3 _ rfl; (with_reducible repeat (first | refine blk_drewN ?_ _ | refine blk_drew ?_ | refine blk_alloc ?_ _)); refine blk_put (cs := #[.int .i64 t140, .int .i64 t141, .bool false, .int .i64 0, .int .i64 0, .int .i64 0, .string (⟨#[]⟩ : ByteArray)]) ?_ 2 _ rfl; (with_reducible repeat (first | refine blk_drewN ?_ _ | refine blk_drew ?_ | refine blk_alloc ?_ _)); refine blk_put (cs := #[.int .i64 t140, .int .i64 0, .bool false, .int .i64 0, .int .i64 0, .int .i64 0, .string (⟨#[]⟩ : ByteArray)]) ?_ 1 _ rfl; (with_reducible repeat (first | refine blk_drewN ?_ _ | refine blk_drew ?_ | refine blk_alloc ?_ _)); refine blk_put (cs := #[.int .i64 0, .int .i64 0, .bool false, .int .i64 0, .int .i64 0, .int .i64 0, .string (⟨#[]⟩ : ByteArray)]) ?_ 0 _ rfl; (with_reducible repeat (first | refine blk_drewN ?_ _ | refine blk_drew ?_ | refine blk_alloc ?_ _)); exact BK147.out) hg (Kd.R_ne HO_10.out BK147.out (by decide))); have n3_ := Aside0.mk (hb); have n4_ := Aside0.mk (ho); clear HO_54; clear BK130; clear BK147; clear HB; clear HO_10; have HO_54 := n0_; have BK130 := n1_; have BK147 := n2_; have HB := n3_; have HO162 := n4_; clear n0_ n1_ n2_ n3_ n4_; clear ho hb hg hat))
                                  go_roundg k2
                                  case measure => have := HJ4.out; have := HK2.out; omega
                                  case rel => exact ⟨(y160), (wrap64 (x56_2 + 1)), (by first | rfl | (simp; done) | (simp [*]; done)), H', ⟨by have := HJ4.out; have := HK2.out; omega⟩, ⟨by (with_reducible repeat (first | apply Kd.R_alloc | apply Kd.R_drewN | apply Kd.R_drew)); exact HO162.out⟩, ⟨by (with_reducible repeat (first | apply Kd.R_alloc | apply Kd.R_drewN | apply Kd.R_drew)); exact HO_54.out⟩, ⟨by (with_reducible repeat (first | refine blk_drewN ?_ _ | refine blk_drew ?_ | refine blk_alloc ?_ _)); exact BK130.out⟩, ⟨by repeat (first | (with_reducible first | exact HB.out | apply below_alloc | apply pw_below_drewN | apply below_drew1 | refine below_set ?_ GE130.out | refine below_set ?_ GE147.out) | exact HB.out)⟩⟩
                                · rw [if_neg c51] at H
                                  exact absurd H (by simp)
                            · replace c38 := Bool.eq_false_iff.mpr c38
                              subst c38
                              have H1 : (if x10_2.length < 1954687338268 then (relay_Relay.l0 k2 l0 t135 (x10_2 ++ [(⟨rd t136 x56_2, (⟨t140, t141, t142, t143, t144, t145, t146⟩ : S49)⟩ : S63)]) t136 (t136.length : Int) (wrap64 (x56_2 + 1)) a2_0 a2_1 a2_2 a2_3 a2_4 a2_5 a2_6) else (none)) = some r := by rw [if_neg (show ¬ (false = true) by decide)] at H; exact H
                              clear H
                              have H := H1
                              clear H1
                              by_cases c58 : x10_2.length < 1954687338268
                              · rw [if_pos c58] at H
                                have LMc58 := Aside0.mk c58
                                clear c58
                                obtain ⟨y163, hy163⟩ : ∃ y_ : List (S63), y_ = (x10_2 ++ [(⟨rd t136 x56_2, (⟨t140, t141, t142, t143, t144, t145, t146⟩ : S49)⟩ : S63)]) := ⟨_, rfl⟩
                                replace H : (relay_Relay.l0 k2 l0 t135 y163 t136 (t136.length : Int) (wrap64 (x56_2 + 1)) a2_0 a2_1 a2_2 a2_3 a2_4 a2_5 a2_6) = some r := by first | (rw [hy163]; with_reducible exact H) | (have H2_ := (Option.bind_some _ _).symm.trans H; rw [hy163]; with_reducible exact H2_) | (have H2_ := (Option.bind_some _ _).symm.trans H; with_reducible exact H2_) | with_reducible exact H | (rw [hy163]; exact H) | exact H
                                have Ny163 := Aside0.mk hy163
                                clear hy163
                                have H' := Aside0.mk H
                                clear H
                                have p139 : 0 ≤ (x56_2 : Int) := of_decide_eq_true (by first | (with_reducible assumption) | assumption)
                                have q139 : x56_2 < (t136.length : Int) := of_decide_eq_true (by first | (with_reducible assumption) | assumption)
                                obtain ⟨ad139, e139, hx139_0⟩ := Kd.at_int (Kd.R_reads' HO_54.out).2.2 x56_2 p139 q139
                                cases e139
                                replace p139 := eq_true p139
                                replace q139 := eq_true q139
                                have hcz59_0 : wr.cell? ⟨gb130, 0, none⟩ = some (.int .i64 a2_0) := (blk_cell BK130.out 0).trans rfl
                                have hcz59_1 : wr.cell? ⟨gb130, 1, none⟩ = some (.int .i64 a2_1) := (blk_cell BK130.out 1).trans rfl
                                have hcz59_2 : wr.cell? ⟨gb130, 2, none⟩ = some (.bool a2_2) := (blk_cell BK130.out 2).trans rfl
                                have hcz59_3 : wr.cell? ⟨gb130, 3, none⟩ = some (.int .i64 a2_3) := (blk_cell BK130.out 3).trans rfl
                                have hcz59_4 : wr.cell? ⟨gb130, 4, none⟩ = some (.int .i64 a2_4) := (blk_cell BK130.out 4).trans rfl
                                have hcz59_5 : wr.cell? ⟨gb130, 5, none⟩ = some (.int .i64 a2_5) := (blk_cell BK130.out 5).trans rfl
                                have hcz59_6 : wr.cell? ⟨gb130, 6, none⟩ = some (.string a2_6) := (blk_cell BK130.out 6).trans rfl
                                have hfz59_0 := blk_frozen BK130.out 0
                                have hfz59_1 := blk_frozen BK130.out 1
                                have hfz59_2 := blk_frozen BK130.out 2
                                have hfz59_3 := blk_frozen BK130.out 3
                                have hfz59_4 := blk_frozen BK130.out 4
                                have hfz59_5 := blk_frozen BK130.out 5
                                have hfz59_6 := blk_frozen BK130.out 6
                                go_wp2_with (first | ((with_reducible refine gate_callee (f := 41) rfl ?_); refine goesL_ (some 64) rfl rfl Try.func41 (by kernel_rfl) rfl #[.agg #[.int .i64 a2_0, .int .i64 a2_1, .bool a2_2, .int .i64 a2_3, .int .i64 a2_4, .int .i64 a2_5, .string a2_6], .int .i64 t135, .int .i64 a2_4] rfl (by (try simp only [List.map_toArray, List.map_cons, List.map_nil]); first | done | rfl | (simp only [List.length_drop, List.length_take]; rfl)) ?_; (with_reducible refine (frame_Tag.calls a2_0 a2_1 a2_2 a2_3 a2_4 a2_5 a2_6 t135 a2_4 t140 t141 t142 t143 t144 t145 t146 _ A34.out).mono ?_); rintro e w60 ⟨rfl, hb⟩; refine ⟨_, rfl, ?_⟩; have n0_ := Aside0.mk (Kd.R_below (by (with_reducible repeat (first | apply Kd.R_alloc | apply Kd.R_drewN | apply Kd.R_drew)); exact HO_10.out) hb); have n1_ := Aside0.mk (Kd.R_below (by (with_reducible repeat (first | apply Kd.R_alloc | apply Kd.R_drewN | apply Kd.R_drew)); exact HO_54.out) hb); have n2_ := Aside0.mk (blk_below (g := gb130) (o := .cells #[.int .i64 a2_0, .int .i64 a2_1, .bool a2_2, .int .i64 a2_3, .int .i64 a2_4, .int .i64 a2_5, .string a2_6] 49 (0, 0)) (by (with_reducible repeat (first | refine blk_drewN ?_ _ | refine blk_drew ?_ | refine blk_alloc ?_ _)); exact BK130.out) hb); have n3_ := Aside0.mk (below_step (by repeat (first | (with_reducible first | exact HB.out | apply below_alloc | apply pw_below_drewN | apply below_drew1 | refine below_set ?_ GE130.out) | exact HB.out)) hb); clear HO_10; clear HO_54; clear BK130; clear HB; have HO_10 := n0_; have HO_54 := n1_; have BK130 := n2_; have HB := n3_; clear n0_ n1_ n2_ n3_; (try clear hb); (try clear hb2); (try clear hk); (try clear hi)) | ((with_reducible refine gate_dst (N := 13) rfl ?_); (try (refine gate_guard (by rfl) ?_; dsimp only)); refine box_event ?hg (N := 13) ?hd (cs := #[.int .i64 0, .int .i64 0, .bool false, .int .i64 0, .int .i64 0, .int .i64 0, .string (⟨#[]⟩ : ByteArray)]) (t := 49) ?hr ?_; (case hd => rfl); (case hg => rfl); (case hr => first | (go_simp; done) | (go_simp; rfl)); intro gb147 hg w61 hbox hb; have n0_ := Aside0.mk (Kd.R_below (by (with_reducible repeat (first | apply Kd.R_alloc | apply Kd.R_drewN | apply Kd.R_drew)); exact HO_10.out) hb); have n1_ := Aside0.mk (Kd.R_below (by (with_reducible repeat (first | apply Kd.R_alloc | apply Kd.R_drewN | apply Kd.R_drew)); exact HO_54.out) hb); have n2_ := Aside0.mk (blk_below (g := gb130) (o := .cells #[.int .i64 a2_0, .int .i64 a2_1, .bool a2_2, .int .i64 a2_3, .int .i64 a2_4, .int .i64 a2_5, .string a2_6] 49 (0, 0)) (by (with_reducible repeat (first | refine blk_drewN ?_ _ | refine blk_drew ?_ | refine blk_alloc ?_ _)); exact BK130.out) hb); have n3_ := Aside0.mk (below_step (by repeat (first | (with_reducible first | exact HB.out | apply below_alloc | apply pw_below_drewN | apply below_drew1 | refine below_set ?_ GE130.out) | exact HB.out)) hb); have n4_ := Aside0.mk (hbox); have n5_ := Aside0.mk ((by rw [hg]; exact (below_size (by repeat (first | (with_reducible first | exact HB.out | apply below_alloc | apply pw_below_drewN | apply below_drew1 | refine below_set ?_ GE130.out) | exact HB.out))) : w.heap.size ≤ gb147)); have n6_ := Aside0.mk ((by rw [hg]; exact (below_size (by repeat (first | (with_reducible first | exact HB.out | apply below_alloc | apply pw_below_drewN | apply below_drew1 | refine below_set ?_ GE130.out) | exact HB.out))) : w.heap.size ≤ gb147)); have n7_ := Aside0.mk ((by rw [hg]; exact Nat.ne_of_lt (blk_lt (g := gb130) (o := .cells #[.int .i64 a2_0, .int .i64 a2_1, .bool a2_2, .int .i64 a2_3, .int .i64 a2_4, .int .i64 a2_5, .string a2_6] 49 (0, 0)) (by (with_reducible repeat (first | refine blk_drewN ?_ _ | refine blk_drew ?_ | refine blk_alloc ?_ _)); exact BK130.out)) : gb130 ≠ gb147)); have n8_ := Aside0.mk ((by rw [hg]; exact Nat.ne_of_gt (blk_lt (g := gb130) (o := .cells #[.int .i64 a2_0, .int .i64 a2_1, .bool a2_2, .int .i64 a2_3, .int .i64 a2_4, .int .i64 a2_5, .string a2_6] 49 (0, 0)) (by (with_reducible repeat (first | refine blk_drewN ?_ _ | refine blk_drew ?_ | refine blk_alloc ?_ _)); exact BK130.out)) : gb147 ≠ gb130)); clear HO_10; clear HO_54; clear BK130; clear HB; have HO_10 := n0_; have HO_54 := n1_; have BK130 := n2_; have HB := n3_; have BK147 := n4_; have GW147 := n5_; have GE147 := n6_; have NB130_147 := n7_; have NB147_130 := n8_; clear n0_ n1_ n2_ n3_ n4_ n5_ n6_ n7_ n8_; clear hb hbox hg; have hnb62 := NB147_130.out; have hnc62 := NB130_147.out; have hcz63_0 : w61.cell? ⟨gb147, 0, none⟩ = some (.int .i64 0) := (blk_cell BK147.out 0).trans rfl; have hcz63_1 : w61.cell? ⟨gb147, 1, none⟩ = some (.int .i64 0) := (blk_cell BK147.out 1).trans rfl; have hcz63_2 : w61.cell? ⟨gb147, 2, none⟩ = some (.bool false) := (blk_cell BK147.out 2).trans rfl; have hcz63_3 : w61.cell? ⟨gb147, 3, none⟩ = some (.int .i64 0) := (blk_cell BK147.out 3).trans rfl; have hcz63_4 : w61.cell? ⟨gb147, 4, none⟩ = some (.int .i64 0) := (blk_cell BK147.out 4).trans rfl; have hcz63_5 : w61.cell? ⟨gb147, 5, none⟩ = some (.int .i64 0) := (blk_cell BK147.out 5).trans rfl; have hcz63_6 : w61.cell? ⟨gb147, 6, none⟩ = some (.string (⟨#[]⟩ : ByteArray)) := (blk_cell BK147.out 6).trans rfl; have hfz63_0 := blk_frozen BK147.out 0; have hfz63_1 := blk_frozen BK147.out 1; have hfz63_2 := blk_frozen BK147.out 2; have hfz63_3 := blk_frozen BK147.out 3; have hfz63_4 := blk_frozen BK147.out 4; have hfz63_5 := blk_frozen BK147.out 5; have hfz63_6 := blk_frozen BK147.out 6; have p148 : 0 ≤ ((rd t136 x56_2) : Int) := of_decide_eq_true (by first | (with_reducible assumption) | assumption); have q148 : (rd t136 x56_2) < (l0.length : Int) := of_decide_eq_true (by first | (with_reducible assumption) | assumption); obtain ⟨ad148, A148_3, c148_3, e148, hx148_0, hx148_1, hx148_2, hx148_3, hl148_3, hi148_3⟩ := at_T54 HR0.out (rd t136 x56_2) p148 q148; (try rw [← Nbq37.out] at hx148_2); obtain rfl : ad134 = ad148 := (by injection e148); have hn148_0 : ad134.block ≠ gb147 := Nat.ne_of_lt (Nat.lt_of_lt_of_le (by have := World.block_lt_of_cell? _ _ hx148_0; first | rwa [add_block] at this | exact this) GW147.out); have hn148_1 : ad134.block ≠ gb147 := Nat.ne_of_lt (Nat.lt_of_lt_of_le (by have := World.block_lt_of_cell? _ _ hx148_0; first | rwa [add_block] at this | exact this) GW147.out); have hn148_2 : ad134.block ≠ gb147 := Nat.ne_of_lt (Nat.lt_of_lt_of_le (by have := World.block_lt_of_cell? _ _ hx148_0; first | rwa [add_block] at this | exact this) GW147.out); have hn148_3 : ad134.block ≠ gb147 := Nat.ne_of_lt (Nat.lt_of_lt_of_le (by have := World.block_lt_of_cell? _ _ hx148_0; first | rwa [add_block] at this | exact this) GW147.out); have hn148_4 : ad134.block ≠ gb147 := Nat.ne_of_lt (Nat.lt_of_lt_of_le (by have := World.block_lt_of_cell? _ _ hx148_0; first | rwa [add_block] at this | exact this) GW147.out); have hn148_5 : ad134.block ≠ gb147 := Nat.ne_of_lt (Nat.lt_of_lt_of_le (by have := World.block_lt_of_cell? _ _ hx148_0; first | rwa [add_block] at this | exact this) GW147.out); have hn148_6 : ad134.block ≠ gb147 := Nat.ne_of_lt (Nat.lt_of_lt_of_le (by have := World.block_lt_of_cell? _ _ hx148_0; first | rwa [add_block] at this | exact this) GW147.out); replace hx148_0 := (HB.out.cell (World.block_lt_of_cell? w _ hx148_0)).trans hx148_0; replace hx148_1 := (HB.out.cell (World.block_lt_of_cell? w _ hx148_1)).trans hx148_1; replace hx148_2 := (HB.out.cell (World.block_lt_of_cell? w _ hx148_2)).trans hx148_2; replace hx148_3 := (HB.out.cell (World.block_lt_of_cell? w _ hx148_3)).trans hx148_3; have HR148_3 := Aside0.mk hi148_3; have HC148_3 := Aside0.mk hl148_3; clear hi148_3 hl148_3; replace hx148_0 := (cell_far (p := ⟨gb147, 0, none⟩) (by first | (rw [add_block]; exact hn148_0) | (show (Addr.add _ _).block ≠ _; rw [add_block]; exact hn148_0) | exact hn148_0) (.int .i64 t140)).trans hx148_0; replace hx148_1 := (cell_far (p := ⟨gb147, 0, none⟩) (by first | (rw [add_block]; exact hn148_0) | (show (Addr.add _ _).block ≠ _; rw [add_block]; exact hn148_0) | exact hn148_0) (.int .i64 t140)).trans hx148_1; replace hx148_2 := (cell_far (p := ⟨gb147, 0, none⟩) (by first | (rw [add_block]; exact hn148_0) | (show (Addr.add _ _).block ≠ _; rw [add_block]; exact hn148_0) | exact hn148_0) (.int .i64 t140)).trans hx148_2; replace hx148_3 := (cell_far (p := ⟨gb147, 0, none⟩) (by first | (rw [add_block]; exact hn148_0) | (show (Addr.add _ _).block ≠ _; rw [add_block]; exact hn148_0) | exact hn148_0) (.int .i64 t140)).trans hx148_3; replace hx148_0 := (cell_far (p := ⟨gb147, 1, none⟩) (by first | (rw [add_block]; exact hn148_1) | (show (Addr.add _ _).block ≠ _; rw [add_block]; exact hn148_1) | exact hn148_1) (.int .i64 t141)).trans hx148_0; replace hx148_1 := (cell_far (p := ⟨gb147, 1, none⟩) (by first | (rw [add_block]; exact hn148_1) | (show (Addr.add _ _).block ≠ _; rw [add_block]; exact hn148_1) | exact hn148_1) (.int .i64 t141)).trans hx148_1; replace hx148_2 := (cell_far (p := ⟨gb147, 1, none⟩) (by first | (rw [add_block]; exact hn148_1) | (show (Addr.add _ _).block ≠ _; rw [add_block]; exact hn148_1) | exact hn148_1) (.int .i64 t141)).trans hx148_2; replace hx148_3 := (cell_far (p := ⟨gb147, 1, none⟩) (by first | (rw [add_block]; exact hn148_1) | (show (Addr.add _ _).block ≠ _; rw [add_block]; exact hn148_1) | exact hn148_1) (.int .i64 t141)).trans hx148_3; replace hx148_0 := (cell_far (p := ⟨gb147, 2, none⟩) (by first | (rw [add_block]; exact hn148_2) | (show (Addr.add _ _).block ≠ _; rw [add_block]; exact hn148_2) | exact hn148_2) (.bool t142)).trans hx148_0; replace hx148_1 := (cell_far (p := ⟨gb147, 2, none⟩) (by first | (rw [add_block]; exact hn148_2) | (show (Addr.add _ _).block ≠ _; rw [add_block]; exact hn148_2) | exact hn148_2) (.bool t142)).trans hx148_1; replace hx148_2 := (cell_far (p := ⟨gb147, 2, none⟩) (by first | (rw [add_block]; exact hn148_2) | (show (Addr.add _ _).block ≠ _; rw [add_block]; exact hn148_2) | exact hn148_2) (.bool t142)).trans hx148_2; replace hx148_3 := (cell_far (p := ⟨gb147, 2, none⟩) (by first | (rw [add_block]; exact hn148_2) | (show (Addr.add _ _).block ≠ _; rw [add_block]; exact hn148_2) | exact hn148_2) (.bool t142)).trans hx148_3; replace hx148_0 := (cell_far (p := ⟨gb147, 3, none⟩) (by first | (rw [add_block]; exact hn148_3) | (show (Addr.add _ _).block ≠ _; rw [add_block]; exact hn148_3) | exact hn148_3) (.int .i64 t143)).trans hx148_0; replace hx148_1 := (cell_far (p := ⟨gb147, 3, none⟩) (by first | (rw [add_block]; exact hn148_3) | (show (Addr.add _ _).block ≠ _; rw [add_block]; exact hn148_3) | exact hn148_3) (.int .i64 t143)).trans hx148_1; replace hx148_2 := (cell_far (p := ⟨gb147, 3, none⟩) (by first | (rw [add_block]; exact hn148_3) | (show (Addr.add _ _).block ≠ _; rw [add_block]; exact hn148_3) | exact hn148_3) (.int .i64 t143)).trans hx148_2; replace hx148_3 := (cell_far (p := ⟨gb147, 3, none⟩) (by first | (rw [add_block]; exact hn148_3) | (show (Addr.add _ _).block ≠ _; rw [add_block]; exact hn148_3) | exact hn148_3) (.int .i64 t143)).trans hx148_3; replace hx148_0 := (cell_far (p := ⟨gb147, 4, none⟩) (by first | (rw [add_block]; exact hn148_4) | (show (Addr.add _ _).block ≠ _; rw [add_block]; exact hn148_4) | exact hn148_4) (.int .i64 t144)).trans hx148_0; replace hx148_1 := (cell_far (p := ⟨gb147, 4, none⟩) (by first | (rw [add_block]; exact hn148_4) | (show (Addr.add _ _).block ≠ _; rw [add_block]; exact hn148_4) | exact hn148_4) (.int .i64 t144)).trans hx148_1; replace hx148_2 := (cell_far (p := ⟨gb147, 4, none⟩) (by first | (rw [add_block]; exact hn148_4) | (show (Addr.add _ _).block ≠ _; rw [add_block]; exact hn148_4) | exact hn148_4) (.int .i64 t144)).trans hx148_2; replace hx148_3 := (cell_far (p := ⟨gb147, 4, none⟩) (by first | (rw [add_block]; exact hn148_4) | (show (Addr.add _ _).block ≠ _; rw [add_block]; exact hn148_4) | exact hn148_4) (.int .i64 t144)).trans hx148_3; replace hx148_0 := (cell_far (p := ⟨gb147, 5, none⟩) (by first | (rw [add_block]; exact hn148_5) | (show (Addr.add _ _).block ≠ _; rw [add_block]; exact hn148_5) | exact hn148_5) (.int .i64 t145)).trans hx148_0; replace hx148_1 := (cell_far (p := ⟨gb147, 5, none⟩) (by first | (rw [add_block]; exact hn148_5) | (show (Addr.add _ _).block ≠ _; rw [add_block]; exact hn148_5) | exact hn148_5) (.int .i64 t145)).trans hx148_1; replace hx148_2 := (cell_far (p := ⟨gb147, 5, none⟩) (by first | (rw [add_block]; exact hn148_5) | (show (Addr.add _ _).block ≠ _; rw [add_block]; exact hn148_5) | exact hn148_5) (.int .i64 t145)).trans hx148_2; replace hx148_3 := (cell_far (p := ⟨gb147, 5, none⟩) (by first | (rw [add_block]; exact hn148_5) | (show (Addr.add _ _).block ≠ _; rw [add_block]; exact hn148_5) | exact hn148_5) (.int .i64 t145)).trans hx148_3; replace hx148_0 := (cell_far (p := ⟨gb147, 6, none⟩) (by first | (rw [add_block]; exact hn148_6) | (show (Addr.add _ _).block ≠ _; rw [add_block]; exact hn148_6) | exact hn148_6) (.string t146)).trans hx148_0; replace hx148_1 := (cell_far (p := ⟨gb147, 6, none⟩) (by first | (rw [add_block]; exact hn148_6) | (show (Addr.add _ _).block ≠ _; rw [add_block]; exact hn148_6) | exact hn148_6) (.string t146)).trans hx148_1; replace hx148_2 := (cell_far (p := ⟨gb147, 6, none⟩) (by first | (rw [add_block]; exact hn148_6) | (show (Addr.add _ _).block ≠ _; rw [add_block]; exact hn148_6) | exact hn148_6) (.string t146)).trans hx148_2; replace hx148_3 := (cell_far (p := ⟨gb147, 6, none⟩) (by first | (rw [add_block]; exact hn148_6) | (show (Addr.add _ _).block ≠ _; rw [add_block]; exact hn148_6) | exact hn148_6) (.string t146)).trans hx148_3; clear hn148_0; clear hn148_1; clear hn148_2; clear hn148_3; clear hn148_4; clear hn148_5; clear hn148_6; replace p148 := eq_true p148; replace q148 := eq_true q148) | ((with_reducible refine gate_builtin (b := .append) (xs := #[.tmp 81, .tmp 85]) rfl ?_); (try (refine gate_guard (by rfl) ?_; dsimp only)); at_builtin; refine Kd.R_append k63 (w0 := w) w.heap.size rfl (.tmp 81) (.tmp 85) 55 63 (.agg #[(.int .i64 0), (.int .i64 0), (.int .i64 0), (.bool false), (.int .i64 0), (.int .i64 0), (.int .i64 0), (.string ⟨#[]⟩)]) 72 rfl Try.underlying55 info63 rfl (by decide) (by omega) u10 x10_2 (⟨rd t136 x56_2, (⟨t140, t141, t142, t143, t144, t145, t146⟩ : S49)⟩ : S63) [.int .i64 (rd t136 x56_2), .int .i64 t140, .int .i64 t141, .bool t142, .int .i64 t143, .int .i64 t144, .int .i64 t145, .string t146] (fun _ => True) (fun _ => False) rfl (by first | (go_simp; done) | (go_simp; rfl)) ?aP (fun _ hk => hk.elim) ?aF ?aO ?aB ?aS ?aL ?_; (case aP => exact k63_mkM _ _ _ (⟨rd t136 x56_2, (⟨t140, t141, t142, t143, t144, t145, t146⟩ : S49)⟩ : S63)); (case aB => exact (by repeat (first | (with_reducible first | exact HB.out | apply below_alloc | apply pw_below_drewN | apply below_drew1 | refine below_set ?_ GE130.out | refine below_set ?_ GE147.out) | exact HB.out))); (case aF => exact (fun _ _ => trivial)); (case aO => exact (by (with_reducible repeat (first | apply Kd.R_alloc | apply Kd.R_drewN | apply Kd.R_drew)); exact Kd.R_mono (Kd.R_far (p := ⟨gb147, 6, none⟩) (Kd.R_far (p := ⟨gb147, 5, none⟩) (Kd.R_far (p := ⟨gb147, 4, none⟩) (Kd.R_far (p := ⟨gb147, 3, none⟩) (Kd.R_far (p := ⟨gb147, 2, none⟩) (Kd.R_far (p := ⟨gb147, 1, none⟩) (Kd.R_far (p := ⟨gb147, 0, none⟩) (Kd.R_types HO_10.out BK147.out (by decide)) (fun _ hk => hk.2) (.int .i64 t140)) (fun _ hk => hk.2) (.int .i64 t141)) (fun _ hk => hk.2) (.bool t142)) (fun _ hk => hk.2) (.int .i64 t143)) (fun _ hk => hk.2) (.int .i64 t144)) (fun _ hk => hk.2) (.int .i64 t145)) (fun _ hk => hk.2) (.string t146)) (fun _ hk => trivial))); (case aS => exact (below_size (by repeat (first | (with_reducible first | exact HB.out | apply below_alloc | apply pw_below_drewN | apply below_drew1 | refine below_set ?_ GE130.out | refine below_set ?_ GE147.out) | exact HB.out)))); (case aL => have := LMc58.out; omega); intro v164 w64 ho hb hg hat; rw [← Ny163.out] at ho; have n0_ := Aside0.mk (Kd.R_over' (by (with_reducible repeat (first | apply Kd.R_alloc | apply Kd.R_drewN | apply Kd.R_drew)); exact (Kd.R_mono (Kd.R_far (p := ⟨gb147, 6, none⟩) (Kd.R_far (p := ⟨gb147, 5, none⟩) (Kd.R_far (p := ⟨gb147, 4, none⟩) (Kd.R_far (p := ⟨gb147, 3, none⟩) (Kd.R_far (p := ⟨gb147, 2, none⟩) (Kd.R_far (p := ⟨gb147, 1, none⟩) (Kd.R_far (p := ⟨gb147, 0, none⟩) (Kd.R_types HO_54.out BK147.out (by decide)) (fun _ hk => hk.2) (.int .i64 t140)) (fun _ hk => hk.2) (.int .i64 t141)) (fun _ hk => hk.2) (.bool t142)) (fun _ hk => hk.2) (.int .i64 t143)) (fun _ hk => hk.2) (.int .i64 t144)) (fun _ hk => hk.2) (.int .i64 t145)) (fun _ hk => hk.2) (.string t146)) (fun _ h_ => h_.1))) (Kd.R_typed (by (with_reducible repeat (first | apply Kd.R_alloc | apply Kd.R_drewN | apply Kd.R_drew)); exact (Kd.R_mono (Kd.R_far (p := ⟨gb147, 6, none⟩) (Kd.R_far (p := ⟨gb147, 5, none⟩) (Kd.R_far (p := ⟨gb147, 4, none⟩) (Kd.R_far (p := ⟨gb147, 3, none⟩) (Kd.R_far (p := ⟨gb147, 2, none⟩) (Kd.R_far (p := ⟨gb147, 1, none⟩) (Kd.R_far (p := ⟨gb147, 0, none⟩) (Kd.R_types HO_10.out BK147.out (by decide)) (fun _ hk => hk.2) (.int .i64 t140)) (fun _ hk => hk.2) (.int .i64 t141)) (fun _ hk => hk.2) (.bool t142)) (fun _ hk => hk.2) (.int .i64 t143)) (fun _ hk => hk.2) (.int .i64 t144)) (fun _ hk => hk.2) (.int .i64 t145)) (fun _ hk => hk.2) (.string t146)) (fun _ h_ => h_.1)))) (by decide) hg); have n1_ := Aside0.mk (blk_grown (g := gb130) (o := .cells #[.int .i64 a2_0, .int .i64 a2_1, .bool a2_2, .int .i64 a2_3, .int .i64 a2_4, .int .i64 a2_5, .string a2_6] 49 (0, 0)) (by (with_reducible repeat (first | refine blk_drewN ?_ _ | refine blk_drew ?_ | refine blk_alloc ?_ _)); refine blk_far ?_ NB130_147.out _; (with_reducible repeat (first | refine blk_drewN ?_ _ | refine blk_drew ?_ | refine blk_alloc ?_ _)); refine blk_far ?_ NB130_147.out _; (with_reducible repeat (first | refine blk_drewN ?_ _ | refine blk_drew ?_ | refine blk_alloc ?_ _)); refine blk_far ?_ NB130_147.out _; (with_reducible repeat (first | refine blk_drewN ?_ _ | refine blk_drew ?_ | refine blk_alloc ?_ _)); refine blk_far ?_ NB130_147.out _; (with_reducible repeat (first | refine blk_drewN ?_ _ | refine blk_drew ?_ | refine blk_alloc ?_ _)); refine blk_far ?_ NB130_147.out _; (with_reducible repeat (first | refine blk_drewN ?_ _ | refine blk_drew ?_ | refine blk_alloc ?_ _)); refine blk_far ?_ NB130_147.out _; (with_reducible repeat (first | refine blk_drewN ?_ _ | refine blk_drew ?_ | refine blk_alloc ?_ _)); refine blk_far ?_ NB130_147.out _; (with_reducible repeat (first | refine blk_drewN ?_ _ | refine blk_drew ?_ | refine blk_alloc ?_ _)); exact BK130.out) hg (Kd.R_ne HO_10.out BK130.out (by decide))); have n2_ := Aside0.mk (blk_grown (g := gb147) (o := .cells #[.int .i64 t140, .int .i64 t141, .bool t142, .int .i64 t143, .int .i64 t144, .int .i64 t145, .string t146] 49 (0, 0)) (by (with_reducible repeat (first | refine blk_drewN ?_ _ | refine blk_drew ?_ | refine blk_alloc ?_ _)); refine blk_put (cs := #[.int .i64 t140, .int .i64 t141, .bool t142, .int .i64 t143, .int .i64 t144, .int .i64 t145, .string (⟨#[]⟩ : ByteArray)]) ?_ 6 _ rfl; (with_reducible repeat (first | refine blk_drewN ?_ _ | refine blk_drew ?_ | refine blk_alloc ?_ _)); refine blk_put (cs := #[.int .i64 t140, .int .i64 t141, .bool t142, .int .i64 t143, .int .i64 t144, .int .i64 0, .string (⟨#[]⟩ : ByteArray)]) ?_ 5 _ rfl; (with_reducible repeat (first | refine blk_drewN ?_ _ | refine blk_drew ?_ | refine blk_alloc ?_ _)); refine blk_put (cs := #[.int .i64 t140, .int .i64 t141, .bool t142, .int .i64 t143, .int .i64 0, .int .i64 0, .string (⟨#[]⟩ : ByteArray)]) ?_ 4 _ rfl; (with_reducible repeat (first | refine blk_drewN ?_ _ | refine blk_drew ?_ | refine blk_alloc ?_ _)); refine blk_put (cs := #[.int .i64 t140, .int .i64 t141, .bool t142, .int .i64 0, .int .i64 0, .int .i64 0, .string (⟨#[]⟩ : ByteArray)]) ?_ 3 _ rfl; (with_reducible repeat (first | refine blk_drewN ?_ _ | refine blk_drew ?_ | refine blk_alloc ?_ _)); refine blk_put (cs := #[.int .i64 t140, .int .i64 t141, .bool false, .int .i64 0, .int .i64 0, .int .i64 0, .string (⟨#[]⟩ : ByteArray)]) ?_ 2 _ rfl; (with_reducible repeat (first | refine blk_drewN ?_ _ | refine blk_drew ?_ | refine blk_alloc ?_ _)); refine blk_put (cs := #[.int .i64 t140, .int .i64 0, .bool false, .int .i64 0, .int .i64 0, .int .i64 0, .string (⟨#[]⟩ : ByteArray)]) ?_ 1 _ rfl; (with_reducible repeat (first | refine blk_drewN ?_ _ | refine blk_drew ?_ | refine blk_alloc ?_ _)); refine blk_put (cs := #[.int .i64 0, .int .i64 0, .bool false, .int .i64 0, .int .i64 0, .int .i64 0, .string (⟨#[]⟩ : ByteArray)]) ?_ 0 _ rfl; (with_reducible repeat (first | refine blk_drewN ?_ _ | refine blk_drew ?_ | refine blk_alloc ?_ _)); exact BK147.out) hg (Kd.R_ne HO_10.out BK147.out (by decide))); have n3_ := Aside0.mk (hb); have n4_ := Aside0.mk (ho); clear HO_54; clear BK130; clear BK147; clear HB; clear HO_10; have HO_54 := n0_; have BK130 := n1_; have BK147 := n2_; have HB := n3_; have HO165 := n4_; clear n0_ n1_ n2_ n3_ n4_; clear ho hb hg hat))
                                go_roundg k2
                                case measure => have := HJ4.out; have := HK2.out; omega
                                case rel => exact ⟨(y163), (wrap64 (x56_2 + 1)), (by first | rfl | (simp; done) | (simp [*]; done)), H', ⟨by have := HJ4.out; have := HK2.out; omega⟩, ⟨by (with_reducible repeat (first | apply Kd.R_alloc | apply Kd.R_drewN | apply Kd.R_drew)); exact HO165.out⟩, ⟨by (with_reducible repeat (first | apply Kd.R_alloc | apply Kd.R_drewN | apply Kd.R_drew)); exact HO_54.out⟩, ⟨by (with_reducible repeat (first | refine blk_drewN ?_ _ | refine blk_drew ?_ | refine blk_alloc ?_ _)); exact BK130.out⟩, ⟨by repeat (first | (with_reducible first | exact HB.out | apply below_alloc | apply pw_below_drewN | apply below_drew1 | refine below_set ?_ GE130.out | refine below_set ?_ GE147.out) | exact HB.out)⟩⟩
                              · rw [if_neg c58] at H
                                exact absurd H (by simp)
                          · rw [if_neg c36] at H
                            exact absurd H (by simp)
                        · rw [if_neg c35] at H
                          exact absurd H (by simp)
                      · rw [if_neg c33] at H
                        exact absurd H (by simp)
                    · rw [if_neg c32] at H
                      exact absurd H (by simp)
                  · rw [if_neg c31] at H
                    have c31b0 : decide (x56_2 < (t136.length : Int)) = false := decide_eq_false c31
                    clear c31
                    obtain rfl := Option.some.inj H
                    go_wp2
                    go_ret
                    exact ⟨_, by first | rfl | (simp [errW_none, errW_some] <;> rfl) | (simp [*, errW_none, errW_some] <;> rfl), by (with_reducible repeat (first | apply Kd.R_alloc | apply Kd.R_drewN | apply Kd.R_drew)); exact HO_10.out, by repeat (first | (with_reducible first | exact HB.out | apply below_alloc | apply pw_below_drewN | apply below_drew1 | refine below_set ?_ GE130.out) | exact HB.out)⟩
          · rw [if_neg c20] at H
            exact absurd H (by simp)
        · rw [if_neg c19] at H
          exact absurd H (by simp)
end Go.Proofs.Ytjhkbmdblfdlnaa.QRlb
