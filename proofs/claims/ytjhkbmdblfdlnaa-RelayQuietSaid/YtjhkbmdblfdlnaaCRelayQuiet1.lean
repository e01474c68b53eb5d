/- Functions of the program as plain Lean functions, what their calls do, and what follows of it. Conditions: each theorem's own. -/
import Derived.Test.YtjhkbmdblfdlnaaCRelayQuiet0
namespace Go.Proofs.Ytjhkbmdblfdlnaa.QRel
open Go.RowKit Go.Proofs.YtjhkbmdblfdlnaaW.PrintWords Go.Proofs.YtjhkbmdblfdlnaaW.PrintLast Go.Proofs.YtjhkbmdblfdlnaaW.PrintMore
attribute [local go_sem] max2_int min2_int max_two min_two max_three min_three max_four min_four
set_option linter.unusedVariables false
set_option linter.unusedSimpArgs false
mutual
def relay_Relay.j0 : Nat → List (S54) → Int → List (S84) → Bool → Int → Int → Bool → Int → Int → Int → ByteArray → Option ((List (S63)))
  | 0, _, _, _, _, _, _, _, _, _, _, _ => none
  | k + 1, x0, x1, x3, x39, x131000, x131001, x131002, x131003, x131004, x131005, x131006 => if x39 = true then (some ([] : List (S63))) else (if 0 ≤ x1 then (if x1 < (x0.length : Int) then ((relay_Class.f k ((rd_T54 x0 x1).f0) ((rd_T54 x0 x1).f1) ((rd_T54 x0 x1).f2) ((rd_T54 x0 x1).f3) x131000 x131001 x131002 x131003 x131004 x131005 x131006).bind fun t135 => (if t135 = 0 then (some ([] : List (S63))) else ((relay_targets.f k x0 x1 t135 x131000 x3).bind fun t136 => (relay_Relay.l0 k x0 t135 ([] : List (S63)) t136 (t136.length : Int) 0 x131000 x131001 x131002 x131003 x131004 x131005 x131006)))) else (none)) else (none))
def relay_Relay.l0 : Nat → List (S54) → Int → List (S63) → List Int → Int → Int → Int → Int → Bool → Int → Int → Int → ByteArray → Option ((List (S63)))
  | 0, _, _, _, _, _, _, _, _, _, _, _, _, _ => none
  | k + 1, x0, x9, x10, x54, x55, x56, x131000, x131001, x131002, x131003, x131004, x131005, x131006 => if x56 < x55 then (if 0 ≤ x56 then (if x56 < (x54.length : Int) then ((frame_Tag.f x131000 x131001 x131002 x131003 x131004 x131005 x131006 x9 x131004).bind fun bt140 => (if 0 ≤ (rd x54 x56) then (if (rd x54 x56) < (x0.length : Int) then (if (rd_T54 x0 (rd x54 x56)).f2 = true then (if ((rd_T54 x0 (rd x54 x56)).f1) = x9 then ((frame_Untag.f x131000 x131001 x131002 x131003 x131004 x131005 x131006).bind fun bt150 => (if x10.length < 1954687338268 then (relay_Relay.l0 k x0 x9 (x10 ++ [(⟨rd x54 x56, (⟨bt150.1, bt150.2.1, bt150.2.2.1, bt150.2.2.2.1, bt150.2.2.2.2.1, bt150.2.2.2.2.2.1, bt150.2.2.2.2.2.2⟩ : S49)⟩ : S63)]) x54 x55 (wrap64 (x56 + 1)) x131000 x131001 x131002 x131003 x131004 x131005 x131006) else (none))) else (if x10.length < 1954687338268 then (relay_Relay.l0 k x0 x9 (x10 ++ [(⟨rd x54 x56, (⟨bt140.1, bt140.2.1, bt140.2.2.1, bt140.2.2.2.1, bt140.2.2.2.2.1, bt140.2.2.2.2.2.1, bt140.2.2.2.2.2.2⟩ : S49)⟩ : S63)]) x54 x55 (wrap64 (x56 + 1)) x131000 x131001 x131002 x131003 x131004 x131005 x131006) else (none))) else (if x10.length < 1954687338268 then (relay_Relay.l0 k x0 x9 (x10 ++ [(⟨rd x54 x56, (⟨bt140.1, bt140.2.1, bt140.2.2.1, bt140.2.2.2.1, bt140.2.2.2.2.1, bt140.2.2.2.2.2.1, bt140.2.2.2.2.2.2⟩ : S49)⟩ : S63)]) x54 x55 (wrap64 (x56 + 1)) x131000 x131001 x131002 x131003 x131004 x131005 x131006) else (none))) else (none)) else (none))) else (none)) else (none)) else (some x10)
end
def relay_Relay.f (k : Nat) (l0 : List (S54)) (a1 : Int) (a2_0 : Int) (a2_1 : Int) (a2_2 : Bool) (a2_3 : Int) (a2_4 : Int) (a2_5 : Int) (a2_6 : ByteArray) (l3 : List (S84)) : Option ((List (S63))) := if a1 < 0 then (relay_Relay.j0 k l0 a1 l3 true a2_0 a2_1 a2_2 a2_3 a2_4 a2_5 a2_6) else (if a1 ≥ (l0.length : Int) then (relay_Relay.j0 k l0 a1 l3 true a2_0 a2_1 a2_2 a2_3 a2_4 a2_5 a2_6) else (if 0 ≤ a1 then (if a1 < (l0.length : Int) then (if ((rd_T54 l0 a1).f0) = 2 then ((addr_Kept.f a2_0).bind fun t132 => (if t132 = true then (relay_Relay.j0 k l0 a1 l3 true a2_0 a2_1 a2_2 a2_3 a2_4 a2_5 a2_6) else ((frame_Good.f k a2_0 a2_1 a2_2 a2_3 a2_4 a2_5 a2_6).bind fun t133 => (relay_Relay.j0 k l0 a1 l3 (!t133) a2_0 a2_1 a2_2 a2_3 a2_4 a2_5 a2_6)))) else (relay_Relay.j0 k l0 a1 l3 true a2_0 a2_1 a2_2 a2_3 a2_4 a2_5 a2_6)) else (none)) else (none)))
theorem relay_Relay.mono_l : ∀ k, (∀ y0 y1 y2 y3 y4 y5 y6 y7 y8 y9 y10, LeO (relay_Relay.j0 k y0 y1 y2 y3 y4 y5 y6 y7 y8 y9 y10) (relay_Relay.j0 (k + 1) y0 y1 y2 y3 y4 y5 y6 y7 y8 y9 y10)) ∧ (∀ y0 y1 y2 y3 y4 y5 y6 y7 y8 y9 y10 y11 y12, LeO (relay_Relay.l0 k y0 y1 y2 y3 y4 y5 y6 y7 y8 y9 y10 y11 y12) (relay_Relay.l0 (k + 1) y0 y1 y2 y3 y4 y5 y6 y7 y8 y9 y10 y11 y12))
  | 0 => ⟨fun _ _ _ _ _ _ _ _ _ _ _ r h => by simp [relay_Relay.j0] at h, fun _ _ _ _ _ _ _ _ _ _ _ _ _ r h => by simp [relay_Relay.l0] at h⟩
  | k + 1 => by
    obtain ⟨ih0, ih1⟩ := relay_Relay.mono_l k
    refine ⟨?_, ?_⟩
    · intro y0 y1 y2 y3 y4 y5 y6 y7 y8 y9 y10
      unfold relay_Relay.j0
      repeat' first
      | (with_reducible exact ih0 _ _ _ _ _ _ _ _ _ _ _)
      | (with_reducible exact ih1 _ _ _ _ _ _ _ _ _ _ _ _ _)
      | (with_reducible exact frame_Good.mono _ _ _ _ _ _ _ _)
      | (with_reducible exact relay_Class.mono _ _ _ _ _ _ _ _ _ _ _ _)
      | (with_reducible exact relay_targets.mono _ _ _ _ _ _)
      | (with_reducible exact LeO.refl _)
      | (with_reducible exact LeO.none _)
      | (with_reducible refine LeO.ite ?_ ?_)
      | (with_reducible refine LeO.bind ?_ (fun _ => ?_))
      | exact ih0 _ _ _ _ _ _ _ _ _ _ _
      | exact ih1 _ _ _ _ _ _ _ _ _ _ _ _ _
      | exact frame_Good.mono _ _ _ _ _ _ _ _
      | exact relay_Class.mono _ _ _ _ _ _ _ _ _ _ _ _
      | exact relay_targets.mono _ _ _ _ _ _
      | exact LeO.none _
      | refine LeO.ite ?_ ?_
      | refine LeO.bind ?_ (fun _ => ?_)
    · intro y0 y1 y2 y3 y4 y5 y6 y7 y8 y9 y10 y11 y12
      unfold relay_Relay.l0
      repeat' first
      | (with_reducible exact ih0 _ _ _ _ _ _ _ _ _ _ _)
      | (with_reducible exact ih1 _ _ _ _ _ _ _ _ _ _ _ _ _)
      | (with_reducible exact frame_Good.mono _ _ _ _ _ _ _ _)
      | (with_reducible exact relay_Class.mono _ _ _ _ _ _ _ _ _ _ _ _)
      | (with_reducible exact relay_targets.mono _ _ _ _ _ _)
      | (with_reducible exact LeO.refl _)
      | (with_reducible exact LeO.none _)
      | (with_reducible refine LeO.ite ?_ ?_)
      | (with_reducible refine LeO.bind ?_ (fun _ => ?_))
      | exact ih0 _ _ _ _ _ _ _ _ _ _ _
      | exact ih1 _ _ _ _ _ _ _ _ _ _ _ _ _
      | exact frame_Good.mono _ _ _ _ _ _ _ _
      | exact relay_Class.mono _ _ _ _ _ _ _ _ _ _ _ _
      | exact relay_targets.mono _ _ _ _ _ _
      | exact LeO.none _
      | refine LeO.ite ?_ ?_
      | refine LeO.bind ?_ (fun _ => ?_)
theorem relay_Relay.mono : ∀ a0 a1 a2 a3 a4 a5 a6 a7 a8 a9 k, LeO (relay_Relay.f k a0 a1 a2 a3 a4 a5 a6 a7 a8 a9) (relay_Relay.f (k + 1) a0 a1 a2 a3 a4 a5 a6 a7 a8 a9) := by
  intro a0 a1 a2 a3 a4 a5 a6 a7 a8 a9 k
  obtain ⟨ih0, ih1⟩ := relay_Relay.mono_l k
  unfold relay_Relay.f
  repeat' first
      | (with_reducible exact ih0 _ _ _ _ _ _ _ _ _ _ _)
      | (with_reducible exact ih1 _ _ _ _ _ _ _ _ _ _ _ _ _)
      | (with_reducible exact frame_Good.mono _ _ _ _ _ _ _ _)
      | (with_reducible exact relay_Class.mono _ _ _ _ _ _ _ _ _ _ _ _)
      | (with_reducible exact relay_targets.mono _ _ _ _ _ _)
      | (with_reducible exact LeO.refl _)
      | (with_reducible exact LeO.none _)
      | (with_reducible refine LeO.ite ?_ ?_)
      | (with_reducible refine LeO.bind ?_ (fun _ => ?_))
      | exact ih0 _ _ _ _ _ _ _ _ _ _ _
      | exact ih1 _ _ _ _ _ _ _ _ _ _ _ _ _
      | exact frame_Good.mono _ _ _ _ _ _ _ _
      | exact relay_Class.mono _ _ _ _ _ _ _ _ _ _ _ _
      | exact relay_targets.mono _ _ _ _ _ _
      | exact LeO.none _
      | refine LeO.ite ?_ ?_
      | refine LeO.bind ?_ (fun _ => ?_)
set_option maxHeartbeats 8000000 in
set_option maxRecDepth 100000 in
theorem relay_Relay.calls (k : Nat) (A0 : Option Addr) (c0 : Nat) (l0 : List (S54)) (a1 : Int) (a2_0 : Int) (a2_1 : Int) (a2_2 : Bool) (a2_3 : Int) (a2_4 : Int) (a2_5 : Int) (a2_6 : ByteArray) (v3 : Value) (l3 : List (S84)) (r : List (S63)) (w : World) (hr0 : Kd.C k54 w A0 l0.length l0) (hc0 : l0.length ≤ c0) (hr3 : TabC w v3 l3) (h : relay_Relay.f k l0 a1 a2_0 a2_1 a2_2 a2_3 a2_4 a2_5 a2_6 l3 = some r) :
    Calls Try.prog 27 #[.slice A0 l0.length c0, .int .i64 a1, .agg #[.int .i64 a2_0, .int .i64 a2_1, .bool a2_2, .int .i64 a2_3, .int .i64 a2_4, .int .i64 a2_5, .string a2_6], v3] w fun e w' => ∃ v0_ : Value, e = .returned (v0_) ∧ Kd.R k63 63 w' w.heap.size (fun _ => True) v0_ r ∧ Below w.heap.size w w' := by
  have hu49 := Try.underlying49
  have hu54 := Try.underlying54
  have hu63 := Try.underlying63
  have HR0 := Aside0.mk hr0
  have HC0 := Aside0.mk hc0
  clear hr0 hc0
  have HR3 := Aside0.mk hr3
  clear hr3
  have HB := Aside0.mk (Below.refl w.heap.size w)
  have H : (if a1 < 0 then (relay_Relay.j0 k l0 a1 l3 true a2_0 a2_1 a2_2 a2_3 a2_4 a2_5 a2_6) else (if a1 ≥ (l0.length : Int) then (relay_Relay.j0 k l0 a1 l3 true a2_0 a2_1 a2_2 a2_3 a2_4 a2_5 a2_6) else (if 0 ≤ a1 then (if a1 < (l0.length : Int) then (if ((rd_T54 l0 a1).f0) = 2 then ((addr_Kept.f a2_0).bind fun t132 => (if t132 = true then (relay_Relay.j0 k l0 a1 l3 true a2_0 a2_1 a2_2 a2_3 a2_4 a2_5 a2_6) else ((frame_Good.f k a2_0 a2_1 a2_2 a2_3 a2_4 a2_5 a2_6).bind fun t133 => (relay_Relay.j0 k l0 a1 l3 (!t133) a2_0 a2_1 a2_2 a2_3 a2_4 a2_5 a2_6)))) else (relay_Relay.j0 k l0 a1 l3 true a2_0 a2_1 a2_2 a2_3 a2_4 a2_5 a2_6)) else (none)) else (none)))) = some r := h
  clear h
  have HC5 := Aside0.mk H
  clear H
  go_enter Try.func27, Try.ntmps27
  go_upto_region 1 with (first | ((with_reducible refine gate_dst (N := 6) rfl ?_); (try (refine gate_guard (by rfl) ?_; dsimp only)); refine box_event ?hg (N := 6) ?hd (cs := #[.int .i64 a2_0, .int .i64 a2_1, .bool a2_2, .int .i64 a2_3, .int .i64 a2_4, .int .i64 a2_5, .string a2_6]) (t := 49) ?hr ?_; (case hd => rfl); (case hg => rfl); (case hr => first | (go_simp; done) | (go_simp; rfl)); intro gb130 hg w6 hbox hb; have n0_ := Aside0.mk (below_step (by repeat (first | (with_reducible first | exact HB.out | apply below_alloc | apply pw_below_drewN | apply below_drew1) | exact HB.out)) hb); have n1_ := Aside0.mk (hbox); have n2_ := Aside0.mk ((by rw [hg]; exact (below_size (by repeat (first | (with_reducible first | exact HB.out | apply below_alloc | apply pw_below_drewN | apply below_drew1) | exact HB.out))) : w.heap.size ≤ gb130)); have n3_ := Aside0.mk ((by rw [hg]; exact (below_size (by repeat (first | (with_reducible first | exact HB.out | apply below_alloc | apply pw_below_drewN | apply below_drew1) | exact HB.out))) : w.heap.size ≤ gb130)); clear HB; have HB := n0_; have BK130 := n1_; have GW130 := n2_; have GE130 := n3_; clear n0_ n1_ n2_ n3_; clear hb hbox hg))
  (try simp only [Act.put, List.setIfInBounds_toArray, List.set_cons_zero, List.set_cons_succ])
  go_cut [39] (fun v39 wc => ∃ (kq : Nat) (x39_4 : Bool), v39 = .bool x39_4 ∧ Aside0 (relay_Relay.j0 kq l0 a1 l3 x39_4 a2_0 a2_1 a2_2 a2_3 a2_4 a2_5 a2_6 = some r) ∧ Aside0 (kq ≤ k) ∧ Aside0 (wc.heap[gb130]? = some (.cells #[.int .i64 a2_0, .int .i64 a2_1, .bool a2_2, .int .i64 a2_3, .int .i64 a2_4, .int .i64 a2_5, .string a2_6] 49 (0, 0))) ∧ Aside0 (Below w.heap.size w wc))
  case first =>
    have H := HC5.out
    clear HC5
    by_cases c7 : a1 < 0
    · rw [if_pos c7] at H
      have c7b0 : decide (a1 < 0) = true := decide_eq_true c7
      clear c7
      (first | rw [c7b0] | (simp only [i64_w, i32_w]; rw [c7b0]) | skip)
      have H' := Aside0.mk H
      clear H
      go_wp2
      go_meet
      case rel => exact ⟨_, (true), (by first | rfl | (simp; done) | (simp [*]; done)), H', ⟨by first | omega | exact Nat.le_refl _⟩, ⟨by (with_reducible repeat (first | refine blk_drewN ?_ _ | refine blk_drew ?_ | refine blk_alloc ?_ _)); exact BK130.out⟩, ⟨by repeat (first | (with_reducible first | exact HB.out | apply below_alloc | apply pw_below_drewN | apply below_drew1 | refine below_set ?_ GE130.out) | exact HB.out)⟩⟩
    · rw [if_neg c7] at H
      have c7b0 : decide (a1 < 0) = false := decide_eq_false c7
      clear c7
      (first | rw [c7b0] | (simp only [i64_w, i32_w]; rw [c7b0]) | skip)
      by_cases c8 : a1 ≥ (l0.length : Int)
      · rw [if_pos c8] at H
        have c8b0 : decide ((l0.length : Int) ≤ a1) = true := decide_eq_true c8
        clear c8
        have H' := Aside0.mk H
        clear H
        go_wp2
        go_meet
        case rel => exact ⟨_, (true), (by first | rfl | (simp; done) | (simp [*]; done)), H', ⟨by first | omega | exact Nat.le_refl _⟩, ⟨by (with_reducible repeat (first | refine blk_drewN ?_ _ | refine blk_drew ?_ | refine blk_alloc ?_ _)); exact BK130.out⟩, ⟨by repeat (first | (with_reducible first | exact HB.out | apply below_alloc | apply pw_below_drewN | apply below_drew1 | refine below_set ?_ GE130.out) | exact HB.out)⟩⟩
      · rw [if_neg c8] at H
        have c8b0 : decide ((l0.length : Int) ≤ a1) = false := decide_eq_false c8
        clear c8
        by_cases c9 : 0 ≤ a1
        · rw [if_pos c9] at H
          have c9b0 : decide (0 ≤ a1) = true := decide_eq_true c9
          clear c9
          by_cases c10 : a1 < (l0.length : Int)
          · rw [if_pos c10] at H
            have c10b0 : decide (a1 < (l0.length : Int)) = true := decide_eq_true c10
            clear c10
            by_cases c11 : ((rd_T54 l0 a1).f0) = 2
            · rw [if_pos c11] at H
              have c11b0 : (((rd_T54 l0 a1).f0) == 2) = true := beq_iff_eq.mpr c11
              have c11b1 : (((rd_T54 l0 a1).f0) != 2) = false := bne_eq_false_iff_eq.mpr c11
              clear c11
              replace H := Option.bind_eq_some_iff.mp H
              obtain ⟨t132, A120, H⟩ := H
              replace H : (if t132 = true then (relay_Relay.j0 k l0 a1 l3 true a2_0 a2_1 a2_2 a2_3 a2_4 a2_5 a2_6) else ((frame_Good.f k a2_0 a2_1 a2_2 a2_3 a2_4 a2_5 a2_6).bind fun t133 => (relay_Relay.j0 k l0 a1 l3 (!t133) a2_0 a2_1 a2_2 a2_3 a2_4 a2_5 a2_6))) = some r := H
              have A12 := Aside0.mk A120
              clear A120
              by_cases c13 : t132 = true
              · subst c13
                have H1 : (relay_Relay.j0 k l0 a1 l3 true a2_0 a2_1 a2_2 a2_3 a2_4 a2_5 a2_6) = some r := by rw [if_pos rfl] at H; exact H
                clear H
                have H := H1
                clear H1
                have H' := Aside0.mk H
                clear H
                have p131 : 0 ≤ (a1 : Int) := of_decide_eq_true (by first | (with_reducible assumption) | assumption)
                have q131 : a1 < (l0.length : Int) := of_decide_eq_true (by first | (with_reducible assumption) | assumption)
                obtain ⟨ad131, A131_3, c131_3, e131, hx131_0, hx131_1, hx131_2, hx131_3, hl131_3, hi131_3⟩ := at_T54 HR0.out a1 p131 q131
                cases e131
                replace hx131_0 := (HB.out.cell (World.block_lt_of_cell? w _ hx131_0)).trans hx131_0
                replace hx131_1 := (HB.out.cell (World.block_lt_of_cell? w _ hx131_1)).trans hx131_1
                replace hx131_2 := (HB.out.cell (World.block_lt_of_cell? w _ hx131_2)).trans hx131_2
                replace hx131_3 := (HB.out.cell (World.block_lt_of_cell? w _ hx131_3)).trans hx131_3
                have HR131_3 := Aside0.mk hi131_3
                have HC131_3 := Aside0.mk hl131_3
                clear hi131_3 hl131_3
                replace p131 := eq_true p131
                replace q131 := eq_true q131
                have hcz14_0 : w6.cell? ⟨gb130, 0, none⟩ = some (.int .i64 a2_0) := (blk_cell BK130.out 0).trans rfl
                have hcz14_1 : w6.cell? ⟨gb130, 1, none⟩ = some (.int .i64 a2_1) := (blk_cell BK130.out 1).trans rfl
                have hcz14_2 : w6.cell? ⟨gb130, 2, none⟩ = some (.bool a2_2) := (blk_cell BK130.out 2).trans rfl
                have hcz14_3 : w6.cell? ⟨gb130, 3, none⟩ = some (.int .i64 a2_3) := (blk_cell BK130.out 3).trans rfl
                have hcz14_4 : w6.cell? ⟨gb130, 4, none⟩ = some (.int .i64 a2_4) := (blk_cell BK130.out 4).trans rfl
                have hcz14_5 : w6.cell? ⟨gb130, 5, none⟩ = some (.int .i64 a2_5) := (blk_cell BK130.out 5).trans rfl
                have hcz14_6 : w6.cell? ⟨gb130, 6, none⟩ = some (.string a2_6) := (blk_cell BK130.out 6).trans rfl
                have hfz14_0 := blk_frozen BK130.out 0
                have hfz14_1 := blk_frozen BK130.out 1
                have hfz14_2 := blk_frozen BK130.out 2
                have hfz14_3 := blk_frozen BK130.out 3
                have hfz14_4 := blk_frozen BK130.out 4
                have hfz14_5 := blk_frozen BK130.out 5
                have hfz14_6 := blk_frozen BK130.out 6
                go_wp2_with (first | (go_at_call 37; (with_reducible refine (addr_Kept.calls a2_0 true _ A12.out).mono ?_); rintro e w' ⟨rfl, ⟨nd, rfl⟩⟩))
                go_meet
                case rel => exact ⟨_, (true), (by first | rfl | (simp; done) | (simp [*]; done)), H', ⟨by first | omega | exact Nat.le_refl _⟩, ⟨by (with_reducible repeat (first | refine blk_drewN ?_ _ | refine blk_drew ?_ | refine blk_alloc ?_ _)); exact BK130.out⟩, ⟨by repeat (first | (with_reducible first | exact HB.out | apply below_alloc | apply pw_below_drewN | apply below_drew1 | refine below_set ?_ GE130.out) | exact HB.out)⟩⟩
              · replace c13 := Bool.eq_false_iff.mpr c13
                subst c13
                have H1 : ((frame_Good.f k a2_0 a2_1 a2_2 a2_3 a2_4 a2_5 a2_6).bind fun t133 => (relay_Relay.j0 k l0 a1 l3 (!t133) a2_0 a2_1 a2_2 a2_3 a2_4 a2_5 a2_6)) = some r := by rw [if_neg (show ¬ (false = true) by decide)] at H; exact H
                clear H
                have H := H1
                clear H1
                replace H := Option.bind_eq_some_iff.mp H
                obtain ⟨t133, A150, H⟩ := H
                replace H : (relay_Relay.j0 k l0 a1 l3 (!t133) a2_0 a2_1 a2_2 a2_3 a2_4 a2_5 a2_6) = some r := H
                have A15 := Aside0.mk A150
                clear A150
                have H' := Aside0.mk H
                clear H
                have p131 : 0 ≤ (a1 : Int) := of_decide_eq_true (by first | (with_reducible assumption) | assumption)
                have q131 : a1 < (l0.length : Int) := of_decide_eq_true (by first | (with_reducible assumption) | assumption)
                obtain ⟨ad131, A131_3, c131_3, e131, hx131_0, hx131_1, hx131_2, hx131_3, hl131_3, hi131_3⟩ := at_T54 HR0.out a1 p131 q131
                cases e131
                replace hx131_0 := (HB.out.cell (World.block_lt_of_cell? w _ hx131_0)).trans hx131_0
                replace hx131_1 := (HB.out.cell (World.block_lt_of_cell? w _ hx131_1)).trans hx131_1
                replace hx131_2 := (HB.out.cell (World.block_lt_of_cell? w _ hx131_2)).trans hx131_2
                replace hx131_3 := (HB.out.cell (World.block_lt_of_cell? w _ hx131_3)).trans hx131_3
                have HR131_3 := Aside0.mk hi131_3
                have HC131_3 := Aside0.mk hl131_3
                clear hi131_3 hl131_3
                replace p131 := eq_true p131
                replace q131 := eq_true q131
                have hcz16_0 : w6.cell? ⟨gb130, 0, none⟩ = some (.int .i64 a2_0) := (blk_cell BK130.out 0).trans rfl
                have hcz16_1 : w6.cell? ⟨gb130, 1, none⟩ = some (.int .i64 a2_1) := (blk_cell BK130.out 1).trans rfl
                have hcz16_2 : w6.cell? ⟨gb130, 2, none⟩ = some (.bool a2_2) := (blk_cell BK130.out 2).trans rfl
                have hcz16_3 : w6.cell? ⟨gb130, 3, none⟩ = some (.int .i64 a2_3) := (blk_cell BK130.out 3).trans rfl
                have hcz16_4 : w6.cell? ⟨gb130, 4, none⟩ = some (.int .i64 a2_4) := (blk_cell BK130.out 4).trans rfl
                have hcz16_5 : w6.cell? ⟨gb130, 5, none⟩ = some (.int .i64 a2_5) := (blk_cell BK130.out 5).trans rfl
                have hcz16_6 : w6.cell? ⟨gb130, 6, none⟩ = some (.string a2_6) := (blk_cell BK130.out 6).trans rfl
                have hfz16_0 := blk_frozen BK130.out 0
                have hfz16_1 := blk_frozen BK130.out 1
                have hfz16_2 := blk_frozen BK130.out 2
                have hfz16_3 := blk_frozen BK130.out 3
                have hfz16_4 := blk_frozen BK130.out 4
                have hfz16_5 := blk_frozen BK130.out 5
                have hfz16_6 := blk_frozen BK130.out 6
                go_wp2_with (first | (go_at_call 37; (with_reducible refine (addr_Kept.calls a2_0 false _ A12.out).mono ?_); rintro e w' ⟨rfl, ⟨nd, rfl⟩⟩) | (go_at_call 38; (with_reducible refine (frame_Good.calls k a2_0 a2_1 a2_2 a2_3 a2_4 a2_5 a2_6 t133 _ A15.out).mono ?_); rintro e w17 ⟨rfl, hb⟩; have n0_ := Aside0.mk (blk_below (g := gb130) (o := .cells #[.int .i64 a2_0, .int .i64 a2_1, .bool a2_2, .int .i64 a2_3, .int .i64 a2_4, .int .i64 a2_5, .string a2_6] 49 (0, 0)) (by (with_reducible repeat (first | refine blk_drewN ?_ _ | refine blk_drew ?_ | refine blk_alloc ?_ _)); exact BK130.out) hb); have n1_ := Aside0.mk (below_step (by repeat (first | (with_reducible first | exact HB.out | apply below_alloc | apply pw_below_drewN | apply below_drew1 | refine below_set ?_ GE130.out) | exact HB.out)) hb); clear BK130; clear HB; have BK130 := n0_; have HB := n1_; clear n0_ n1_; (try clear hb); (try clear hb2); (try clear hk); (try clear hi)))
                go_meet
                case rel => exact ⟨_, (!t133), (by first | rfl | (simp; done) | (simp [*]; done)), H', ⟨by first | omega | exact Nat.le_refl _⟩, ⟨by (with_reducible repeat (first | refine blk_drewN ?_ _ | refine blk_drew ?_ | refine blk_alloc ?_ _)); exact BK130.out⟩, ⟨by repeat (first | (with_reducible first | exact HB.out | apply below_alloc | apply pw_below_drewN | apply below_drew1 | refine below_set ?_ GE130.out) | exact HB.out)⟩⟩
            · rw [if_neg c11] at H
              have c11b0 : (((rd_T54 l0 a1).f0) == 2) = false := beq_eq_false_iff_ne.mpr c11
              have c11b1 : (((rd_T54 l0 a1).f0) != 2) = true := bne_iff_ne.mpr c11
              have H' := Aside0.mk H
              clear H
              have p131 : 0 ≤ (a1 : Int) := of_decide_eq_true (by first | (with_reducible assumption) | assumption)
              have q131 : a1 < (l0.length : Int) := of_decide_eq_true (by first | (with_reducible assumption) | assumption)
              obtain ⟨ad131, A131_3, c131_3, e131, hx131_0, hx131_1, hx131_2, hx131_3, hl131_3, hi131_3⟩ := at_T54 HR0.out a1 p131 q131
              cases e131
              replace hx131_0 := (HB.out.cell (World.block_lt_of_cell? w _ hx131_0)).trans hx131_0
              replace hx131_1 := (HB.out.cell (World.block_lt_of_cell? w _ hx131_1)).trans hx131_1
              replace hx131_2 := (HB.out.cell (World.block_lt_of_cell? w _ hx131_2)).trans hx131_2
              replace hx131_3 := (HB.out.cell (World.block_lt_of_cell? w _ hx131_3)).trans hx131_3
              have HR131_3 := Aside0.mk hi131_3
              have HC131_3 := Aside0.mk hl131_3
              clear hi131_3 hl131_3
              replace p131 := eq_true p131
              replace q131 := eq_true q131
              go_wp2
              go_meet
              case rel => exact ⟨_, (true), (by first | rfl | (simp; done) | (simp [*]; done)), H', ⟨by first | omega | exact Nat.le_refl _⟩, ⟨by (with_reducible repeat (first | refine blk_drewN ?_ _ | refine blk_drew ?_ | refine blk_alloc ?_ _)); exact BK130.out⟩, ⟨by repeat (first | (with_reducible first | exact HB.out | apply below_alloc | apply pw_below_drewN | apply below_drew1 | refine below_set ?_ GE130.out) | exact HB.out)⟩⟩
          · rw [if_neg c10] at H
            exact absurd H (by simp)
        · rw [if_neg c9] at H
          exact absurd H (by simp)
  case rest =>
    clear HC5
    try clear c1
    try clear p1
    try clear q1
    try clear hx1
    try clear c2
    try clear p2
    try clear c3
    try clear c7
    try clear c7b0
    try clear c8
    try clear c8b0
    try clear c9
    try clear c9b0
    try clear c10
    try clear c10b0
    try clear c11
    try clear c11b0
    try clear c11b1
    try clear c13
    try clear p13
    try clear q13
    try clear hx13
    try clear hcz14_0
    try clear hcz14_1
    try clear hcz14_2
    try clear hcz14_3
    try clear hcz14_4
    try clear hcz14_5
    try clear hcz14_6
    try clear hcz16_0
    try clear hcz16_1
    try clear hcz16_2
    try clear hcz16_3
    try clear hcz16_4
    try clear hcz16_5
    try clear hcz16_6
    try clear hfz14_0
    try clear hfz14_1
    try clear hfz14_2
    try clear hfz14_3
    try clear hfz14_4
    try clear hfz14_5
    try clear hfz14_6
    try clear hfz16_0
    try clear hfz16_1
    try clear hfz16_2
    try clear hfz16_3
    try clear hfz16_4
    try clear hfz16_5
    try clear hfz16_6
    try clear hx131_0
    try clear hx131_1
    try clear hx131_2
    try clear hx131_3
    try clear p131
    try clear q131
    obtain ⟨kq, x39_4, rfl, HA, HJ4, BK130, HB⟩ := hcut
    cases kq with
    | zero => exact absurd HA.out (by simp [relay_Relay.j0])
    | succ kj4 =>
      have H := HA.out
      clear HA
      simp only [relay_Relay.j0] at H
      by_cases c18 : x39_4 = true
      · subst c18
        have H1 : (some ([] : List (S63))) = some r := by rw [if_pos rfl] at H; exact H
        clear H
        have H := H1
        clear H1
        obtain rfl := Option.some.inj H
        go_wp2
        go_ret
        exact ⟨_, by first | rfl | (simp [errW_none, errW_some] <;> rfl) | (simp [*, errW_none, errW_some] <;> rfl), by first | exact Kd.R_nil _ _ _ _ _ | exact Kd.N_nil _ _ _ _ _ | exact Kd.V_nil _ _ _ _ _ | exact Kd.Q_nil _ _ _ _ _ | exact Kd.S_nil _ _ _ _ _, by repeat (first | (with_reducible first | exact HB.out | apply below_alloc | apply pw_below_drewN | apply below_drew1 | refine below_set ?_ GE130.out) | exact HB.out)⟩
      · replace c18 := Bool.eq_false_iff.mpr c18
        subst c18
        have H1 : (if 0 ≤ a1 then (if a1 < (l0.length : Int) then ((relay_Class.f kj4 ((rd_T54 l0 a1).f0) ((rd_T54 l0 a1).f1) ((rd_T54 l0 a1).f2) ((rd_T54 l0 a1).f3) a2_0 a2_1 a2_2 a2_3 a2_4 a2_5 a2_6).bind fun t135 => (if t135 = 0 then (some ([] : List (S63))) else ((relay_targets.f kj4 l0 a1 t135 a2_0 l3).bind fun t136 => (relay_Relay.l0 kj4 l0 t135 ([] : List (S63)) t136 (t136.length : Int) 0 a2_0 a2_1 a2_2 a2_3 a2_4 a2_5 a2_6)))) else (none)) else (none)) = some r := by rw [if_neg (show ¬ (false = true) by decide)] at H; exact H
        clear H
        have H := H1
        clear H1
        by_cases c19 : 0 ≤ a1
        · rw [if_pos c19] at H
          have c19b0 : decide (0 ≤ a1) = true := decide_eq_true c19
          clear c19
          by_cases c20 : a1 < (l0.length : Int)
          · rw [if_pos c20] at H
            have c20b0 : decide (a1 < (l0.length : Int)) = true := decide_eq_true c20
            clear c20
            replace H := Option.bind_eq_some_iff.mp H
            obtain ⟨t135, A210, H⟩ := H
            replace H : (if t135 = 0 then (some ([] : List (S63))) else ((relay_targets.f kj4 l0 a1 t135 a2_0 l3).bind fun t136 => (relay_Relay.l0 kj4 l0 t135 ([] : List (S63)) t136 (t136.length : Int) 0 a2_0 a2_1 a2_2 a2_3 a2_4 a2_5 a2_6))) = some r := H
            have A21 := Aside0.mk A210
            clear A210
            by_cases c22 : t135 = 0
            · rw [if_pos c22] at H
              have c22b0 : (t135 == 0) = true := beq_iff_eq.mpr c22
              have c22b1 : (t135 != 0) = false := bne_eq_false_iff_eq.mpr c22
              clear c22
              obtain rfl := Option.some.inj H
              try go_wp2
              have n0_ := Aside0.mk (blk_drew BK130.out)
              have n1_ := Aside0.mk (below_drew1 HB.out)
              clear BK130
              clear HB
              have BK130 := n0_
              have HB := n1_
              clear n0_ n1_
              have p134 : 0 ≤ (a1 : Int) := of_decide_eq_true (by first | (with_reducible assumption) | assumption)
              have q134 : a1 < (l0.length : Int) := of_decide_eq_true (by first | (with_reducible assumption) | assumption)
              obtain ⟨ad134, A134_3, c134_3, e134, hx134_0, hx134_1, hx134_2, hx134_3, hl134_3, hi134_3⟩ := at_T54 HR0.out a1 p134 q134
              have hw134_3 := hx134_3
              have hw134_2 := hx134_2
              have hw134_1 := hx134_1
              have hw134_0 := hx134_0
              cases e134
              replace hx134_0 := (HB.out.cell (World.block_lt_of_cell? w _ hx134_0)).trans hx134_0
              replace hx134_1 := (HB.out.cell (World.block_lt_of_cell? w _ hx134_1)).trans hx134_1
              replace hx134_2 := (HB.out.cell (World.block_lt_of_cell? w _ hx134_2)).trans hx134_2
              replace hx134_3 := (HB.out.cell (World.block_lt_of_cell? w _ hx134_3)).trans hx134_3
              have HR134_3 := Aside0.mk hi134_3
              have HC134_3 := Aside0.mk hl134_3
              clear hi134_3 hl134_3
              replace p134 := eq_true p134
              replace q134 := eq_true q134
              refine start_ (n := 7) (S := fun w' => w'.cell? ⟨gb130, 0, none⟩ = some (.int .i64 a2_0) ∧ w'.cell? ⟨gb130, 1, none⟩ = some (.int .i64 a2_1) ∧ w'.cell? ⟨gb130, 2, none⟩ = some (.bool a2_2) ∧ w'.cell? ⟨gb130, 3, none⟩ = some (.int .i64 a2_3) ∧ w'.cell? ⟨gb130, 4, none⟩ = some (.int .i64 a2_4) ∧ w'.cell? ⟨gb130, 5, none⟩ = some (.int .i64 a2_5) ∧ w'.cell? ⟨gb130, 6, none⟩ = some (.string a2_6) ∧ w'.cell? (ad134.add ((a1).toNat * 4)) = some (.int .i64 ((rd_T54 l0 a1).f0)) ∧ w'.cell? ⟨(ad134.add ((a1).toNat * 4)).block, (ad134.add ((a1).toNat * 4)).off + 1, none⟩ = some (.int .i64 ((rd_T54 l0 a1).f1)) ∧ w'.cell? ⟨(ad134.add ((a1).toNat * 4)).block, (ad134.add ((a1).toNat * 4)).off + 2, none⟩ = some (.bool ((rd_T54 l0 a1).f2)) ∧ w'.cell? ⟨(ad134.add ((a1).toNat * 4)).block, (ad134.add ((a1).toNat * 4)).off + 3, none⟩ = some (.slice A134_3 ((rd_T54 l0 a1).f3).length c134_3)) (ds := []) #[false, false, false, false, false, false, false] (by kernel_rfl) rfl rfl ⟨(blk_cell BK130.out 0).trans rfl, (blk_cell BK130.out 1).trans rfl, (blk_cell BK130.out 2).trans rfl, (blk_cell BK130.out 3).trans rfl, (blk_cell BK130.out 4).trans rfl, (blk_cell BK130.out 5).trans rfl, (blk_cell BK130.out 6).trans rfl, ((HB.out.cell (World.block_lt_of_cell? w _ hw134_0)).trans hw134_0), ((HB.out.cell (World.block_lt_of_cell? w _ hw134_1)).trans hw134_1), ((HB.out.cell (World.block_lt_of_cell? w _ hw134_2)).trans hw134_2), ((HB.out.cell (World.block_lt_of_cell? w _ hw134_3)).trans hw134_3)⟩ (fun hHeld => ?_)
              generalize wc.drew = w23 at BK130 HB HR134_3 hx134_0 hx134_1 hx134_2 hx134_3 hHeld ⊢
              refine pure_ (i := 0) (N := some 40) (v := ?_) (a' := ?_) #[true, false, false, false, false, false, false] rfl rfl (by kernel_rfl) (fun _ _ _ h => h) (Or.inl ⟨by rfl, ?_⟩) ?_ ?_
              rotate_left
              · intro w'
                go_simp
                with_reducible rfl
              rotate_left
              · simp only [Act.put, List.setIfInBounds_toArray, List.set_cons_zero, List.set_cons_succ, i64_w, i32_w]
                rfl
              refine pure_ (i := 1) (N := some 41) (v := ?_) (a' := ?_) #[true, true, false, false, false, false, false] rfl rfl (by kernel_rfl) (fun _ _ _ h => h) (Or.inl ⟨by rfl, ?_⟩) ?_ ?_
              rotate_left
              · intro w'
                go_simp
                with_reducible rfl
              rotate_left
              · simp only [Act.put, List.setIfInBounds_toArray, List.set_cons_zero, List.set_cons_succ, i64_w, i32_w]
                rfl
              refine pure_ (i := 2) (N := some 42) (v := ?_) (a' := ?_) #[true, true, true, false, false, false, false] rfl rfl (by kernel_rfl) (fun _ _ _ h => h) (Or.inl ⟨by rfl, ?_⟩) ?_ ?_
              rotate_left
              · intro w'
                go_simp
                with_reducible rfl
              rotate_left
              · simp only [Act.put, List.setIfInBounds_toArray, List.set_cons_zero, List.set_cons_succ, i64_w, i32_w]
                rfl
              refine take_ (i := 3) (N := some 43) (v := ?_) (a' := ?_) #[true, true, true, true, false, false, false] rfl rfl (by kernel_rfl) (fun _ _ _ h => h) (Or.inl ⟨by rfl, ?_⟩) hHeld ?_ ?_
              rotate_left
              · rintro w' ⟨s0, s1, s2, s3, s4, s5, s6, s7, s8, s9, s10⟩
                go_simp
                with_reducible rfl
              rotate_left
              · simp only [Act.put, List.setIfInBounds_toArray, List.set_cons_zero, List.set_cons_succ, i64_w, i32_w]
                rfl
              refine take_ (i := 4) (N := some 44) (v := ?_) (a' := ?_) #[true, true, true, true, true, false, false] rfl rfl (by kernel_rfl) (fun _ _ _ h => h) (Or.inl ⟨by rfl, ?_⟩) hHeld ?_ ?_
              rotate_left
              · rintro w' ⟨s0, s1, s2, s3, s4, s5, s6, s7, s8, s9, s10⟩
                go_simp
                with_reducible rfl
              rotate_left
              · simp only [Act.put, List.setIfInBounds_toArray, List.set_cons_zero, List.set_cons_succ, i64_w, i32_w]
                rfl
              refine one_ (i := 5) (N := some 45) #[true, true, true, true, true, true, false] rfl rfl (by kernel_rfl) (by decide) (fun K hK => ?_)
              refine goes_ Try.func39 (by kernel_rfl) rfl #[.agg #[.int .i64 ((rd_T54 l0 a1).f0), .int .i64 ((rd_T54 l0 a1).f1), .bool ((rd_T54 l0 a1).f2), .slice A134_3 ((rd_T54 l0 a1).f3).length c134_3], .agg #[.int .i64 a2_0, .int .i64 a2_1, .bool a2_2, .int .i64 a2_3, .int .i64 a2_4, .int .i64 a2_5, .string a2_6]] (by rfl) rfl rfl (by (try simp only [List.map_toArray, List.map_cons, List.map_nil]); first | done | rfl | (simp only [List.length_drop, List.length_take]; rfl)) ?_
              with_reducible refine (relay_Class.calls kj4 ((rd_T54 l0 a1).f0) ((rd_T54 l0 a1).f1) ((rd_T54 l0 a1).f2) _ _ ((rd_T54 l0 a1).f3) a2_0 a2_1 a2_2 a2_3 a2_4 a2_5 a2_6 t135 _ ?side1 ?side2 A21.out).mono ?_
              (case side1 => repeat (first | exact (Kd.C_below HR134_3.out HB.out) | (with_reducible refine Kd.C_alloc ?_ _) | (with_reducible refine Kd.C_drewN ?_ _) | (with_reducible refine Kd.C_drew ?_)))
              (case side2 => exact HC134_3.out)
              rintro e w24 ⟨rfl, hb⟩
              refine ⟨_, rfl, ?_⟩
              have n0_ := Aside0.mk (blk_below (g := gb130) (o := .cells #[.int .i64 a2_0, .int .i64 a2_1, .bool a2_2, .int .i64 a2_3, .int .i64 a2_4, .int .i64 a2_5, .string a2_6] 49 (0, 0)) (by (with_reducible repeat (first | refine blk_drewN ?_ _ | refine blk_drew ?_ | refine blk_alloc ?_ _)); exact BK130.out) hb)
              have n1_ := Aside0.mk (below_step (by repeat (first | (with_reducible first | exact HB.out | apply below_alloc | apply pw_below_drewN | apply below_drew1 | refine below_set ?_ GE130.out) | exact HB.out)) hb)
              clear BK130
              clear HB
              have BK130 := n0_
              have HB := n1_
              clear n0_ n1_
              (try clear hb)
              (try clear hb2)
              (try clear hk)
              (try clear hi)
              refine hK.out _ _ ⟨(blk_cell BK130.out 0).trans rfl, (blk_cell BK130.out 1).trans rfl, (blk_cell BK130.out 2).trans rfl, (blk_cell BK130.out 3).trans rfl, (blk_cell BK130.out 4).trans rfl, (blk_cell BK130.out 5).trans rfl, (blk_cell BK130.out 6).trans rfl, ((HB.out.cell (World.block_lt_of_cell? w _ hw134_0)).trans hw134_0), ((HB.out.cell (World.block_lt_of_cell? w _ hw134_1)).trans hw134_1), ((HB.out.cell (World.block_lt_of_cell? w _ hw134_2)).trans hw134_2), ((HB.out.cell (World.block_lt_of_cell? w _ hw134_3)).trans hw134_3)⟩ (fun hHeld => ?_)
              clear hK K
              refine norm_ (a' := ?_) ?_ ?_
              rotate_left
              · show Act.put _ (some 45) _ = _
                simp only [Act.put, List.setIfInBounds_toArray, List.set_cons_zero, List.set_cons_succ, i64_w, i32_w]
                rfl
              refine pure_ (i := 6) (N := some 9) (v := ?_) (a' := ?_) #[true, true, true, true, true, true, true] rfl rfl (by kernel_rfl) (fun _ _ _ h => h) (Or.inl ⟨by rfl, ?_⟩) ?_ ?_
              rotate_left
              · intro w'
                go_simp
                with_reducible rfl
              rotate_left
              · simp only [Act.put, List.setIfInBounds_toArray, List.set_cons_zero, List.set_cons_succ, i64_w, i32_w]
                rfl
              refine done_ (by kernel_rfl) ?_
              try go_wp2
              go_ret
              exact ⟨_, by first | rfl | (simp [errW_none, errW_some] <;> rfl) | (simp [*, errW_none, errW_some] <;> rfl), by first | exact Kd.R_nil _ _ _ _ _ | exact Kd.N_nil _ _ _ _ _ | exact Kd.V_nil _ _ _ _ _ | exact Kd.Q_nil _ _ _ _ _ | exact Kd.S_nil _ _ _ _ _, by repeat (first | (with_reducible first | exact HB.out | apply below_alloc | apply pw_below_drewN | apply below_drew1 | refine below_set ?_ GE130.out) | exact HB.out)⟩
            · rw [if_neg c22] at H
              have c22b0 : (t135 == 0) = false := beq_eq_false_iff_ne.mpr c22
              have c22b1 : (t135 != 0) = true := bne_iff_ne.mpr c22
              replace H := Option.bind_eq_some_iff.mp H
              obtain ⟨t136, A250, H⟩ := H
              replace H : (relay_Relay.l0 kj4 l0 t135 ([] : List (S63)) t136 (t136.length : Int) 0 a2_0 a2_1 a2_2 a2_3 a2_4 a2_5 a2_6) = some r := H
              have A25 := Aside0.mk A250
              clear A250
              have H' := Aside0.mk H
              clear H
              try go_wp2
              have n0_ := Aside0.mk (blk_drew BK130.out)
              have n1_ := Aside0.mk (below_drew1 HB.out)
              clear BK130
              clear HB
              have BK130 := n0_
              have HB := n1_
              clear n0_ n1_
              have p134 : 0 ≤ (a1 : Int) := of_decide_eq_true (by first | (with_reducible assumption) | assumption)
              have q134 : a1 < (l0.length : Int) := of_decide_eq_true (by first | (with_reducible assumption) | assumption)
              obtain ⟨ad134, A134_3, c134_3, e134, hx134_0, hx134_1, hx134_2, hx134_3, hl134_3, hi134_3⟩ := at_T54 HR0.out a1 p134 q134
              have hw134_3 := hx134_3
              have hw134_2 := hx134_2
              have hw134_1 := hx134_1
              have hw134_0 := hx134_0
              cases e134
              replace hx134_0 := (HB.out.cell (World.block_lt_of_cell? w _ hx134_0)).trans hx134_0
              replace hx134_1 := (HB.out.cell (World.block_lt_of_cell? w _ hx134_1)).trans hx134_1
              replace hx134_2 := (HB.out.cell (World.block_lt_of_cell? w _ hx134_2)).trans hx134_2
              replace hx134_3 := (HB.out.cell (World.block_lt_of_cell? w _ hx134_3)).trans hx134_3
              have HR134_3 := Aside0.mk hi134_3
              have HC134_3 := Aside0.mk hl134_3
              clear hi134_3 hl134_3
              replace p134 := eq_true p134
              replace q134 := eq_true q134
              refine start_ (n := 7) (S := fun w' => w'.cell? ⟨gb130, 0, none⟩ = some (.int .i64 a2_0) ∧ w'.cell? ⟨gb130, 1, none⟩ = some (.int .i64 a2_1) ∧ w'.cell? ⟨gb130, 2, none⟩ = some (.bool a2_2) ∧ w'.cell? ⟨gb130, 3, none⟩ = some (.int .i64 a2_3) ∧ w'.cell? ⟨gb130, 4, none⟩ = some (.int .i64 a2_4) ∧ w'.cell? ⟨gb130, 5, none⟩ = some (.int .i64 a2_5) ∧ w'.cell? ⟨gb130, 6, none⟩ = some (.string a2_6) ∧ w'.cell? (ad134.add ((a1).toNat * 4)) = some (.int .i64 ((rd_T54 l0 a1).f0)) ∧ w'.cell? ⟨(ad134.add ((a1).toNat * 4)).block, (ad134.add ((a1).toNat * 4)).off + 1, none⟩ = some (.int .i64 ((rd_T54 l0 a1).f1)) ∧ w'.cell? ⟨(ad134.add ((a1).toNat * 4)).block, (ad134.add ((a1).toNat * 4)).off + 2, none⟩ = some (.bool ((rd_T54 l0 a1).f2)) ∧ w'.cell? ⟨(ad134.add ((a1).toNat * 4)).block, (ad134.add ((a1).toNat * 4)).off + 3, none⟩ = some (.slice A134_3 ((rd_T54 l0 a1).f3).length c134_3)) (ds := []) #[false, false, false, false, false, false, false] (by kernel_rfl) rfl rfl ⟨(blk_cell BK130.out 0).trans rfl, (blk_cell BK130.out 1).trans rfl, (blk_cell BK130.out 2).trans rfl, (blk_cell BK130.out 3).trans rfl, (blk_cell BK130.out 4).trans rfl, (blk_cell BK130.out 5).trans rfl, (blk_cell BK130.out 6).trans rfl, ((HB.out.cell (World.block_lt_of_cell? w _ hw134_0)).trans hw134_0), ((HB.out.cell (World.block_lt_of_cell? w _ hw134_1)).trans hw134_1), ((HB.out.cell (World.block_lt_of_cell? w _ hw134_2)).trans hw134_2), ((HB.out.cell (World.block_lt_of_cell? w _ hw134_3)).trans hw134_3)⟩ (fun hHeld => ?_)
              generalize wc.drew = w26 at BK130 HB HR134_3 hx134_0 hx134_1 hx134_2 hx134_3 hHeld ⊢
              refine pure_ (i := 0) (N := some 40) (v := ?_) (a' := ?_) #[true, false, false, false, false, false, false] rfl rfl (by kernel_rfl) (fun _ _ _ h => h) (Or.inl ⟨by rfl, ?_⟩) ?_ ?_
              rotate_left
              · intro w'
                go_simp
                with_reducible rfl
              rotate_left
              · simp only [Act.put, List.setIfInBounds_toArray, List.set_cons_zero, List.set_cons_succ, i64_w, i32_w]
                rfl
              refine pure_ (i := 1) (N := some 41) (v := ?_) (a' := ?_) #[true, true, false, false, false, false, false] rfl rfl (by kernel_rfl) (fun _ _ _ h => h) (Or.inl ⟨by rfl, ?_⟩) ?_ ?_
              rotate_left
              · intro w'
                go_simp
                with_reducible rfl
              rotate_left
              · simp only [Act.put, List.setIfInBounds_toArray, List.set_cons_zero, List.set_cons_succ, i64_w, i32_w]
                rfl
              refine pure_ (i := 2) (N := some 42) (v := ?_) (a' := ?_) #[true, true, true, false, false, false, false] rfl rfl (by kernel_rfl) (fun _ _ _ h => h) (Or.inl ⟨by rfl, ?_⟩) ?_ ?_
              rotate_left
              · intro w'
                go_simp
                with_reducible rfl
              rotate_left
              · simp only [Act.put, List.setIfInBounds_toArray, List.set_cons_zero, List.set_cons_succ, i64_w, i32_w]
                rfl
              refine take_ (i := 3) (N := some 43) (v := ?_) (a' := ?_) #[true, true, true, true, false, false, false] rfl rfl (by kernel_rfl) (fun _ _ _ h => h) (Or.inl ⟨by rfl, ?_⟩) hHeld ?_ ?_
              rotate_left
              · rintro w' ⟨s0, s1, s2, s3, s4, s5, s6, s7, s8, s9, s10⟩
                go_simp
                with_reducible rfl
              rotate_left
              · simp only [Act.put, List.setIfInBounds_toArray, List.set_cons_zero, List.set_cons_succ, i64_w, i32_w]
                rfl
              refine take_ (i := 4) (N := some 44) (v := ?_) (a' := ?_) #[true, true, true, true, true, false, false] rfl rfl (by kernel_rfl) (fun _ _ _ h => h) (Or.inl ⟨by rfl, ?_⟩) hHeld ?_ ?_
              rotate_left
              · rintro w' ⟨s0, s1, s2, s3, s4, s5, s6, s7, s8, s9, s10⟩
                go_simp
                with_reducible rfl
              rotate_left
              · simp only [Act.put, List.setIfInBounds_toArray, List.set_cons_zero, List.set_cons_succ, i64_w, i32_w]
                rfl
              refine one_ (i := 5) (N := some 45) #[true, true, true, true, true, true, false] rfl rfl (by kernel_rfl) (by decide) (fun K hK => ?_)
              refine goes_ Try.func39 (by kernel_rfl) rfl #[.agg #[.int .i64 ((rd_T54 l0 a1).f0), .int .i64 ((rd_T54 l0 a1).f1), .bool ((rd_T54 l0 a1).f2), .slice A134_3 ((rd_T54 l0 a1).f3).length c134_3], .agg #[.int .i64 a2_0, .int .i64 a2_1, .bool a2_2, .int .i64 a2_3, .int .i64 a2_4, .int .i64 a2_5, .string a2_6]] (by rfl) rfl rfl (by (try simp only [List.map_toArray, List.map_cons, List.map_nil]); first | done | rfl | (simp only [List.length_drop, List.length_take]; rfl)) ?_
              with_reducible refine (relay_Class.calls kj4 ((rd_T54 l0 a1).f0) ((rd_T54 l0 a1).f1) ((rd_T54 l0 a1).f2) _ _ ((rd_T54 l0 a1).f3) a2_0 a2_1 a2_2 a2_3 a2_4 a2_5 a2_6 t135 _ ?side1 ?side2 A21.out).mono ?_
              (case side1 => repeat (first | exact (Kd.C_below HR134_3.out HB.out) | (with_reducible refine Kd.C_alloc ?_ _) | (with_reducible refine Kd.C_drewN ?_ _) | (with_reducible refine Kd.C_drew ?_)))
              (case side2 => exact HC134_3.out)
              rintro e w27 ⟨rfl, hb⟩
              refine ⟨_, rfl, ?_⟩
              have n0_ := Aside0.mk (blk_below (g := gb130) (o := .cells #[.int .i64 a2_0, .int .i64 a2_1, .bool a2_2, .int .i64 a2_3, .int .i64 a2_4, .int .i64 a2_5, .string a2_6] 49 (0, 0)) (by (with_reducible repeat (first | refine blk_drewN ?_ _ | refine blk_drew ?_ | refine blk_alloc ?_ _)); exact BK130.out) hb)
              have n1_ := Aside0.mk (below_step (by repeat (first | (with_reducible first | exact HB.out | apply below_alloc | apply pw_below_drewN | apply below_drew1 | refine below_set ?_ GE130.out) | exact HB.out)) hb)
              clear BK130
              clear HB
              have BK130 := n0_
              have HB := n1_
              clear n0_ n1_
              (try clear hb)
              (try clear hb2)
              (try clear hk)
              (try clear hi)
              refine hK.out _ _ ⟨(blk_cell BK130.out 0).trans rfl, (blk_cell BK130.out 1).trans rfl, (blk_cell BK130.out 2).trans rfl, (blk_cell BK130.out 3).trans rfl, (blk_cell BK130.out 4).trans rfl, (blk_cell BK130.out 5).trans rfl, (blk_cell BK130.out 6).trans rfl, ((HB.out.cell (World.block_lt_of_cell? w _ hw134_0)).trans hw134_0), ((HB.out.cell (World.block_lt_of_cell? w _ hw134_1)).trans hw134_1), ((HB.out.cell (World.block_lt_of_cell? w _ hw134_2)).trans hw134_2), ((HB.out.cell (World.block_lt_of_cell? w _ hw134_3)).trans hw134_3)⟩ (fun hHeld => ?_)
              clear hK K
              refine norm_ (a' := ?_) ?_ ?_
              rotate_left
              · show Act.put _ (some 45) _ = _
                simp only [Act.put, List.setIfInBounds_toArray, List.set_cons_zero, List.set_cons_succ, i64_w, i32_w]
                rfl
              refine pure_ (i := 6) (N := some 9) (v := ?_) (a' := ?_) #[true, true, true, true, true, true, true] rfl rfl (by kernel_rfl) (fun _ _ _ h => h) (Or.inl ⟨by rfl, ?_⟩) ?_ ?_
              rotate_left
              · intro w'
                go_simp
                with_reducible rfl
              rotate_left
              · simp only [Act.put, List.setIfInBounds_toArray, List.set_cons_zero, List.set_cons_succ, i64_w, i32_w]
                rfl
              refine done_ (by kernel_rfl) ?_
              have hcz28_0 : w27.cell? ⟨gb130, 0, none⟩ = some (.int .i64 a2_0) := (blk_cell BK130.out 0).trans rfl
              have hcz28_1 : w27.cell? ⟨gb130, 1, none⟩ = some (.int .i64 a2_1) := (blk_cell BK130.out 1).trans rfl
              have hcz28_2 : w27.cell? ⟨gb130, 2, none⟩ = some (.bool a2_2) := (blk_cell BK130.out 2).trans rfl
              have hcz28_3 : w27.cell? ⟨gb130, 3, none⟩ = some (.int .i64 a2_3) := (blk_cell BK130.out 3).trans rfl
              have hcz28_4 : w27.cell? ⟨gb130, 4, none⟩ = some (.int .i64 a2_4) := (blk_cell BK130.out 4).trans rfl
              have hcz28_5 : w27.cell? ⟨gb130, 5, none⟩ = some (.int .i64 a2_5) := (blk_cell BK130.out 5).trans rfl
              have hcz28_6 : w27.cell? ⟨gb130, 6, none⟩ = some (.string a2_6) := (blk_cell BK130.out 6).trans rfl
              have hfz28_0 := blk_frozen BK130.out 0
              have hfz28_1 := blk_frozen BK130.out 1
              have hfz28_2 := blk_frozen BK130.out 2
              have hfz28_3 := blk_frozen BK130.out 3
              have hfz28_4 := blk_frozen BK130.out 4
              have hfz28_5 := blk_frozen BK130.out 5
              have hfz28_6 := blk_frozen BK130.out 6
              try go_wp2_with (first | ((with_reducible refine gate_callee (f := 40) rfl ?_); refine goesL_ (some 54) rfl rfl Try.func40 (by kernel_rfl) rfl #[.slice (some ad134) l0.length c0, .int .i64 a1, .int .i64 t135, .int .i64 a2_0, v3] rfl (by (try simp only [List.map_toArray, List.map_cons, List.map_nil]); first | done | rfl | (simp only [List.length_drop, List.length_take]; rfl)) ?_; (with_reducible refine (relay_targets.calls kj4 _ _ l0 a1 t135 a2_0 _ l3 t136 _ ?side1 ?side2 ?side3 A25.out).mono ?_); (case side1 => repeat (first | exact (Kd.C_below HR0.out HB.out) | (with_reducible refine Kd.C_alloc ?_ _) | (with_reducible refine Kd.C_drewN ?_ _) | (with_reducible refine Kd.C_drew ?_))); (case side2 => exact HC0.out); (case side3 => repeat (first | exact (TabC.below HR3.out HB.out) | (with_reducible refine TabC.alloc ?_ _) | (with_reducible refine TabC.drewN ?_ _) | (with_reducible refine TabC.drew ?_))); rintro e w29 ⟨v137, rfl, ho0, hb⟩; refine ⟨_, rfl, ?_⟩; have n0_ := Aside0.mk (Kd.R_lower ho0 (below_size (by repeat (first | (with_reducible first | exact HB.out | apply below_alloc | apply pw_below_drewN | apply below_drew1 | refine below_set ?_ GE130.out) | exact HB.out)))); have n1_ := Aside0.mk (blk_below (g := gb130) (o := .cells #[.int .i64 a2_0, .int .i64 a2_1, .bool a2_2, .int .i64 a2_3, .int .i64 a2_4, .int .i64 a2_5, .string a2_6] 49 (0, 0)) (by (with_reducible repeat (first | refine blk_drewN ?_ _ | refine blk_drew ?_ | refine blk_alloc ?_ _)); exact BK130.out) hb); have n2_ := Aside0.mk (below_step (by repeat (first | (with_reducible first | exact HB.out | apply below_alloc | apply pw_below_drewN | apply below_drew1 | refine below_set ?_ GE130.out) | exact HB.out)) hb); clear BK130; clear HB; have HO138 := n0_; have BK130 := n1_; have HB := n2_; clear n0_ n1_ n2_; (try clear hb); (try clear hb2); (try clear hk); (try clear hi); (try clear ho0); obtain ⟨Ao30, co30, eo30⟩ := Kd.R_slice HO138.out; subst eo30))
              go_loopg [10, 56] kj4 (fun kq v10 v56 w' => ∃ (x10_2 : List (S63)) (x56_2 : Int), v56 = .int .i64 x56_2 ∧ Aside0 (relay_Relay.l0 kq l0 t135 x10_2 t136 (t136.length : Int) x56_2 a2_0 a2_1 a2_2 a2_3 a2_4 a2_5 a2_6 = some r) ∧ Aside0 (kq ≤ kj4) ∧ Aside0 (Kd.R k63 63 w' w.heap.size (fun _ => True) v10 x10_2) ∧ Aside0 (Kd.R (Kd.int .i64) 3 w' w.heap.size (fun _ => True) (.slice Ao30 t136.length co30) t136) ∧ Aside0 (w'.heap[gb130]? = some (.cells #[.int .i64 a2_0, .int .i64 a2_1, .bool a2_2, .int .i64 a2_3, .int .i64 a2_4, .int .i64 a2_5, .string a2_6] 49 (0, 0))) ∧ Aside0 (Below w.heap.size w w'))
              case atStart => exact ⟨(([] : List (S63))), (0), (by first | rfl | (simp; done) | (simp [*]; done)), H', ⟨Nat.le_refl _⟩, ⟨by first | exact Kd.R_nil _ _ _ _ _ | exact Kd.N_nil _ _ _ _ _ | exact Kd.V_nil _ _ _ _ _ | exact Kd.Q_nil _ _ _ _ _ | exact Kd.S_nil _ _ _ _ _⟩, ⟨by (with_reducible repeat (first | apply Kd.R_alloc | apply Kd.R_drewN | apply Kd.R_drew)); exact HO138.out⟩, ⟨by (with_reducible repeat (first | refine blk_drewN ?_ _ | refine blk_drew ?_ | refine blk_alloc ?_ _)); exact BK130.out⟩, ⟨by repeat (first | (with_reducible first | exact HB.out | apply below_alloc | apply pw_below_drewN | apply below_drew1 | refine below_set ?_ GE130.out) | exact HB.out)⟩⟩
              case round =>
                clear H'
                try clear c1
                try clear p1
                try clear q1
                try clear hx1
                try clear c2
                try clear p2
                try clear c3
                try clear c4
                try clear c7
                try clear c7b0
                try clear c8
                try clear c8b0
                try clear c9
                try clear c9b0
                try clear c10
                try clear c10b0
                try clear c11
                try clear c11b0
                try clear c11b1
                try clear c13
                try clear p13
                try clear q13
                try clear hx13
                try clear c18
                try clear c19
                try clear c19b0
                try clear c20
                try clear c20b0
                try clear c22
                try clear c22b0
                try clear c22b1
                try clear c27
                try clear hcz14_0
                try clear hcz14_1
                try clear hcz14_2
                try clear hcz14_3
                try clear hcz14_4
                try clear hcz14_5
                try clear hcz14_6
                try clear hcz16_0
                try clear hcz16_1
                try clear hcz16_2
                try clear hcz16_3
                try clear hcz16_4
                try clear hcz16_5
                try clear hcz16_6
                try clear hcz28_0
                try clear hcz28_1
                try clear hcz28_2
                try clear hcz28_3
                try clear hcz28_4
                try clear hcz28_5
                try clear hcz28_6
                try clear hfz14_0
                try clear hfz14_1
                try clear hfz14_2
                try clear hfz14_3
                try clear hfz14_4
                try clear hfz14_5
                try clear hfz14_6
                try clear hfz16_0
                try clear hfz16_1
                try clear hfz16_2
                try clear hfz16_3
                try clear hfz16_4
                try clear hfz16_5
                try clear hfz16_6
                try clear hfz28_0
                try clear hfz28_1
                try clear hfz28_2
                try clear hfz28_3
                try clear hfz28_4
                try clear hfz28_5
                try clear hfz28_6
                try clear hx131_0
                try clear hx131_1
                try clear hx131_2
                try clear hx131_3
                try clear hx134_0
                try clear hx134_1
                try clear hx134_2
                try clear hx134_3
                try clear p1
                try clear p13
                try clear p131
                try clear p134
                try clear p2
                try clear q1
                try clear q13
                try clear q131
                try clear q134
                obtain ⟨x10_2, x56_2, rfl, HA, HK2, HO_10, HO_54, BK130, HB⟩ := hrel
                cases gk with
                | zero => exact absurd HA.out (by simp [relay_Relay.l0])
                | succ k2 =>
                  have H := HA.out
                  clear HA
                  simp only [relay_Relay.l0] at H
                  by_cases c31 : x56_2 < (t136.length : Int)
                  · rw [if_pos c31] at H
                    have c31b0 : decide (x56_2 < (t136.length : Int)) = true := decide_eq_true c31
                    clear c31
                    by_cases c32 : 0 ≤ x56_2
                    · rw [if_pos c32] at H
                      have c32b0 : decide (0 ≤ x56_2) = true := decide_eq_true c32
                      clear c32
                      by_cases c33 : x56_2 < (t136.length : Int)
                      · rw [if_pos c33] at H
                        have c33b0 : decide (x56_2 < (t136.length : Int)) = true := decide_eq_true c33
                        clear c33
                        replace H := Option.bind_eq_some_iff.mp H
                        obtain ⟨⟨t140, t141, t142, t143, t144, t145, t146⟩, A340, H⟩ := H
                        replace H : (if 0 ≤ (rd t136 x56_2) then (if (rd t136 x56_2) < (l0.length : Int) then (if (rd_T54 l0 (rd t136 x56_2)).f2 = true then (if ((rd_T54 l0 (rd t136 x56_2)).f1) = t135 then ((frame_Untag.f a2_0 a2_1 a2_2 a2_3 a2_4 a2_5 a2_6).bind fun bt150 => (if x10_2.length < 1954687338268 then (relay_Relay.l0 k2 l0 t135 (x10_2 ++ [(⟨rd t136 x56_2, (⟨bt150.1, bt150.2.1, bt150.2.2.1, bt150.2.2.2.1, bt150.2.2.2.2.1, bt150.2.2.2.2.2.1, bt150.2.2.2.2.2.2⟩ : S49)⟩ : S63)]) t136 (t136.length : Int) (wrap64 (x56_2 + 1)) a2_0 a2_1 a2_2 a2_3 a2_4 a2_5 a2_6) else (none))) else (if x10_2.length < 1954687338268 then (relay_Relay.l0 k2 l0 t135 (x10_2 ++ [(⟨rd t136 x56_2, (⟨t140, t141, t142, t143, t144, t145, t146⟩ : S49)⟩ : S63)]) t136 (t136.length : Int) (wrap64 (x56_2 + 1)) a2_0 a2_1 a2_2 a2_3 a2_4 a2_5 a2_6) else (none))) else (if x10_2.length < 1954687338268 then (relay_Relay.l0 k2 l0 t135 (x10_2 ++ [(⟨rd t136 x56_2, (⟨t140, t141, t142, t143, t144, t145, t146⟩ : S49)⟩ : S63)]) t136 (t136.length : Int) (wrap64 (x56_2 + 1)) a2_0 a2_1 a2_2 a2_3 a2_4 a2_5 a2_6) else (none))) else (none)) else (none)) = some r := H
                        have A34 := Aside0.mk A340
                        clear A340
                        by_cases c35 : 0 ≤ (rd t136 x56_2)
                        · rw [if_pos c35] at H
                          have c35b0 : decide (0 ≤ (rd t136 x56_2)) = true := decide_eq_true c35
                          clear c35
                          by_cases c36 : (rd t136 x56_2) < (l0.length : Int)
                          · rw [if_pos c36] at H
                            have c36b0 : decide ((rd t136 x56_2) < (l0.length : Int)) = true := decide_eq_true c36
                            clear c36
                            obtain ⟨bq37, hbq37⟩ : ∃ b_ : Bool, b_ = ((rd_T54 l0 (rd t136 x56_2)).f2) := ⟨_, rfl⟩
                            replace H : (if bq37 = true then (if ((rd_T54 l0 (rd t136 x56_2)).f1) = t135 then ((frame_Untag.f a2_0 a2_1 a2_2 a2_3 a2_4 a2_5 a2_6).bind fun bt150 => (if x10_2.length < 1954687338268 then (relay_Relay.l0 k2 l0 t135 (x10_2 ++ [(⟨rd t136 x56_2, (⟨bt150.1, bt150.2.1, bt150.2.2.1, bt150.2.2.2.1, bt150.2.2.2.2.1, bt150.2.2.2.2.2.1, bt150.2.2.2.2.2.2⟩ : S49)⟩ : S63)]) t136 (t136.length : Int) (wrap64 (x56_2 + 1)) a2_0 a2_1 a2_2 a2_3 a2_4 a2_5 a2_6) else (none))) else (if x10_2.length < 1954687338268 then (relay_Relay.l0 k2 l0 t135 (x10_2 ++ [(⟨rd t136 x56_2, (⟨t140, t141, t142, t143, t144, t145, t146⟩ : S49)⟩ : S63)]) t136 (t136.length : Int) (wrap64 (x56_2 + 1)) a2_0 a2_1 a2_2 a2_3 a2_4 a2_5 a2_6) else (none))) else (if x10_2.length < 1954687338268 then (relay_Relay.l0 k2 l0 t135 (x10_2 ++ [(⟨rd t136 x56_2, (⟨t140, t141, t142, t143, t144, t145, t146⟩ : S49)⟩ : S63)]) t136 (t136.length : Int) (wrap64 (x56_2 + 1)) a2_0 a2_1 a2_2 a2_3 a2_4 a2_5 a2_6) else (none))) = some r := by rw [← hbq37] at H; exact H
                            have Nbq37 := Aside0.mk hbq37
                            clear hbq37
                            by_cases c38 : bq37 = true
                            · subst c38
                              have H1 : (if ((rd_T54 l0 (rd t136 x56_2)).f1) = t135 then ((frame_Untag.f a2_0 a2_1 a2_2 a2_3 a2_4 a2_5 a2_6).bind fun bt150 => (if x10_2.length < 1954687338268 then (relay_Relay.l0 k2 l0 t135 (x10_2 ++ [(⟨rd t136 x56_2, (⟨bt150.1, bt150.2.1, bt150.2.2.1, bt150.2.2.2.1, bt150.2.2.2.2.1, bt150.2.2.2.2.2.1, bt150.2.2.2.2.2.2⟩ : S49)⟩ : S63)]) t136 (t136.length : Int) (wrap64 (x56_2 + 1)) a2_0 a2_1 a2_2 a2_3 a2_4 a2_5 a2_6) else (none))) else (if x10_2.length < 1954687338268 then (relay_Relay.l0 k2 l0 t135 (x10_2 ++ [(⟨rd t136 x56_2, (⟨t140, t141, t142, t143, t144, t145, t146⟩ : S49)⟩ : S63)]) t136 (t136.length : Int) (wrap64 (x56_2 + 1)) a2_0 a2_1 a2_2 a2_3 a2_4 a2_5 a2_6) else (none))) = some r := by rw [if_pos rfl] at H; exact H
                              clear H
                              have H := H1
                              clear H1
                              by_cases c39 : ((rd_T54 l0 (rd t136 x56_2)).f1) = t135
                              · rw [if_pos c39] at H
                                have c39b0 : (((rd_T54 l0 (rd t136 x56_2)).f1) == t135) = true := beq_iff_eq.mpr c39
                                have c39b1 : (((rd_T54 l0 (rd t136 x56_2)).f1) != t135) = false := bne_eq_false_iff_eq.mpr c39
                                clear c39
                                replace H := Option.bind_eq_some_iff.mp H
                                obtain ⟨⟨t150, t151, t152, t153, t154, t155, t156⟩, A400, H⟩ := H
                                replace H : (if x10_2.length < 1954687338268 then (relay_Relay.l0 k2 l0 t135 (x10_2 ++ [(⟨rd t136 x56_2, (⟨t150, t151, t152, t153, t154, t155, t156⟩ : S49)⟩ : S63)]) t136 (t136.length : Int) (wrap64 (x56_2 + 1)) a2_0 a2_1 a2_2 a2_3 a2_4 a2_5 a2_6) else (none)) = some r := H
                                have A40 := Aside0.mk A400
                                clear A400
                                by_cases c41 : x10_2.length < 1954687338268
                                · rw [if_pos c41] at H
                                  have LMc41 := Aside0.mk c41
                                  clear c41
                                  obtain ⟨y157, hy157⟩ : ∃ y_ : List (S63), y_ = (x10_2 ++ [(⟨rd t136 x56_2, (⟨t150, t151, t152, t153, t154, t155, t156⟩ : S49)⟩ : S63)]) := ⟨_, rfl⟩
                                  replace H : (relay_Relay.l0 k2 l0 t135 y157 t136 (t136.length : Int) (wrap64 (x56_2 + 1)) a2_0 a2_1 a2_2 a2_3 a2_4 a2_5 a2_6) = some r := by first | (rw [hy157]; with_reducible exact H) | (have H2_ := (Option.bind_some _ _).symm.trans H; rw [hy157]; with_reducible exact H2_) | (have H2_ := (Option.bind_some _ _).symm.trans H; with_reducible exact H2_) | with_reducible exact H | (rw [hy157]; exact H) | exact H
                                  have Ny157 := Aside0.mk hy157
                                  clear hy157
                                  have H' := Aside0.mk H
                                  clear H
                                  have p139 : 0 ≤ (x56_2 : Int) := of_decide_eq_true (by first | (with_reducible assumption) | assumption)
                                  have q139 : x56_2 < (t136.length : Int) := of_decide_eq_true (by first | (with_reducible assumption) | assumption)
                                  obtain ⟨ad139, e139, hx139_0⟩ := Kd.at_int (Kd.R_reads' HO_54.out).2.2 x56_2 p139 q139
                                  cases e139
                                  replace p139 := eq_true p139
                                  replace q139 := eq_true q139
                                  have hcz42_0 : wr.cell? ⟨gb130, 0, none⟩ = some (.int .i64 a2_0) := (blk_cell BK130.out 0).trans rfl
                                  have hcz42_1 : wr.cell? ⟨gb130, 1, none⟩ = some (.int .i64 a2_1) := (blk_cell BK130.out 1).trans rfl
                                  have hcz42_2 : wr.cell? ⟨gb130, 2, none⟩ = some (.bool a2_2) := (blk_cell BK130.out 2).trans rfl
                                  have hcz42_3 : wr.cell? ⟨gb130, 3, none⟩ = some (.int .i64 a2_3) := (blk_cell BK130.out 3).trans rfl
                                  have hcz42_4 : wr.cell? ⟨gb130, 4, none⟩ = some (.int .i64 a2_4) := (blk_cell BK130.out 4).trans rfl
                                  have hcz42_5 : wr.cell? ⟨gb130, 5, none⟩ = some (.int .i64 a2_5) := (blk_cell BK130.out 5).trans rfl
                                  have hcz42_6 : wr.cell? ⟨gb130, 6, none⟩ = some (.string a2_6) := (blk_cell BK130.out 6).trans rfl
                                  have hfz42_0 := blk_frozen BK130.out 0
                                  have hfz42_1 := blk_frozen BK130.out 1
                                  have hfz42_2 := blk_frozen BK130.out 2
                                  have hfz42_3 := blk_frozen BK130.out 3
                                  have hfz42_4 := blk_frozen BK130.out 4
                                  have hfz42_5 := blk_frozen BK130.out 5
                                  have hfz42_6 := blk_frozen BK130.out 6
                                  go_wp2_with (first | ((with_reducible refine gate_callee (f := 41) rfl ?_); refine goesL_ (some 64) rfl rfl Try.func41 (by kernel_rfl) rfl #[.agg #[.int .i64 a2_0, .int .i64 a2_1, .bool a2_2, .int .i64 a2_3, .int .i64 a2_4, .int .i64 a2_5, .string a2_6], .int .i64 t135, .int .i64 a2_4] rfl (by (try simp only [List.map_toArray, List.map_cons, List.map_nil]); first | done | rfl | (simp only [List.length_drop, List.length_take]; rfl)) ?_; (with_reducible refine (frame_Tag.calls a2_0 a2_1 a2_2 a2_3 a2_4 a2_5 a2_6 t135 a2_4 t140 t141 t142 t143 t144 t145 t146 _ A34.out).mono ?_); rintro e w43 ⟨rfl, hb⟩; refine ⟨_, rfl, ?_⟩; have n0_ := Aside0.mk (Kd.R_below (by (with_reducible repeat (first | apply Kd.R_alloc | apply Kd.R_drewN | apply Kd.R_drew)); exact HO_10.out) hb); have n1_ := Aside0.mk (Kd.R_below (by (with_reducible repeat (first | apply Kd.R_alloc | apply Kd.R_drewN | apply Kd.R_drew)); exact HO_54.out) hb); have n2_ := Aside0.mk (blk_below (g := gb130) (o := .cells #[.int .i64 a2_0, .int .i64 a2_1, .bool a2_2, .int .i64 a2_3, .int .i64 a2_4, .int .i64 a2_5, .string a2_6] 49 (0, 0)) (by (with_reducible repeat (first | refine blk_drewN ?_ _ | refine blk_drew ?_ | refine blk_alloc ?_ _)); exact BK130.out) hb); have n3_ := Aside0.mk (below_step (by repeat (first | (with_reducible first | exact HB.out | apply below_alloc | apply pw_below_drewN | apply below_drew1 | refine below_set ?_ GE130.out) | exact HB.out)) hb); clear HO_10; clear HO_54; clear BK130; clear HB; have HO_10 := n0_; have HO_54 := n1_; have BK130 := n2_; have HB := n3_; clear n0_ n1_ n2_ n3_; (try clear hb); (try clear hb2); (try clear hk); (try clear hi)) | ((with_reducible refine gate_dst (N := 13) rfl ?_); (try (refine gate_guard (by rfl) ?_; dsimp only)); refine box_event ?hg (N := 13) ?hd (cs := #[.int .i64 0, .int .i64 0, .bool false, .int .i64 0, .int .i64 0, .int .i64 0, .string (⟨#[]⟩ : ByteArray)]) (t := 49) ?hr ?_; (case hd => rfl); (case hg => rfl); (case hr => first | (go_simp; done) | (go_simp; rfl)); intro gb147 hg w44 hbox hb; have n0_ := Aside0.mk (Kd.R_below (by (with_reducible repeat (first | apply Kd.R_alloc | apply Kd.R_drewN | apply Kd.R_drew)); exact HO_10.out) hb); have n1_ := Aside0.mk (Kd.R_below (by (with_reducible repeat (first | apply Kd.R_alloc | apply Kd.R_drewN | apply Kd.R_drew)); exact HO_54.out) hb); have n2_ := Aside0.mk (blk_below (g := gb130) (o := .cells #[.int .i64 a2_0, .int .i64 a2_1, .bool a2_2, .int .i64 a2_3, .int .i64 a2_4, .int .i64 a2_5, .string a2_6] 49 (0, 0)) (by (with_reducible repeat (first | refine blk_drewN ?_ _ | refine blk_drew ?_ | refine blk_alloc ?_ _)); exact BK130.out) hb); have n3_ := Aside0.mk (below_step (by repeat (first | (with_reducible first | exact HB.out | apply below_alloc | apply pw_below_drewN | apply below_drew1 | refine below_set ?_ GE130.out) | exact HB.out)) hb); have n4_ := Aside0.mk (hbox); have n5_ := Aside0.mk ((by rw [hg]; exact (below_size (by repeat (first | (with_reducible first | exact HB.out | apply below_alloc | apply pw_below_drewN | apply below_drew1 | refine below_set ?_ GE130.out) | exact HB.out))) : w.heap.size ≤ gb147)); have n6_ := Aside0.mk ((by rw [hg]; exact (below_size (by repeat (first | (with_reducible first | exact HB.out | apply below_alloc | apply pw_below_drewN | apply below_drew1 | refine below_set ?_ GE130.out) | exact HB.out))) : w.heap.size ≤ gb147)); have n7_ := Aside0.mk ((by rw [hg]; exact Nat.ne_of_lt (blk_lt (g := gb130) (o := .cells #[.int .i64 a2_0, .int .i64 a2_1, .bool a2_2, .int .i64 a2_3, .int .i64 a2_4, .int .i64 a2_5, .string a2_6] 49 (0, 0)) (by (with_reducible repeat (first | refine blk_drewN ?_ _ | refine blk_drew ?_ | refine blk_alloc ?_ _)); exact BK130.out)) : gb130 ≠ gb147)); have n8_ := Aside0.mk ((by rw [hg]; exact Nat.ne_of_gt (blk_lt (g := gb130) (o := .cells #[.int .i64 a2_0, .int .i64 a2_1, .bool a2_2, .int .i64 a2_3, .int .i64 a2_4, .int .i64 a2_5, .string a2_6] 49 (0, 0)) (by (with_reducible repeat (first | refine blk_drewN ?_ _ | refine blk_drew ?_ | refine blk_alloc ?_ _)); exact BK130.out)) : gb147 ≠ gb130)); clear HO_10; clear HO_54; clear BK130; clear HB; have HO_10 := n0_; have HO_54 := n1_; have BK130 := n2_; have HB := n3_; have BK147 := n4_; have GW147 := n5_; have GE147 := n6_; have NB130_147 := n7_; have NB147_130 := n8_; clear n0_ n1_ n2_ n3_ n4_ n5_ n6_ n7_ n8_; clear hb hbox hg; have hnb45 := NB147_130.out; have hnc45 := NB130_147.out; have hcz46_0 : w44.cell? ⟨gb147, 0, none⟩ = some (.int .i64 0) := (blk_cell BK147.out 0).trans rfl; have hcz46_1 : w44.cell? ⟨gb147, 1, none⟩ = some (.int .i64 0) := (blk_cell BK147.out 1).trans rfl; have hcz46_2 : w44.cell? ⟨gb147, 2, none⟩ = some (.bool false) := (blk_cell BK147.out 2).trans rfl; have hcz46_3 : w44.cell? ⟨gb147, 3, none⟩ = some (.int .i64 0) := (blk_cell BK147.out 3).trans rfl; have hcz46_4 : w44.cell? ⟨gb147, 4, none⟩ = some (.int .i64 0) := (blk_cell BK147.out 4).trans rfl; have hcz46_5 : w44.cell? ⟨gb147, 5, none⟩ = some (.int .i64 0) := (blk_cell BK147.out 5).trans rfl; have hcz46_6 : w44.cell? ⟨gb147, 6, none⟩ = some (.string (⟨#[]⟩ : ByteArray)) := (blk_cell BK147.out 6).trans rfl; have hfz46_0 := blk_frozen BK147.out 0; have hfz46_1 := blk_frozen BK147.out 1; have hfz46_2 := blk_frozen BK147.out 2; have hfz46_3 := blk_frozen BK147.out 3; have hfz46_4 := blk_frozen BK147.out 4; have hfz46_5 := blk_frozen BK147.out 5; have hfz46_6 := blk_frozen BK147.out 6; have p148 : 0 ≤ ((rd t136 x56_2) : Int) := of_decide_eq_true (by first | (with_reducible assumption) | assumption); have q148 : (rd t136 x56_2) < (l0.length : Int) := of_decide_eq_true (by first | (with_reducible assumption) | assumption); obtain ⟨ad148, A148_3, c148_3, e148, hx148_0, hx148_1, hx148_2, hx148_3, hl148_3, hi148_3⟩ := at_T54 HR0.out (rd t136 x56_2) p148 q148; (try rw [← Nbq37.out] at hx148_2); obtain rfl : ad134 = ad148 := (by injection e148); have hn148_0 : ad134.block ≠ gb147 := Nat.ne_of_lt (Nat.lt_of_lt_of_le (by have := World.block_lt_of_cell? _ _ hx148_0; first | rwa [add_block] at this | exact this) GW147.out); have hn148_1 : ad134.block ≠ gb147 := Nat.ne_of_lt (Nat.lt_of_lt_of_le (by have := World.block_lt_of_cell? _ _ hx148_0; first | rwa [add_block] at this | exact this) GW147.out); have hn148_2 : ad134.block ≠ gb147 := Nat.ne_of_lt (Nat.lt_of_lt_of_le (by have := World.block_lt_of_cell? _ _ hx148_0; first | rwa [add_block] at this | exact this) GW147.out); have hn148_3 : ad134.block ≠ gb147 := Nat.ne_of_lt (Nat.lt_of_lt_of_le (by have := World.block_lt_of_cell? _ _ hx148_0; first | rwa [add_block] at this | exact this) GW147.out); have hn148_4 : ad134.block ≠ gb147 := Nat.ne_of_lt (Nat.lt_of_lt_of_le (by have := World.block_lt_of_cell? _ _ hx148_0; first | rwa [add_block] at this | exact this) GW147.out); have hn148_5 : ad134.block ≠ gb147 := Nat.ne_of_lt (Nat.lt_of_lt_of_le (by have := World.block_lt_of_cell? _ _ hx148_0; first | rwa [add_block] at this | exact this) GW147.out); have hn148_6 : ad134.block ≠ gb147 := Nat.ne_of_lt (Nat.lt_of_lt_of_le (by have := World.block_lt_of_cell? _ _ hx148_0; first | rwa [add_block] at this | exact this) GW147.out); replace hx148_0 := (HB.out.cell (World.block_lt_of_cell? w _ hx148_0)).trans hx148_0; replace hx148_1 := (HB.out.cell (World.block_lt_of_cell? w _ hx148_1)).trans hx148_1; replace hx148_2 := (HB.out.cell (World.block_lt_of_cell? w _ hx148_2)).trans hx148_2; replace hx148_3 := (HB.out.cell (World.block_lt_of_cell? w _ hx148_3)).trans hx148_3; have HR148_3 := Aside0.mk hi148_3; have HC148_3 := Aside0.mk hl148_3; clear hi148_3 hl148_3; replace hx148_0 := (cell_far (p := ⟨gb147, 0, none⟩) (by first | (rw [add_block]; exact hn148_0) | (show (Addr.add _ _).block ≠ _; rw [add_block]; exact hn148_0) | exact hn148_0) (.int .i64 t140)).trans hx148_0; replace hx148_1 := (cell_far (p := ⟨gb147, 0, none⟩) (by first | (rw [add_block]; exact hn148_0) | (show (Addr.add _ _).block ≠ _; rw [add_block]; exact hn148_0) | exact hn148_0) (.int .i64 t140)).trans hx148_1; replace hx148_2 := (cell_far (p := ⟨gb147, 0, none⟩) (by first | (rw [add_block]; exact hn148_0) | (show (Addr.add _ _).block ≠ _; rw [add_block]; exact hn148_0) | exact hn148_0) (.int .i64 t140)).trans hx148_2; replace hx148_3 := (cell_far (p := ⟨gb147, 0, none⟩) (by first | (rw [add_block]; exact hn148_0) | (show (Addr.add _ _).block ≠ _; rw [add_block]; exact hn148_0) | exact hn148_0) (.int .i64 t140)).trans hx148_3; replace hx148_0 := (cell_far (p := ⟨gb147, 1, none⟩) (by first | (rw [add_block]; exact hn148_1) | (show (Addr.add _ _).block ≠ _; rw [add_block]; exact hn148_1) | exact hn148_1) (.int .i64 t141)).trans hx148_0; replace hx148_1 := (cell_far (p := ⟨gb147, 1, none⟩) (by first | (rw [add_block]; exact hn148_1) | (show (Addr.add _ _).block ≠ _; rw [add_block]; exact hn148_1) | exact hn148_1) (.int .i64 t141)).trans hx148_1; replace hx148_2 := (cell_far (p := ⟨gb147, 1, none⟩) (by first | (rw [add_block]; exact hn148_1) | (show (Addr.add _ _).block ≠ _; rw [add_block]; exact hn148_1) | exact hn148_1) (.int .i64 t141)).trans hx148_2; replace hx148_3 := (cell_far (p := ⟨gb147, 1, none⟩) (by first | (rw [add_block]; exact hn148_1) | (show (Addr.add _ _).block ≠ _; rw [add_block]; exact hn148_1) | exact hn148_1) (.int .i64 t141)).trans hx148_3; replace hx148_0 := (cell_far (p := ⟨gb147, 2, none⟩) (by first | (rw [add_block]; exact hn148_2) | (show (Addr.add _ _).block ≠ _; rw [add_block]; exact hn148_2) | exact hn148_2) (.bool t142)).trans hx148_0; replace hx148_1 := (cell_far (p := ⟨gb147, 2, none⟩) (by first | (rw [add_block]; exact hn148_2) | (show (Addr.add _ _).block ≠ _; rw [add_block]; exact hn148_2) | exact hn148_2) (.bool t142)).trans hx148_1; replace hx148_2 := (cell_far (p := ⟨gb147, 2, none⟩) (by first | (rw [add_block]; exact hn148_2) | (show (Addr.add _ _).block ≠ _; rw [add_block]; exact hn148_2) | exact hn148_2) (.bool t142)).trans hx148_2; replace hx148_3 := (cell_far (p := ⟨gb147, 2, none⟩) (by first | (rw [add_block]; exact hn148_2) | (show (Addr.add _ _).block ≠ _; rw [add_block]; exact hn148_2) | exact hn148_2) (.bool t142)).trans hx148_3; replace hx148_0 := (cell_far (p := ⟨gb147, 3, none⟩) (by first | (rw [add_block]; exact hn148_3) | (show (Addr.add _ _).block ≠ _; rw [add_block]; exact hn148_3) | exact hn148_3) (.int .i64 t143)).trans hx148_0; replace hx148_1 := (cell_far (p := ⟨gb147, 3, none⟩) (by first | (rw [add_block]; exact hn148_3) | (show (Addr.add _ _).block ≠ _; rw [add_block]; exact hn148_3) | exact hn148_3) (.int .i64 t143)).trans hx148_1; replace hx148_2 := (cell_far (p := ⟨gb147, 3, none⟩) (by first | (rw [add_block]; exact hn148_3) | (show (Addr.add _ _).block ≠ _; rw [add_block]; exact hn148_3) | exact hn148_3) (.int .i64 t143)).trans hx148_2; replace hx148_3 := (cell_far (p := ⟨gb147, 3, none⟩) (by first | (rw [add_block]; exact hn148_3) | (show (Addr.add _ _).block ≠ _; rw [add_block]; exact hn148_3) | exact hn148_3) (.int .i64 t143)).trans hx148_3; replace hx148_0 := (cell_far (p := ⟨gb147, 4, none⟩) (by first | (rw [add_block]; exact hn148_4) | (show (Addr.add _ _).block ≠ _; rw [add_block]; exact hn148_4) | exact hn148_4) (.int .i64 t144)).trans hx148_0; replace hx148_1 := (cell_far (p := ⟨gb147, 4, none⟩) (by first | (rw [add_block]; exact hn148_4) | (show (Addr.add _ _).block ≠ _; rw [add_block]; exact hn148_4) | exact hn148_4) (.int .i64 t144)).trans hx148_1; replace hx148_2 := (cell_far (p := ⟨gb147, 4, none⟩) (by first | (rw [add_block]; exact hn148_4) | (show (Addr.add _ _).block ≠ _; rw [add_block]; exact hn148_4) | exact hn148_4) (.int .i64 t144)).trans hx148_2; replace hx148_3 := (cell_far (p := ⟨gb147, 4, none⟩) (by first | (rw [add_block]; exact hn148_4) | (show (Addr.add _ _).block ≠ _; rw [add_block]; exact hn148_4) | exact hn148_4) (.int .i64 t144)).trans hx148_3; replace hx148_0 := (cell_far (p := ⟨gb147, 5, none⟩) (by first | (rw [add_block]; exact hn148_5) | (show (Addr.add _ _).block ≠ _; rw [add_block]; exact hn148_5) | exact hn148_5) (.int .i64 t145)).trans hx148_0; replace hx148_1 := (cell_far (p := ⟨gb147, 5, none⟩) (by first | (rw [add_block]; exact hn148_5) | (show (Addr.add _ _).block ≠ _; rw [add_block]; exact hn148_5) | exact hn148_5) (.int .i64 t145)).trans hx148_1; replace hx148_2 := (cell_far (p := ⟨gb147, 5, none⟩) (by first | (rw [add_block]; exact hn148_5) | (show (Addr.add _ _).block ≠ _; rw [add_block]; exact hn148_5) | exact hn148_5) (.int .i64 t145)).trans hx148_2; replace hx148_3 := (cell_far (p := ⟨gb147, 5, none⟩) (by first | (rw [add_block]; exact hn148_5) | (show (Addr.add _ _).block ≠ _; rw [add_block]; exact hn148_5) | exact hn148_5) (.int .i64 t145)).trans hx148_3; replace hx148_0 := (cell_far (p := ⟨gb147, 6, none⟩) (by first | (rw [add_block]; exact hn148_6) | (show (Addr.add _ _).block ≠ _; rw [add_block]; exact hn148_6) | exact hn148_6) (.string t146)).trans hx148_0; replace hx148_1 := (cell_far (p := ⟨gb147, 6, none⟩) (by first | (rw [add_block]; exact hn148_6) | (show (Addr.add _ _).block ≠ _; rw [add_block]; exact hn148_6) | exact hn148_6) (.string t146)).trans hx148_1; replace hx148_2 := (cell_far (p := ⟨gb147, 6, none⟩) (by first | (rw [add_block]; exact hn148_6) | (show (Addr.add _ _).block ≠ _; rw [add_block]; exact hn148_6) | exact hn148_6) (.string t146)).trans hx148_2; replace hx148_3 := (cell_far (p := ⟨gb147, 6, none⟩) (by first | (rw [add_block]; exact hn148_6) | (show (Addr.add _ _).block ≠ _; rw [add_block]; exact hn148_6) | exact hn148_6) (.string t146)).trans hx148_3; clear hn148_0; clear hn148_1; clear hn148_2; clear hn148_3; clear hn148_4; clear hn148_5; clear hn148_6; replace p148 := eq_true p148; replace q148 := eq_true q148; have p149 : 0 ≤ ((rd t136 x56_2) : Int) := of_decide_eq_true (by first | (with_reducible assumption) | assumption); have q149 : (rd t136 x56_2) < (l0.length : Int) := of_decide_eq_true (by first | (with_reducible assumption) | assumption); obtain ⟨ad149, A149_3, c149_3, e149, hx149_0, hx149_1, hx149_2, hx149_3, hl149_3, hi149_3⟩ := at_T54 HR0.out (rd t136 x56_2) p149 q149; (try rw [← Nbq37.out] at hx149_2); obtain rfl : ad134 = ad149 := (by injection e149); have hn149_0 : ad134.block ≠ gb147 := Nat.ne_of_lt (Nat.lt_of_lt_of_le (by have := World.block_lt_of_cell? _ _ hx149_0; first | rwa [add_block] at this | exact this) GW147.out); have hn149_1 : ad134.block ≠ gb147 := Nat.ne_of_lt (Nat.lt_of_lt_of_le (by have := World.block_lt_of_cell? _ _ hx149_0; first | rwa [add_block] at this | exact this) GW147.out); have hn149_2 : ad134.block ≠ gb147 := Nat.ne_of_lt (Nat.lt_of_lt_of_le (by have := World.block_lt_of_cell? _ _ hx149_0; first | rwa [add_block] at this | exact this) GW147.out); have hn149_3 : ad134.block ≠ gb147 := Nat.ne_of_lt (Nat.lt_of_lt_of_le (by have := World.block_lt_of_cell? _ _ hx149_0; first | rwa [add_block] at this | exact this) GW147.out); have hn149_4 : ad134.block ≠ gb147 := Nat.ne_of_lt (Nat.lt_of_lt_of_le (by have := World.block_lt_of_cell? _ _ hx149_0; first | rwa [add_block] at this | exact this) GW147.out); have hn149_5 : ad134.block ≠ gb147 := Nat.ne_of_lt (Nat.lt_of_lt_of_le (by have := World.block_lt_of_cell? _ _ hx149_0; first | rwa [add_block] at this | exact this) GW147.out); have hn149_6 : ad134.block ≠ gb147 := Nat.ne_of_lt (Nat.lt_of_lt_of_le (by have := World.block_lt_of_cell? _ _ hx149_0; first | rwa [add_block] at this | exact this) GW147.out); replace hx149_0 := (HB.out.cell (World.block_lt_of_cell? w _ hx149_0)).trans hx149_0; replace hx149_1 := (HB.out.cell (World.block_lt_of_cell? w _ hx149_1)).trans hx149_1; replace hx149_2 := (HB.out.cell (World.block_lt_of_cell? w _ hx149_2)).trans hx149_2; replace hx149_3 := (HB.out.cell (World.block_lt_of_cell? w _ hx149_3)).trans hx149_3; have HR149_3 := Aside0.mk hi149_3; have HC149_3 := Aside0.mk hl149_3; clear hi149_3 hl149_3; replace hx149_0 := (cell_far (p := ⟨gb147, 0, none⟩) (by first | (rw [add_block]; exact hn149_0) | (show (Addr.add _ _).block ≠ _; rw [add_block]; exact hn149_0) | exact hn149_0) (.int .i64 t140)).trans hx149_0; replace hx149_1 := (cell_far (p := ⟨gb147, 0, none⟩) (by first | (rw [add_block]; exact hn149_0) | (show (Addr.add _ _).block ≠ _; rw [add_block]; exact hn149_0) | exact hn149_0) (.int .i64 t140)).trans hx149_1; replace hx149_2 := (cell_far (p := ⟨gb147, 0, none⟩) (by first | (rw [add_block]; exact hn149_0) | (show (Addr.add _ _).block ≠ _; rw [add_block]; exact hn149_0) | exact hn149_0) (.int .i64 t140)).trans hx149_2; replace hx149_3 := (cell_far (p := ⟨gb147, 0, none⟩) (by first | (rw [add_block]; exact hn149_0) | (show (Addr.add _ _).block ≠ _; rw [add_block]; exact hn149_0) | exact hn149_0) (.int .i64 t140)).trans hx149_3; replace hx149_0 := (cell_far (p := ⟨gb147, 1, none⟩) (by first | (rw [add_block]; exact hn149_1) | (show (Addr.add _ _).block ≠ _; rw [add_block]; exact hn149_1) | exact hn149_1) (.int .i64 t141)).trans hx149_0; replace hx149_1 := (cell_far (p := ⟨gb147, 1, none⟩) (by first | (rw [add_block]; exact hn149_1) | (show (Addr.add _ _).block ≠ _; rw [add_block]; exact hn149_1) | exact hn149_1) (.int .i64 t141)).trans hx149_1; replace hx149_2 := (cell_far (p := ⟨gb147, 1, none⟩) (by first | (rw [add_block]; exact hn149_1) | (show (Addr.add _ _).block ≠ _; rw [add_block]; exact hn149_1) | exact hn149_1) (.int .i64 t141)).trans hx149_2; replace hx149_3 := (cell_far (p := ⟨gb147, 1, none⟩) (by first | (rw [add_block]; exact hn149_1) | (show (Addr.add _ _).block ≠ _; rw [add_block]; exact hn149_1) | exact hn149_1) (.int .i64 t141)).trans hx149_3; replace hx149_0 := (cell_far (p := ⟨gb147, 2, none⟩) (by first | (rw [add_block]; exact hn149_2) | (show (Addr.add _ _).block ≠ _; rw [add_block]; exact hn149_2) | exact hn149_2) (.bool t142)).trans hx149_0; replace hx149_1 := (cell_far (p := ⟨gb147, 2, none⟩) (by first | (rw [add_block]; exact hn149_2) | (show (Addr.add _ _).block ≠ _; rw [add_block]; exact hn149_2) | exact hn149_2) (.bool t142)).trans hx149_1; replace hx149_2 := (cell_far (p := ⟨gb147, 2, none⟩) (by first | (rw [add_block]; exact hn149_2) | (show (Addr.add _ _).block ≠ _; rw [add_block]; exact hn149_2) | exact hn149_2) (.bool t142)).trans hx149_2; replace hx149_3 := (cell_far (p := ⟨gb147, 2, none⟩) (by first | (rw [add_block]; exact hn149_2) | (show (Addr.add _ _).block ≠ _; rw [add_block]; exact hn149_2) | exact hn149_2) (.bool t142)).trans hx149_3; replace hx149_0 := (cell_far (p := ⟨gb147, 3, none⟩) (by first | (rw [add_block]; exact hn149_3) | (show (Addr.add _ _).block ≠ _; rw [add_block]; exact hn149_3) | exact hn149_3) (.int .i64 t143)).trans hx149_0; replace hx149_1 := (cell_far (p := ⟨gb147, 3, none⟩) (by first | (rw [add_block]; exact hn149_3) | (show (Addr.add _ _).block ≠ _; rw [add_block]; exact hn149_3) | exact hn149_3) (.int .i64 t143)).trans hx149_1; replace hx149_2 := (cell_far (p := ⟨gb147, 3, none⟩) (by first | (rw [add_block]; exact hn149_3) | (show (Addr.add _ _).block ≠ _; rw [add_block]; exact hn149_3) | exact hn149_3) (.int .i64 t143)).trans hx149_2; replace hx149_3 := (cell_far (p := ⟨gb147, 3, none⟩) (by first | (rw [add_block]; exact hn149_3) | (show (Addr.add _ _).block ≠ _; rw [add_block]; exact hn149_3) | exact hn149_3) (.int .i64 t143)).trans hx149_3; replace hx149_0 := (cell_far (p := ⟨gb147, 4, none⟩) (by first | (rw [add_block]; exact hn149_4) | (show (Addr.add _ _).block ≠ _; rw [add_block]; exact hn149_4) | exact hn149_4) (.int .i64 t144)).trans hx149_0; replace hx149_1 := (cell_far (p := ⟨gb147, 4, none⟩) (by first | (rw [add_block]; exact hn149_4) | (show (Addr.add _ _).block ≠ _; rw [add_block]; exact hn149_4) | exact hn149_4) (.int .i64 t144)).trans hx149_1; replace hx149_2 := (cell_far (p := ⟨gb147, 4, none⟩) (by first | (rw [add_block]; exact hn149_4) | (show (Addr.add _ _).block ≠ _; rw [add_block]; exact hn149_4) | exact hn149_4) (.int .i64 t144)).trans hx149_2; replace hx149_3 := (cell_far (p := ⟨gb147, 4, none⟩) (by first | (rw [add_block]; exact hn149_4) | (show (Addr.add _ _).block ≠ _; rw [add_block]; exact hn149_4) | exact hn149_4) (.int .i64 t144)).trans hx149_3; replace hx149_0 := (cell_far (p := ⟨gb147, 5, none⟩) (by first | (rw [add_block]; exact hn149_5) | (show (Addr.add _ _).block ≠ _; rw [add_block]; exact hn149_5) | exact hn149_5) (.int .i64 t145)).trans hx149_0; replace hx149_1 := (cell_far (p := ⟨gb147, 5, none⟩) (by first | (rw [add_block]; exact hn149_5) | (show (Addr.add _ _).block ≠ _; rw [add_block]; exact hn149_5) | exact hn149_5) (.int .i64 t145)).trans hx149_1; replace hx149_2 := (cell_far (p := ⟨gb147, 5, none⟩) (by first | (rw [add_block]; exact hn149_5) | (show (Addr.add _ _).block ≠ _; rw [add_block]; exact hn149_5) | exact hn149_5) (.int .i64 t145)).trans hx149_2; replace hx149_3 := (cell_far (p := ⟨gb147, 5, none⟩) (by first | (rw [add_block]; exact hn149_5) | (show (Addr.add _ _).block ≠ _; rw [add_block]; exact hn149_5) | exact hn149_5) (.int .i64 t145)).trans hx149_3; replace hx149_0 := (cell_far (p := ⟨gb147, 6, none⟩) (by first | (rw [add_block]; exact hn149_6) | (show (Addr.add _ _).block ≠ _; rw [add_block]; exact hn149_6) | exact hn149_6) (.string t146)).trans hx149_0; replace hx149_1 := (cell_far (p := ⟨gb147, 6, none⟩) (by first | (rw [add_block]; exact hn149_6) | (show (Addr.add _ _).block ≠ _; rw [add_block]; exact hn149_6) | exact hn149_6) (.string t146)).trans hx149_1; replace hx149_2 := (cell_far (p := ⟨gb147, 6, none⟩) (by first | (rw [add_block]; exact hn149_6) | (show (Addr.add _ _).block ≠ _; rw [add_block]; exact hn149_6) | exact hn149_6) (.string t146)).trans hx149_2; replace hx149_3 := (cell_far (p := ⟨gb147, 6, none⟩) (by first | (rw [add_block]; exact hn149_6) | (show (Addr.add _ _).block ≠ _; rw [add_block]; exact hn149_6) | exact hn149_6) (.string t146)).trans hx149_3; clear hn149_0; clear hn149_1; clear hn149_2; clear hn149_3; clear hn149_4; clear hn149_5; clear hn149_6; replace p149 := eq_true p149; replace q149 := eq_true q149; have hcz47_0 : w44.cell? ⟨gb130, 0, none⟩ = some (.int .i64 a2_0) := (blk_cell BK130.out 0).trans rfl; have hcz47_1 : w44.cell? ⟨gb130, 1, none⟩ = some (.int .i64 a2_1) := (blk_cell BK130.out 1).trans rfl; have hcz47_2 : w44.cell? ⟨gb130, 2, none⟩ = some (.bool a2_2) := (blk_cell BK130.out 2).trans rfl; have hcz47_3 : w44.cell? ⟨gb130, 3, none⟩ = some (.int .i64 a2_3) := (blk_cell BK130.out 3).trans rfl; have hcz47_4 : w44.cell? ⟨gb130, 4, none⟩ = some (.int .i64 a2_4) := (blk_cell BK130.out 4).trans rfl; have hcz47_5 : w44.cell? ⟨gb130, 5, none⟩ = some (.int .i64 a2_5) := (blk_cell BK130.out 5).trans rfl; have hcz47_6 : w44.cell? ⟨gb130, 6, none⟩ = some (.string a2_6) := (blk_cell BK130.out 6).trans rfl; have hfz47_0 := blk_frozen BK130.out 0; have hfz47_1 := blk_frozen BK130.out 1; have hfz47_2 := blk_frozen BK130.out 2; have hfz47_3 := blk_frozen BK130.out 3; have hfz47_4 := blk_frozen BK130.out 4; have hfz47_5 := blk_frozen BK130.out 5; have hfz47_6 := blk_frozen BK130.out 6) | ((with_reducible refine gate_callee (f := 42) rfl ?_); refine goesL_ (some 80) rfl rfl Try.func42 (by kernel_rfl) rfl #[.agg #[.int .i64 a2_0, .int .i64 a2_1, .bool a2_2, .int .i64 a2_3, .int .i64 a2_4, .int .i64 a2_5, .string a2_6]] rfl (by (try simp only [List.map_toArray, List.map_cons, List.map_nil]); first | done | rfl | (simp only [List.length_drop, List.length_take]; rfl)) ?_; (with_reducible refine (frame_Untag.calls a2_0 a2_1 a2_2 a2_3 a2_4 a2_5 a2_6 t150 t151 t152 t153 t154 t155 t156 _ A40.out).mono ?_); rintro e w48 ⟨rfl, hb⟩; refine ⟨_, rfl, ?_⟩; have n0_ := Aside0.mk (Kd.R_below (by (with_reducible repeat (first | apply Kd.R_alloc | apply Kd.R_drewN | apply Kd.R_drew)); exact (Kd.R_mono (Kd.R_far (p := ⟨gb147, 6, none⟩) (Kd.R_far (p := ⟨gb147, 5, none⟩) (Kd.R_far (p := ⟨gb147, 4, none⟩) (Kd.R_far (p := ⟨gb147, 3, none⟩) (Kd.R_far (p := ⟨gb147, 2, none⟩) (Kd.R_far (p := ⟨gb147, 1, none⟩) (Kd.R_far (p := ⟨gb147, 0, none⟩) (Kd.R_types HO_10.out BK147.out (by decide)) (fun _ hk => hk.2) (.int .i64 t140)) (fun _ hk => hk.2) (.int .i64 t141)) (fun _ hk => hk.2) (.bool t142)) (fun _ hk => hk.2) (.int .i64 t143)) (fun _ hk => hk.2) (.int .i64 t144)) (fun _ hk => hk.2) (.int .i64 t145)) (fun _ hk => hk.2) (.string t146)) (fun _ h_ => h_.1))) hb); have n1_ := Aside0.mk (Kd.R_below (by (with_reducible repeat (first | apply Kd.R_alloc | apply Kd.R_drewN | apply Kd.R_drew)); exact (Kd.R_mono (Kd.R_far (p := ⟨gb147, 6, none⟩) (Kd.R_far (p := ⟨gb147, 5, none⟩) (Kd.R_far (p := ⟨gb147, 4, none⟩) (Kd.R_far (p := ⟨gb147, 3, none⟩) (Kd.R_far (p := ⟨gb147, 2, none⟩) (Kd.R_far (p := ⟨gb147, 1, none⟩) (Kd.R_far (p := ⟨gb147, 0, none⟩) (Kd.R_types HO_54.out BK147.out (by decide)) (fun _ hk => hk.2) (.int .i64 t140)) (fun _ hk => hk.2) (.int .i64 t141)) (fun _ hk => hk.2) (.bool t142)) (fun _ hk => hk.2) (.int .i64 t143)) (fun _ hk => hk.2) (.int .i64 t144)) (fun _ hk => hk.2) (.int .i64 t145)) (fun _ hk => hk.2) (.string t146)) (fun _ h_ => h_.1))) hb); have n2_ := Aside0.mk (blk_below (g := gb130) (o := .cells #[.int .i64 a2_0, .int .i64 a2_1, .bool a2_2, .int .i64 a2_3, .int .i64 a2_4, .int .i64 a2_5, .string a2_6] 49 (0, 0)) (by (with_reducible repeat (first | refine blk_drewN ?_ _ | refine blk_drew ?_ | refine blk_alloc ?_ _)); refine blk_far ?_ NB130_147.out _; (with_reducible repeat (first | refine blk_drewN ?_ _ | refine blk_drew ?_ | refine blk_alloc ?_ _)); refine blk_far ?_ NB130_147.out _; (with_reducible repeat (first | refine blk_drewN ?_ _ | refine blk_drew ?_ | refine blk_alloc ?_ _)); refine blk_far ?_ NB130_147.out _; (with_reducible repeat (first | refine blk_drewN ?_ _ | refine blk_drew ?_ | refine blk_alloc ?_ _)); refine blk_far ?_ NB130_147.out _; (with_reducible repeat (first | refine blk_drewN ?_ _ | refine blk_drew ?_ | refine blk_alloc ?_ _)); refine blk_far ?_ NB130_147.out _; (with_reducible repeat (first | refine blk_drewN ?_ _ | refine blk_drew ?_ | refine blk_alloc ?_ _)); refine blk_far ?_ NB130_147.out _; (with_reducible repeat (first | refine blk_drewN ?_ _ | refine blk_drew ?_ | refine blk_alloc ?_ _)); refine blk_far ?_ NB130_147.out _; (with_reducible repeat (first | refine blk_drewN ?_ _ | refine blk_drew ?_ | refine blk_alloc ?_ _)); exact BK130.out) hb); have n3_ := Aside0.mk (blk_below (g := gb147) (o := .cells #[.int .i64 t140, .int .i64 t141, .bool t142, .int .i64 t143, .int .i64 t144, .int .i64 t145, .string t146] 49 (0, 0)) (by (with_reducible repeat (first | refine blk_drewN ?_ _ | refine blk_drew ?_ | refine blk_alloc ?_ _)); refine blk_put (cs := #[.int .i64 t140, .int .i64 t141, .bool t142, .int .i64 t143, .int .i64 t144, .int .i64 t145, .string (⟨#[]⟩ : ByteArray)]) ?_ 6 _ rfl; (with_reducible repeat (first | refine blk_drewN ?_ _ | refine blk_drew ?_ | refine blk_alloc ?_ _)); refine blk_put (cs := #[.int .i64 t140, .int .i64 t141, .bool t142, .int .i64 t143, .int .i64 t144, .int .i64 0, .string (⟨#[]⟩ : ByteArray)]) ?_ 5 _ rfl; (with_reducible repeat (first | refine blk_drewN ?_ _ | refine blk_drew ?_ | refine blk_alloc ?_ _)); refine blk_put (cs := #[.int .i64 t140, .int .i64 t141, .bool t142, .int .i64 t143, .int .i64 0, .int .i64 0, .string (⟨#[]⟩ : ByteArray)]) ?_ 4 _ rfl; (with_reducible repeat (first | refine blk_drewN ?_ _ | refine blk_drew ?_ | refine blk_alloc ?_ _)); refine blk_put (cs := #[.int .i64 t140, .int .i64 t141, .bool t142, .int .i64 0, .int .i64 0, .int .i64 0, .string (⟨#[]⟩ : ByteArray)]) ?_ 3 _ rfl; (with_reducible repeat (first | refine blk_drewN ?_ _ | refine blk_drew ?_ | refine blk_alloc ?_ _)); refine blk_put (cs := #[.int .i64 t140, .int .i64 t141, .bool false, .int .i64 0, .int .i64 0, .int .i64 0, .string (⟨#[]⟩ : ByteArray)]) ?_ 2 _ rfl; (with_reducible repeat (first | refine blk_drewN ?_ _ | refine blk_drew ?_ | refine blk_alloc ?_ _)); refine blk_put (cs := #[.int .i64 t140, .int .i64 0, .bool false, .int .i64 0, .int .i64 0, .int .i64 0, .string (⟨#[]⟩ : ByteArray)]) ?_ 1 _ rfl; (with_reducible repeat (first | refine blk_drewN ?_ _ | refine blk_drew ?_ | refine blk_alloc ?_ _)); refine blk_put (cs := #[.int .i64 0, .int .i64 0, .bool false, .int .i64 0, .int .i64 0, .int .i64 0, .string (⟨#[]⟩ : ByteArray)]) ?_ 0 _ rfl; (with_reducible repeat (first | refine blk_drewN ?_ _ | refine blk_drew ?_ | refine blk_alloc ?_ _)); exact BK147.out) hb); have n4_ := Aside0.mk (below_step (by repeat (first | (with_reducible first | exact HB.out | apply below_alloc | apply pw_below_drewN | apply below_drew1 | refine below_set ?_ GE130.out | refine below_set ?_ GE147.out) | exact HB.out)) hb); clear HO_10; clear HO_54; clear BK130; clear BK147; clear HB; have HO_10 := n0_; have HO_54 := n1_; have BK130 := n2_; have BK147 := n3_; have HB := n4_; clear n0_ n1_ n2_ n3_ n4_; (try clear hb); (try clear hb2); (try clear hk); (try clear hi); have hcz49_0 : w48.cell? ⟨gb147, 0, none⟩ = some (.int .i64 t140) := (blk_cell BK147.out 0).trans rfl; have hcz49_1 : w48.cell? ⟨gb147, 1, none⟩ = some (.int .i64 t141) := (blk_cell BK147.out 1).trans rfl; have hcz49_2 : w48.cell? ⟨gb147, 2, none⟩ = some (.bool t142) := (blk_cell BK147.out 2).trans rfl; have hcz49_3 : w48.cell? ⟨gb147, 3, none⟩ = some (.int .i64 t143) := (blk_cell BK147.out 3).trans rfl; have hcz49_4 : w48.cell? ⟨gb147, 4, none⟩ = some (.int .i64 t144) := (blk_cell BK147.out 4).trans rfl; have hcz49_5 : w48.cell? ⟨gb147, 5, none⟩ = some (.int .i64 t145) := (blk_cell BK147.out 5).trans rfl; have hcz49_6 : w48.cell? ⟨gb147, 6, none⟩ = some (.string t146) := (blk_cell BK147.out 6).trans rfl; have hfz49_0 := blk_frozen BK147.out 0; have hfz49_1 := blk_frozen BK147.out 1; have hfz49_2 := blk_frozen BK147.out 2; have hfz49_3 := blk_frozen BK147.out 3; have hfz49_4 := blk_frozen BK147.out 4; have hfz49_5 := blk_frozen BK147.out 5; have hfz49_6 := blk_frozen BK147.out 6) | ((with_reducible refine gate_builtin (b := .append) (xs := #[.tmp 81, .tmp 85]) rfl ?_); (try (refine gate_guard (by rfl) ?_; dsimp only)); at_builtin; refine Kd.R_append k63 (w0 := w) w.heap.size rfl (.tmp 81) (.tmp 85) 55 63 (.agg #[(.int .i64 0), (.int .i64 0), (.int .i64 0), (.bool false), (.int .i64 0), (.int .i64 0), (.int .i64 0), (.string ⟨#[]⟩)]) 72 rfl Try.underlying55 info63 rfl (by decide) (by omega) u10 x10_2 (⟨rd t136 x56_2, (⟨t150, t151, t152, t153, t154, t155, t156⟩ : S49)⟩ : S63) [.int .i64 (rd t136 x56_2), .int .i64 t150, .int .i64 t151, .bool t152, .int .i64 t153, .int .i64 t154, .int .i64 t155, .string t156] (fun _ => True) (fun _ => False) rfl (by first | (go_simp; done) | (go_simp; rfl)) ?aP (fun _ hk => hk.elim) ?aF ?aO ?aB ?aS ?aL ?_; (case aP => exact k63_mkM _ _ _ (⟨rd t136 x56_2, (⟨t150, t151, t152, t153, t154, t155, t156⟩ : S49)⟩ : S63)); (case aB => exact (by repeat (first | (with_reducible first | exact HB.out | apply below_alloc | apply pw_below_drewN | apply below_drew1 | refine below_set ?_ GE130.out | refine below_set ?_ GE147.out) | exact HB.out))); (case aF => exact (fun _ _ => trivial)); (case aO => exact (by (with_reducible repeat (first | apply Kd.R_alloc | apply Kd.R_drewN | apply Kd.R_drew)); exact Kd.R_mono (Kd.R_far (p := ⟨gb147, 6, none⟩) (Kd.R_far (p := ⟨gb147, 5, none⟩) (Kd.R_far (p := ⟨gb147, 4, none⟩) (Kd.R_far (p := ⟨gb147, 3, none⟩) (Kd.R_far (p := ⟨gb147, 2, none⟩) (Kd.R_far (p := ⟨gb147, 1, none⟩) (Kd.R_far (p := ⟨gb147, 0, none⟩) (Kd.R_types HO_10.out BK147.out (by decide)) (fun _ hk => hk.2) (.int .i64 t150)) (fun _ hk => hk.2) (.int .i64 t151)) (fun _ hk => hk.2) (.bool t152)) (fun _ hk => hk.2) (.int .i64 t153)) (fun _ hk => hk.2) (.int .i64 t154)) (fun _ hk => hk.2) (.int .i64 t155)) (fun _ hk => hk.2) (.string t156)) (fun _ hk => trivial))); (case aS => exact (below_size (by repeat (first | (with_reducible first | exact HB.out | apply below_alloc | apply pw_below_drewN | apply below_drew1 | refine below_set ?_ GE130.out | refine below_set ?_ GE147.out) | exact HB.out)))); (case aL => have := LMc41.out; omega); intro v158 w50 ho hb hg hat; rw [← Ny157.out] at ho; have n0_ := Aside0.mk (Kd.R_over' (by (with_reducible repeat (first | apply Kd.R_alloc | apply Kd.R_drewN | apply Kd.R_drew)); exact (Kd.R_mono (Kd.R_far (p := ⟨gb147, 6, none⟩) (Kd.R_far (p := ⟨gb147, 5, none⟩) (Kd.R_far (p := ⟨gb147, 4, none⟩) (Kd.R_far (p := ⟨gb147, 3, none⟩) (Kd.R_far (p := ⟨gb147, 2, none⟩) (Kd.R_far (p := ⟨gb147, 1, none⟩) (Kd.R_far (p := ⟨gb147, 0, none⟩) (Kd.R_types HO_54.out BK147.out (by decide)) (fun _ hk => hk.2) (.int .i64 t150)) (fun _ hk => hk.2) (.int .i64 t151)) (fun _ hk => hk.2) (.bool t152)) (fun _ hk => hk.2) (.int .i64 t153)) (fun _ hk => hk.2) (.int .i64 t154)) (fun _ hk => hk.2) (.int .i64 t155)) (fun _ hk => hk.2) (.string t156)) (fun _ h_ => h_.1))) (Kd.R_typed (by (with_reducible repeat (first | apply Kd.R_alloc | apply Kd.R_drewN | apply Kd.R_drew)); exact (Kd.R_mono (Kd.R_far (p := ⟨gb147, 6, none⟩) (Kd.R_far (p := ⟨gb147, 5, none⟩) (Kd.R_far (p := ⟨gb147, 4, none⟩) (Kd.R_far (p := ⟨gb147, 3, none⟩) (Kd.R_far (p := ⟨gb147, 2, none⟩) (Kd.R_far (p := ⟨gb147, 1, none⟩) (Kd.R_far (p := ⟨gb147, 0, none⟩) (Kd.R_types HO_10.out BK147.out (by decide)) (fun _ hk => hk.2) (.int .i64 t150)) (fun _ hk => hk.2) (.int .i64 t151)) (fun _ hk => hk.2) (.bool t152)) (fun _ hk => hk.2) (.int .i64 t153)) (fun _ hk => hk.2) (.int .i64 t154)) (fun _ hk => hk.2) (.int .i64 t155)) (fun _ hk => hk.2) (.string t156)) (fun _ h_ => h_.1)))) (by decide) hg); have n1_ := Aside0.mk (blk_grown (g := gb130) (o := .cells #[.int .i64 a2_0, .int .i64 a2_1, .bool a2_2, .int .i64 a2_3, .int .i64 a2_4, .int .i64 a2_5, .string a2_6] 49 (0, 0)) (by (with_reducible repeat (first | refine blk_drewN ?_ _ | refine blk_drew ?_ | refine blk_alloc ?_ _)); refine blk_far ?_ NB130_147.out _; (with_reducible repeat (first | refine blk_drewN ?_ _ | refine blk_drew ?_ | refine blk_alloc ?_ _)); refine blk_far ?_ NB130_147.out _; (with_reducible repeat (first | refine blk_drewN ?_ _ | refine blk_drew ?_ | refine blk_alloc ?_ _)); refine blk_far ?_ NB130_147.out _; (with_reducible repeat (first | refine blk_drewN ?_ _ | refine blk_drew ?_ | refine blk_alloc ?_ _)); refine blk_far ?_ NB130_147.out _; (with_reducible repeat (first | refine blk_drewN ?_ _ | refine blk_drew ?_ | refine blk_alloc ?_ _)); refine blk_far ?_ NB130_147.out _; (with_reducible repeat (first | refine blk_drewN ?_ _ | refine blk_drew ?_ | refine blk_alloc ?_ _)); refine blk_far ?_ NB130_147.out _; (with_reducible repeat (first | refine blk_drewN ?_ _ | refine blk_drew ?_ | refine blk_alloc ?_ _)); refine blk_far ?_ NB130_147.out _; (with_reducible repeat (first | refine blk_drewN ?_ _ | refine blk_drew ?_ | refine blk_alloc ?_ _)); exact BK130.out) hg (Kd.R_ne HO_10.out BK130.out (by decide))); have n2_ := Aside0.mk (blk_grown (g := gb147) (o := .cells #[.int .i64 t150, .int .i64 t151, .bool t152, .int .i64 t153, .int .i64 t154, .int .i64 t155, .string t156] 49 (0, 0)) (by (with_reducible repeat (first | refine blk_drewN ?_ _ | refine blk_drew ?_ | refine blk_alloc ?_ _)); refine blk_put (cs := #[.int .i64 t150, .int .i64 t151, .bool t152, .int .i64 t153, .int .i64 t154, .int .i64 t155, .string t146]) ?_ 6 _ rfl; (with_reducible repeat (first | refine blk_drewN ?_ _ | refine blk_drew ?_ | refine blk_alloc ?_ _)); refine blk_put (cs := #[.int .i64 t150, .int .i64 t151, .bool t152, .int .i64 t153, .int .i64 t154, .int .i64 t145, .string t146]) ?_ 5 _ rfl; (with_reducible repeat (first | refine blk_drewN ?_ _ | refine blk_drew ?_ | refine blk_alloc ?_ _)); refine blk_put (cs := #[.int .i64 t150, .int .i64 t151, .bool t152, .int .i64 t153, .int .i64 t144, .int .i64 t145, .string t146]) ?_ 4 _ rfl; (with_reducible repeat (first | refine blk_drewN ?_ _ | refine blk_drew ?_ | refine blk_alloc ?_ _)); refine blk_put (cs := #[.int .i64 t150, .int .i64 t151, .bool t152, .int .i64 t143, .int .i64 t144, .int .i64 t145, .string t146]) ?_ 3 _ rfl; (with_reducible repeat (first | refine blk_drewN ?_ _ | refine blk_drew ?_ | refine blk_alloc ?_ _)); refine blk_put (cs := #[.int .i64 t150, .int .i64 t151, .bool t142, .int .i64 t143, .int .i64 t144, .int .i64 t145, .string t146]) ?_ 2 _ rfl; (with_reducible repeat (first | refine blk_drewN ?_ _ | refine blk_drew ?_ | refine blk_alloc ?_ _)); refine blk_put (cs := #[.int .i64 t150, .int .i64 t141, .bool t142, .int .i64 t143, .int .i64 t144, .int .i64 t145, .string t146]) ?_ 1 _ rfl; (with_reducible repeat (first | refine blk_drewN ?_ _ | refine blk_drew ?_ | refine blk_alloc ?_ _)); refine blk_put (cs := #[.int .i64 t140, .int .i64 t141, .bool t142, .int .i64 t143, .int .i64 t144, .int .i64 t145, .string t146]) ?_ 0 _ rfl; (with_reducible repeat (first | refine blk_drewN ?_ _ | refine blk_drew ?_ | refine blk_alloc ?_ _)); exact BK147.out) hg (Kd.R_ne HO_10.out BK147.out (by decide))); have n3_ := Aside0.mk (hb); have n4_ := Aside0.mk (ho); clear HO_54; clear BK130; clear BK147; clear HB; clear HO_10; have HO_54 := n0_; have BK130 := n1_; have BK147 := n2_; have HB := n3_; have HO159 := n4_; clear n0_ n1_ n2_ n3_ n4_; clear ho hb hg hat))
                                  go_roundg k2
                                  case measure => have := HJ4.out; have := HK2.out; omega
                                  case rel => exact ⟨(y157), (wrap64 (x56_2 + 1)), (by first | rfl | (simp; done) | (simp [*]; done)), H', ⟨by have := HJ4.out; have := HK2.out; omega⟩, ⟨by (with_reducible repeat (first | apply Kd.R_alloc | apply Kd.R_drewN | apply Kd.R_drew)); exact HO159.out⟩, ⟨by (with_reducible repeat (first | apply Kd.R_alloc | apply Kd.R_drewN | apply Kd.R_drew)); exact HO_54.out⟩, ⟨by (with_reducible repeat (first | refine blk_drewN ?_ _ | refine blk_drew ?_ | refine blk_alloc ?_ _)); exact BK130.out⟩, ⟨by repeat (first | (with_reducible first | exact HB.out | apply below_alloc | apply pw_below_drewN | apply below_drew1 | refine below_set ?_ GE130.out | refine below_set ?_ GE147.out) | exact HB.out)⟩⟩
                                · rw [if_neg c41] at H
                                  exact absurd H (by simp)
                              · rw [if_neg c39] at H
                                have c39b0 : (((rd_T54 l0 (rd t136 x56_2)).f1) == t135) = false := beq_eq_false_iff_ne.mpr c39
                                have c39b1 : (((rd_T54 l0 (rd t136 x56_2)).f1) != t135) = true := bne_iff_ne.mpr c39
                                by_cases c51 : x10_2.length < 1954687338268
                                · rw [if_pos c51] at H
                                  have LMc51 := Aside0.mk c51
                                  clear c51
                                  obtain ⟨y160, hy160⟩ : ∃ y_ : List (S63), y_ = (x10_2 ++ [(⟨rd t136 x56_2, (⟨t140, t141, t142, t143, t144, t145, t146⟩ : S49)⟩ : S63)]) := ⟨_, rfl⟩
                                  replace H : (relay_Relay.l0 k2 l0 t135 y160 t136 (t136.length : Int) (wrap64 (x56_2 + 1)) a2_0 a2_1 a2_2 a2_3 a2_4 a2_5 a2_6) = some r := by first | (rw [hy160]; with_reducible exact H) | (have H2_ := (Option.bind_some _ _).symm.trans H; rw [hy160]; with_reducible exact H2_) | (have H2_ := (Option.bind_some _ _).symm.trans H; with_reducible exact H2_) | with_reducible exact H | (rw [hy160]; exact H) | exact H
                                  have Ny160 := Aside0.mk hy160
                                  clear hy160
                                  have H' := Aside0.mk H
                                  clear H
                                  have p139 : 0 ≤ (x56_2 : Int) := of_decide_eq_true (by first | (with_reducible assumption) | assumption)
                                  have q139 : x56_2 < (t136.length : Int) := of_decide_eq_true (by first | (with_reducible assumption) | assumption)
                                  obtain ⟨ad139, e139, hx139_0⟩ := Kd.at_int (Kd.R_reads' HO_54.out).2.2 x56_2 p139 q139
                                  cases e139
                                  replace p139 := eq_true p139
                                  replace q139 := eq_true q139
                                  have hcz52_0 : wr.cell? ⟨gb130, 0, none⟩ = some (.int .i64 a2_0) := (blk_cell BK130.out 0).trans rfl
                                  have hcz52_1 : wr.cell? ⟨gb130, 1, none⟩ = some (.int .i64 a2_1) := (blk_cell BK130.out 1).trans rfl
                                  have hcz52_2 : wr.cell? ⟨gb130, 2, none⟩ = some (.bool a2_2) := (blk_cell BK130.out 2).trans rfl
                                  have hcz52_3 : wr.cell? ⟨gb130, 3, none⟩ = some (.int .i64 a2_3) := (blk_cell BK130.out 3).trans rfl
                                  have hcz52_4 : wr.cell? ⟨gb130, 4, none⟩ = some (.int .i64 a2_4) := (blk_cell BK130.out 4).trans rfl
                                  have hcz52_5 : wr.cell? ⟨gb130, 5, none⟩ = some (.int .i64 a2_5) := (blk_cell BK130.out 5).trans rfl
                                  have hcz52_6 : wr.cell? ⟨gb130, 6, none⟩ = some (.string a2_6) := (blk_cell BK130.out 6).trans rfl
                                  have hfz52_0 := blk_frozen BK130.out 0
                                  have hfz52_1 := blk_frozen BK130.out 1
                                  have hfz52_2 := blk_frozen BK130.out 2
                                  have hfz52_3 := blk_frozen BK130.out 3
                                  have hfz52_4 := blk_frozen BK130.out 4
                                  have hfz52_5 := blk_frozen BK130.out 5
                                  have hfz52_6 := blk_frozen BK130.out 6
                                  go_wp2_with (first | ((with_reducible refine gate_callee (f := 41) rfl ?_); refine goesL_ (some 64) rfl rfl Try.func41 (by kernel_rfl) rfl #[.agg #[.int .i64 a2_0, .int .i64 a2_1, .bool a2_2, .int .i64 a2_3, .int .i64 a2_4, .int .i64 a2_5, .string a2_6], .int .i64 t135, .int .i64 a2_4] rfl (by (try simp only [List.map_toArray, List.map_cons, List.map_nil]); first | done | rfl | (simp only [List.length_drop, List.length_take]; rfl)) ?_; (with_reducible refine (frame_Tag.calls a2_0 a2_1 a2_2 a2_3 a2_4 a2_5 a2_6 t135 a2_4 t140 t141 t142 t143 t144 t145 t146 _ A34.out).mono ?_); rintro e w53 ⟨rfl, hb⟩; refine ⟨_, rfl, ?_⟩; have n0_ := Aside0.mk (Kd.R_below (by (with_reducible repeat (first | apply Kd.R_alloc | apply Kd.R_drewN | apply Kd.R_drew)); exact HO_10.out) hb); have n1_ := Aside0.mk (Kd.R_below (by (with_reducible repeat (first | apply Kd.R_alloc | apply Kd.R_drewN | apply Kd.R_drew)); exact HO_54.out) hb); have n2_ := Aside0.mk (blk_below (g := gb130) (o := .cells #[.int .i64 a2_0, .int .i64 a2_1, .bool a2_2, .int .i64 a2_3, .int .i64 a2_4, .int .i64 a2_5, .string a2_6] 49 (0, 0)) (by (with_reducible repeat (first | refine blk_drewN ?_ _ | refine blk_drew ?_ | refine blk_alloc ?_ _)); exact BK130.out) hb); have n3_ := Aside0.mk (below_step (by repeat (first | (with_reducible first | exact HB.out | apply below_alloc | apply pw_below_drewN | apply below_drew1 | refine below_set ?_ GE130.out) | exact HB.out)) hb); clear HO_10; clear HO_54; clear BK130; clear HB; have HO_10 := n0_; have HO_54 := n1_; have BK130 := n2_; have HB := n3_; clear n0_ n1_ n2_ n3_; (try clear hb); (try clear hb2); (try clear hk); (try clear hi)) | ((with_reducible refine gate_dst (N := 13) rfl ?_); (try (refine gate_guard (by rfl) ?_; dsimp only)); refine box_event ?hg (N := 13) ?hd (cs := #[.int .i64 0, .int .i64 0, .bool false, .int .i64 0, .int .i64 0, .int .i64 0, .string (⟨#[]⟩ : ByteArray)]) (t := 49) ?hr ?_; (case hd => rfl); (case hg => rfl); (case hr => first | (go_simp; done) | (go_simp; rfl)); intro gb147 hg w54 hbox hb; have n0_ := Aside0.mk (Kd.R_below (by (with_reducible repeat (first | apply Kd.R_alloc | apply Kd.R_drewN | apply Kd.R_drew)); exact HO_10.out) hb); have n1_ := Aside0.mk (Kd.R_below (by (with_reducible repeat (first | apply Kd.R_alloc | apply Kd.R_drewN | apply Kd.R_drew)); exact HO_54.out) hb); have n2_ := Aside0.mk (blk_below (g := gb130) (o := .cells #[.int .i64 a2_0, .int .i64 a2_1, .bool a2_2, .int .i64 a2_3, .int .i64 a2_4, .int .i64 a2_5, .string a2_6] 49 (0, 0)) (by (with_reducible repeat (first | refine blk_drewN ?_ _ | refine blk_drew ?_ | refine blk_alloc ?_ _)); exact BK130.out) hb); have n3_ := Aside0.mk (below_step (by repeat (first | (with_reducible first | exact HB.out | apply below_alloc | apply pw_below_drewN | apply below_drew1 | refine below_set ?_ GE130.out) | exact HB.out)) hb); have n4_ := Aside0.mk (hbox); have n5_ := Aside0.mk ((by rw [hg]; exact (below_size (by repeat (first | (with_reducible first | exact HB.out | apply below_alloc | apply pw_below_drewN | apply below_drew1 | refine below_set ?_ GE130.out) | exact HB.out))) : w.heap.size ≤ gb147)); have n6_ := Aside0.mk ((by rw [hg]; exact (below_size (by repeat (first | (with_reducible first | exact HB.out | apply below_alloc | apply pw_below_drewN | apply below_drew1 | refine below_set ?_ GE130.out) | exact HB.out))) : w.heap.size ≤ gb147)); have n7_ := Aside0.mk ((by rw [hg]; exact Nat.ne_of_lt (blk_lt (g := gb130) (o := .cells #[.int .i64 a2_0, .int .i64 a2_1, .bool a2_2, .int .i64 a2_3, .int .i64 a2_4, .int .i64 a2_5, .string a2_6] 49 (0, 0)) (by (with_reducible repeat (first | refine blk_drewN ?_ _ | refine blk_drew ?_ | refine blk_alloc ?_ _)); exact BK130.out)) : gb130 ≠ gb147)); have n8_ := Aside0.mk ((by rw [hg]; exact Nat.ne_of_gt (blk_lt (g := gb130) (o := .cells #[.int .i64 a2_0, .int .i64 a2_1, .bool a2_2, .int .i64 a2_3, .int .i64 a2_4, .int .i64 a2_5, .string a2_6] 49 (0, 0)) (by (with_reducible repeat (first | refine blk_drewN ?_ _ | refine blk_drew ?_ | refine blk_alloc ?_ _)); exact BK130.out)) : gb147 ≠ gb130)); clear HO_10; clear HO_54; clear BK130; clear HB; have HO_10 := n0_; have HO_54 := n1_; have BK130 := n2_; have HB := n3_; have BK147 := n4_; have GW147 := n5_; have GE147 := n6_; have NB130_147 := n7_; have NB147_130 := n8_; clear n0_ n1_ n2_ n3_ n4_ n5_ n6_ n7_ n8_; clear hb hbox hg; have hnb55 := NB147_130.out; have hnc55 := NB130_147.out; have hcz56_0 : w54.cell? ⟨gb147, 0, none⟩ = some (.int .i64 0) := (blk_cell BK147.out 0).trans rfl; have hcz56_1 : w54.cell? ⟨gb147, 1, none⟩ = some (.int .i64 0) := (blk_cell BK147.out 1).trans rfl; have hcz56_2 : w54.cell? ⟨gb147, 2, none⟩ = some (.bool false) := (blk_cell BK147.out 2).trans rfl; have hcz56_3 : w54.cell? ⟨gb147, 3, none⟩ = some (.int .i64 0) := (blk_cell BK147.out 3).trans rfl; have hcz56_4 : w54.cell? ⟨gb147, 4, none⟩ = some (.int .i64 0) := (blk_cell BK147.out 4).trans rfl; have hcz56_5 : w54.cell? ⟨gb147, 5, none⟩ = some (.int .i64 0) := (blk_cell BK147.out 5).trans rfl; have hcz56_6 : w54.cell? ⟨gb147, 6, none⟩ = some (.string (⟨#[]⟩ : ByteArray)) := (blk_cell BK147.out 6).trans rfl; have hfz56_0 := blk_frozen BK147.out 0; have hfz56_1 := blk_frozen BK147.out 1; have hfz56_2 := blk_frozen BK147.out 2; have hfz56_3 := blk_frozen BK147.out 3; have hfz56_4 := blk_frozen BK147.out 4; have hfz56_5 := blk_frozen BK147.out 5; have hfz56_6 := blk_frozen BK147.out 6; have p148 : 0 ≤ ((rd t136 x56_2) : Int) := of_decide_eq_true (by first | (with_reducible assumption) | assumption); have q148 : (rd t136 x56_2) < (l0.length : Int) := of_decide_eq_true (by first | (with_reducible assumption) | assumption); obtain ⟨ad148, A148_3, c148_3, e148, hx148_0, hx148_1, hx148_2, hx148_3, hl148_3, hi148_3⟩ := at_T54 HR0.out (rd t136 x56_2) p148 q148; (try rw [← Nbq37.out] at hx148_2); obtain rfl : ad134 = ad148 := (by injection e148); have hn148_0 : ad134.block ≠ gb147 := Nat.ne_of_lt (Nat.lt_of_lt_of_le (by have := World.block_lt_of_cell? _ _ hx148_0; first | rwa [add_block] at this | exact this) GW147.out); have hn148_1 : ad134.block ≠ gb147 := Nat.ne_of_lt (Nat.lt_of_lt_of_le (by have := World.block_lt_of_cell? _ _ hx148_0; first | rwa [add_block] at this | exact this) GW147.out); have hn148_2 : ad134.block ≠ gb147 := Nat.ne_of_lt (Nat.lt_of_lt_of_le (by have := World.block_lt_of_cell? _ _ hx148_0; first | rwa [add_block] at this | exact this) GW147.out); have hn148_3 : ad134.block ≠ gb147 := Nat.ne_of_lt (Nat.lt_of_lt_of_le (by have := World.block_lt_of_cell? _ _ hx148_0; first | rwa [add_block] at this | exact this) GW147.out); have hn148_4 : ad134.block ≠ gb147 := Nat.ne_of_lt (Nat.lt_of_lt_of_le (by have := World.block_lt_of_cell? _ _ hx148_0; first | rwa [add_block] at this | exact this) GW147.out); have hn148_5 : ad134.block ≠ gb147 := Nat.ne_of_lt (Nat.lt_of_lt_of_le (by have := World.block_lt_of_cell? _ _ hx148_0; first | rwa [add_block] at this | exact this) GW147.out); have hn148_6 : ad134.block ≠ gb147 := Nat.ne_of_lt (Nat.lt_of_lt_of_le (by have := World.block_lt_of_cell? _ _ hx148_0; first | rwa [add_block] at this | exact this) GW147.out); replace hx148_0 := (HB.out.cell (World.block_lt_of_cell? w _ hx148_0)).trans hx148_0; replace hx148_1 := (HB.out.cell (World.block_lt_of_cell? w _ hx148_1)).trans hx148_1; replace hx148_2 := (HB.out.cell (World.block_lt_of_cell? w _ hx148_2)).trans hx148_2; replace hx148_3 := (HB.out.cell (World.block_lt_of_cell? w _ hx148_3)).trans hx148_3; have HR148_3 := Aside0.mk hi148_3; have HC148_3 := Aside0.mk hl148_3; clear hi148_3 hl148_3; replace hx148_0 := (cell_far (p := ⟨gb147, 0, none⟩) (by first | (rw [add_block]; exact hn148_0) | (show (Addr.add _ _).block ≠ _; rw [add_block]; exact hn148_0) | exact hn148_0) (.int .i64 t140)).trans hx148_0; replace hx148_1 := (cell_far (p := ⟨gb147, 0, none⟩) (by first | (rw [add_block]; exact hn148_0) | (show (Addr.add _ _).block ≠ _; rw [add_block]; exact hn148_0) | exact hn148_0) (.int .i64 t140)).trans hx148_1; replace hx148_2 := (cell_far (p := ⟨gb147, 0, none⟩) (by first | (rw [add_block]; exact hn148_0) | (show (Addr.add _ _).block ≠ _; rw [add_block]; exact hn148_0) | exact hn148_0) (.int .i64 t140)).trans hx148_2; replace hx148_3 := (cell_far (p := ⟨gb147, 0, none⟩) (by first | (rw [add_block]; exact hn148_0) | (show (Addr.add _ _).block ≠ _; rw [add_block]; exact hn148_0) | exact hn148_0) (.int .i64 t140)).trans hx148_3; replace hx148_0 := (cell_far (p := ⟨gb147, 1, none⟩) (by first | (rw [add_block]; exact hn148_1) | (show (Addr.add _ _).block ≠ _; rw [add_block]; exact hn148_1) | exact hn148_1) (.int .i64 t141)).trans hx148_0; replace hx148_1 := (cell_far (p := ⟨gb147, 1, none⟩) (by first | (rw [add_block]; exact hn148_1) | (show (Addr.add _ _).block ≠ _; rw [add_block]; exact hn148_1) | exact hn148_1) (.int .i64 t141)).trans hx148_1; replace hx148_2 := (cell_far (p := ⟨gb147, 1, none⟩) (by first | (rw [add_block]; exact hn148_1) | (show (Addr.add _ _).block ≠ _; rw [add_block]; exact hn148_1) | exact hn148_1) (.int .i64 t141)).trans hx148_2; replace hx148_3 := (cell_far (p := ⟨gb147, 1, none⟩) (by first | (rw [add_block]; exact hn148_1) | (show (Addr.add _ _).block ≠ _; rw [add_block]; exact hn148_1) | exact hn148_1) (.int .i64 t141)).trans hx148_3; replace hx148_0 := (cell_far (p := ⟨gb147, 2, none⟩) (by first | (rw [add_block]; exact hn148_2) | (show (Addr.add _ _).block ≠ _; rw [add_block]; exact hn148_2) | exact hn148_2) (.bool t142)).trans hx148_0; replace hx148_1 := (cell_far (p := ⟨gb147, 2, none⟩) (by first | (rw [add_block]; exact hn148_2) | (show (Addr.add _ _).block ≠ _; rw [add_block]; exact hn148_2) | exact hn148_2) (.bool t142)).trans hx148_1; replace hx148_2 := (cell_far (p := ⟨gb147, 2, none⟩) (by first | (rw [add_block]; exact hn148_2) | (show (Addr.add _ _).block ≠ _; rw [add_block]; exact hn148_2) | exact hn148_2) (.bool t142)).trans hx148_2; replace hx148_3 := (cell_far (p := ⟨gb147, 2, none⟩) (by first | (rw [add_block]; exact hn148_2) | (show (Addr.add _ _).block ≠ _; rw [add_block]; exact hn148_2) | exact hn148_2) (.bool t142)).trans hx148_3; replace hx148_0 := (cell_far (p := ⟨gb147, 3, none⟩) (by first | (rw [add_block]; exact hn148_3) | (show (Addr.add _ _).block ≠ _; rw [add_block]; exact hn148_3) | exact hn148_3) (.int .i64 t143)).trans hx148_0; replace hx148_1 := (cell_far (p := ⟨gb147, 3, none⟩) (by first | (rw [add_block]; exact hn148_3) | (show (Addr.add _ _).block ≠ _; rw [add_block]; exact hn148_3) | exact hn148_3) (.int .i64 t143)).trans hx148_1; replace hx148_2 := (cell_far (p := ⟨gb147, 3, none⟩) (by first | (rw [add_block]; exact hn148_3) | (show (Addr.add _ _).block ≠ _; rw [add_block]; exact hn148_3) | exact hn148_3) (.int .i64 t143)).trans hx148_2; replace hx148_3 := (cell_far (p := ⟨gb147, 3, none⟩) (by first | (rw [add_block]; exact hn148_3) | (show (Addr.add _ _).block ≠ _; rw [add_block]; exact hn148_3) | exact hn148_3) (.int .i64 t143)).trans hx148_3; replace hx148_0 := (cell_far (p := ⟨gb147, 4, none⟩) (by first | (rw [add_block]; exact hn148_4) | (show (Addr.add _ _).block ≠ _; rw [add_block]; exact hn148_4) | exact hn148_4) (.int .i64 t144)).trans hx148_0; replace hx148_1 := (cell_far (p := ⟨gb147, 4, none⟩) (by first | (rw [add_block]; exact hn148_4) | (show (Addr.add _ _).block ≠ _; rw [add_block]; exact hn148_4) | exact hn148_4) (.int .i64 t144)).trans hx148_1; replace hx148_2 := (cell_far (p := ⟨gb147, 4, none⟩) (by first | (rw [add_block]; exact hn148_4) | (show (Addr.add _ _).block ≠ _; rw [add_block]; exact hn148_4) | exact hn148_4) (.int .i64 t144)).trans hx148_2; replace hx148_3 := (cell_far (p := ⟨gb147, 4, none⟩) (by first | (rw [add_block]; exact hn148_4) | (show (Addr.add _ _).block ≠ _; rw [add_block]; exact hn148_4) | exact hn148_4) (.int .i64 t144)).trans hx148_3; replace hx148_0 := (cell_far (p := ⟨gb147, 5, none⟩) (by first | (rw [add_block]; exact hn148_5) | (show (Addr.add _ _).block ≠ _; rw [add_block]; exact hn148_5) | exact hn148_5) (.int .i64 t145)).trans hx148_0; replace hx148_1 := (cell_far (p := ⟨gb147, 5, none⟩) (by first | (rw [add_block]; exact hn148_5) | (show (Addr.add _ _).block ≠ _; rw [add_block]; exact hn148_5) | exact hn148_5) (.int .i64 t145)).trans hx148_1; replace hx148_2 := (cell_far (p := ⟨gb147, 5, none⟩) (by first | (rw [add_block]; exact hn148_5) | (show (Addr.add _ _).block ≠ _; rw [add_block]; exact hn148_5) | exact hn148_5) (.int .i64 t145)).trans hx148_2; replace hx148_3 := (cell_far (p := ⟨gb147, 5, none⟩) (by first | (rw [add_block]; exact hn148_5) | (show (Addr.add _ _).block ≠ _; rw [add_block]; exact hn148_5) | exact hn148_5) (.int .i64 t145)).trans hx148_3; replace hx148_0 := (cell_far (p := ⟨gb147, 6, none⟩) (by first | (rw [add_block]; exact hn148_6) | (show (Addr.add _ _).block ≠ _; rw [add_block]; exact hn148_6) | exact hn148_6) (.string t146)).trans hx148_0; replace hx148_1 := (cell_far (p := ⟨gb147, 6, none⟩) (by first | (rw [add_block]; exact hn148_6) | (show (Addr.add _ _).block ≠ _; rw [add_block]; exact hn148_6) | exact hn148_6) (.string t146)).trans hx148_1; replace hx148_2 := (cell_far (p := ⟨gb147, 6, none⟩) (by first | (rw [add_block]; exact hn148_6) | (show (Addr.add _ _).block ≠ _; rw [add_block]; exact hn148_6) | exact hn148_6) (.string t146)).trans hx148_2; replace hx148_3 := (cell_far (p := ⟨gb147, 6, none⟩) (by first | (rw [add_block]; exact hn148_6) | (show (Addr.add _ _).block ≠ _; rw [add_block]; exact hn148_6) | exact hn148_6) (.string t146)).trans hx148_3; clear hn148_0; clear hn148_1; clear hn148_2; clear hn148_3; clear hn148_4; clear hn148_5; clear hn148_6; replace p148 := eq_true p148; replace q148 := eq_true q148; have p149 : 0 ≤ ((rd t136 x56_2) : Int) := of_decide_eq_true (by first | (with_reducible assumption) | assumption); have q149 : (rd t136 x56_2) < (l0.length : Int) := of_decide_eq_true (by first | (with_reducible assumption) | assumption); obtain ⟨ad149, A149_3, c149_3, e149, hx149_0, hx149_1, hx149_2, hx149_3, hl149_3, hi149_3⟩ := at_T54 HR0.out (rd t136 x56_2) p149 q149; (try rw [← Nbq37.out] at hx149_2); obtain rfl : ad134 = ad149 := (by injection e149); have hn149_0 : ad134.block ≠ gb147 := Nat.ne_of_lt (Nat.lt_of_lt_of_le (by have := World.block_lt_of_cell? _ _ hx149_0; first | rwa [add_block] at this | exact this) GW147.out); have hn149_1 : ad134.block ≠ gb147 := Nat.ne_of_lt (Nat.lt_of_lt_of_le (by have := World.block_lt_of_cell? _ _ hx149_0; first | rwa [add_block] at this | exact this) GW147.out); have hn149_2 : ad134.block ≠ gb147 := Nat.ne_of_lt (Nat.lt_of_lt_of_le (by have := World.block_lt_of_cell? _ _ hx149_0; first | rwa [add_block] at this | exact this) GW147.out); have hn149_3 : ad134.block ≠ gb147 := Nat.ne_of_lt (Nat.lt_of_lt_of_le (by have := World.block_lt_of_cell? _ _ hx149_0; first | rwa [add_block] at this | exact this) GW147.out); have hn149_4 : ad134.block ≠ gb147 := Nat.ne_of_lt (Nat.lt_of_lt_of_le (by have := World.block_lt_of_cell? _ _ hx149_0; first | rwa [add_block] at this | exact this) GW147.out); have hn149_5 : ad134.block ≠ gb147 := Nat.ne_of_lt (Nat.lt_of_lt_of_le (by have := World.block_lt_of_cell? _ _ hx149_0; first | rwa [add_block] at this | exact this) GW147.out); have hn149_6 : ad134.block ≠ gb147 := Nat.ne_of_lt (Nat.lt_of_lt_of_le (by have := World.block_lt_of_cell? _ _ hx149_0; first | rwa [add_block] at this | exact this) GW147.out); replace hx149_0 := (HB.out.cell (World.block_lt_of_cell? w _ hx149_0)).trans hx149_0; replace hx149_1 := (HB.out.cell (World.block_lt_of_cell? w _ hx149_1)).trans hx149_1; replace hx149_2 := (HB.out.cell (World.block_lt_of_cell? w _ hx149_2)).trans hx149_2; replace hx149_3 := (HB.out.cell (World.block_lt_of_cell? w _ hx149_3)).trans hx149_3; have HR149_3 := Aside0.mk hi149_3; have HC149_3 := Aside0.mk hl149_3; clear hi149_3 hl149_3; replace hx149_0 := (cell_far (p := ⟨gb147, 0, none⟩) (by first | (rw [add_block]; exact hn149_0) | (show (Addr.add _ _).block ≠ _; rw [add_block]; exact hn149_0) | exact hn149_0) (.int .i64 t140)).trans hx149_0; replace hx149_1 := (cell_far (p := ⟨gb147, 0, none⟩) (by first | (rw [add_block]; exact hn149_0) | (show (Addr.add _ _).block ≠ _; rw [add_block]; exact hn149_0) | exact hn149_0) (.int .i64 t140)).trans hx149_1; replace hx149_2 := (cell_far (p := ⟨gb147, 0, none⟩) (by first | (rw [add_block]; exact hn149_0) | (show (Addr.add _ _).block ≠ _; rw [add_block]; exact hn149_0) | exact hn149_0) (.int .i64 t140)).trans hx149_2; replace hx149_3 := (cell_far (p := ⟨gb147, 0, none⟩) (by first | (rw [add_block]; exact hn149_0) | (show (Addr.add _ _).block ≠ _; rw [add_block]; exact hn149_0) | exact hn149_0) (.int .i64 t140)).trans hx149_3; replace hx149_0 := (cell_far (p := ⟨gb147, 1, none⟩) (by first | (rw [add_block]; exact hn149_1) | (show (Addr.add _ _).block ≠ _; rw [add_block]; exact hn149_1) | exact hn149_1) (.int .i64 t141)).trans hx149_0; replace hx149_1 := (cell_far (p := ⟨gb147, 1, none⟩) (by first | (rw [add_block]; exact hn149_1) | (show (Addr.add _ _).block ≠ _; rw [add_block]; exact hn149_1) | exact hn149_1) (.int .i64 t141)).trans hx149_1; replace hx149_2 := (cell_far (p := ⟨gb147, 1, none⟩) (by first | (rw [add_block]; exact hn149_1) | (show (Addr.add _ _).block ≠ _; rw [add_block]; exact hn149_1) | exact hn149_1) (.int .i64 t141)).trans hx149_2; replace hx149_3 := (cell_far (p := ⟨gb147, 1, none⟩) (by first | (rw [add_block]; exact hn149_1) | (show (Addr.add _ _).block ≠ _; rw [add_block]; exact hn149_1) | exact hn149_1) (.int .i64 t141)).trans hx149_3; replace hx149_0 := (cell_far (p := ⟨gb147, 2, none⟩) (by first | (rw [add_block]; exact hn149_2) | (show (Addr.add _ _).block ≠ _; rw [add_block]; exact hn149_2) | exact hn149_2) (.bool t142)).trans hx149_0; replace hx149_1 := (cell_far (p := ⟨gb147, 2, none⟩) (by first | (rw [add_block]; exact hn149_2) | (show (Addr.add _ _).block ≠ _; rw [add_block]; exact hn149_2) | exact hn149_2) (.bool t142)).trans hx149_1; replace hx149_2 := (cell_far (p := ⟨gb147, 2, none⟩) (by first | (rw [add_block]; exact hn149_2) | (show (Addr.add _ _).block ≠ _; rw [add_block]; exact hn149_2) | exact hn149_2) (.bool t142)).trans hx149_2; replace hx149_3 := (cell_far (p := ⟨gb147, 2, none⟩) (by first | (rw [add_block]; exact hn149_2) | (show (Addr.add _ _).block ≠ _; rw [add_block]; exact hn149_2) | exact hn149_2) (.bool t142)).trans hx149_3; replace hx149_0 := (cell_far (p := ⟨gb147, 3, none⟩) (by first | (rw [add_block]; exact hn149_3) | (show (Addr.add _ _).block ≠ _; rw [add_block]; exact hn149_3) | exact hn149_3) (.int .i64 t143)).trans hx149_0; replace hx149_1 := (cell_far (p := ⟨gb147, 3, none⟩) (by first | (rw [add_block]; exact hn149_3) | (show (Addr.add _ _).block ≠ _; rw [add_block]; exact hn149_3) | exact hn149_3) (.int .i64 t143)).trans hx149_1; replace hx149_2 := (cell_far (p := ⟨gb147, 3, none⟩) (by first | (rw [add_block]; exact hn149_3) | (show (Addr.add _ _).block ≠ _; rw [add_block]; exact hn149_3) | exact hn149_3) (.int .i64 t143)).trans hx149_2; replace hx149_3 := (cell_far (p := ⟨gb147, 3, none⟩) (by first | (rw [add_block]; exact hn149_3) | (show (Addr.add _ _).block ≠ _; rw [add_block]; exact hn149_3) | exact hn149_3) (.int .i64 t143)).trans hx149_3; replace hx149_0 := (cell_far (p := ⟨gb147, 4, none⟩) (by first | (rw [add_block]; exact hn149_4) | (show (Addr.add _ _).block ≠ _; rw [add_block]; exact hn149_4) | exact hn149_4) (.int .i64 t144)).trans hx149_0; replace hx149_1 := (cell_far (p := ⟨gb147, 4, none⟩) (by first | (rw [add_block]; exact hn149_4) | (show (Addr.add _ _).block ≠ _; rw [add_block]; exact hn149_4) | exact hn149_4) (.int .i64 t144)).trans hx149_1; replace hx149_2 := (cell_far (p := ⟨gb147, 4, none⟩) (by first | (rw [add_block]; exact hn149_4) | (show (Addr.add _ _).block ≠ _; rw [add_block]; exact hn149_4) | exact hn149_4) (.int .i64 t144)).trans hx149_2; replace hx149_3 := (cell_far (p := ⟨gb147, 4, none⟩) (by first | (rw [add_block]; exact hn149_4) | (show (Addr.add _ _).block ≠ _; rw [add_block]; exact hn149_4) | exact hn149_4) (.int .i64 t144)).trans hx149_3; replace hx149_0 := (cell_far (p := ⟨gb147, 5, none⟩) (by first | (rw [add_block]; exact hn149_5) | (show (Addr.add _ _).block ≠ _; rw [add_block]; exact hn149_5) | exact hn149_5) (.int .i64 t145)).trans hx149_0; replace hx149_1 := (cell_far (p := ⟨gb147, 5, none⟩) (by first | (rw [add_block]; exact hn149_5) | (show (Addr.add _ _).block ≠ _; rw [add_block]; exact hn149_5) | exact hn149_5) (.int .i64 t145)).trans hx149_1; replace hx149_2 := (cell_far (p := ⟨gb147, 5, none⟩) (by first | (rw [add_block]; exact hn149_5) | (show (Addr.add _ _).block ≠ _; rw [add_block]; exact hn149_5) | exact hn149_5) (.int .i64 t145)).trans hx149_2; replace hx149_3 := (cell_far (p := ⟨gb147, 5, none⟩) (by first | (rw [add_block]; exact hn149_5) | (show (Addr.add _ _).block ≠ _; rw [add_block]; exact hn149_5) | exact hn149_5) (.int .i64 t145)).trans hx149_3; replace hx149_0 := (cell_far (p := ⟨gb147, 6, none⟩) (by first | (rw [add_block]; exact hn149_6) | (show (Addr.add _ _).block ≠ _; rw [add_block]; exact hn149_6) | exact hn149_6) (.string t146)).trans hx149_0; replace hx149_1 := (cell_far (p := ⟨gb147, 6, none⟩) (by first | (rw [add_block]; exact hn149_6) | (show (Addr.add _ _).block ≠ _; rw [add_block]; exact hn149_6) | exact hn149_6) (.string t146)).trans hx149_1; replace hx149_2 := (cell_far (p := ⟨gb147, 6, none⟩) (by first | (rw [add_block]; exact hn149_6) | (show (Addr.add _ _).block ≠ _; rw [add_block]; exact hn149_6) | exact hn149_6) (.string t146)).trans hx149_2; replace hx149_3 := (cell_far (p := ⟨gb147, 6, none⟩) (by first | (rw [add_block]; exact hn149_6) | (show (Addr.add _ _).block ≠ _; rw [add_block]; exact hn149_6) | exact hn149_6) (.string t146)).trans hx149_3; clear hn149_0; clear hn149_1; clear hn149_2; clear hn149_3; clear hn149_4; clear hn149_5; clear hn149_6; replace p149 := eq_true p149; replace q149 := eq_true q149) | ((with_reducible refine gate_builtin (b := .append) (xs := #[.tmp 81, .tmp 85]) rfl ?_); (try (refine gate_guard (by rfl) ?_; dsimp only)); at_builtin; refine Kd.R_append k63 (w0 := w) w.heap.size rfl (.tmp 81) (.tmp 85) 55 63 (.agg #[(.int .i64 0), (.int .i64 0), (.int .i64 0), (.bool false), (.int .i64 0), (.int .i64 0), (.int .i64 0), (.string ⟨#[]⟩)]) 72 rfl Try.underlying55 info63 rfl (by decide) (by omega) u10 x10_2 (⟨rd t136 x56_2, (⟨t140, t141, t142, t143, t144, t145, t146⟩ : S49)⟩ : S63) [.int .i64 (rd t136 x56_2), .int .i64 t140, .int .i64 t141, .bool t142, .int .i64 t143, .int .i64 t144, .int .i64 t145, .string t146] (fun _ => True) (fun _ => False) rfl (by first | (go_simp; done) | (go_simp; rfl)) ?aP (fun _ hk => hk.elim) ?aF ?aO ?aB ?aS ?aL ?_; (case aP => exact k63_mkM _ _ _ (⟨rd t136 x56_2, (⟨t140, t141, t142, t143, t144, t145, t146⟩ : S49)⟩ : S63)); (case aB => exact (by repeat (first | (with_reducible first | exact HB.out | apply below_alloc | apply pw_below_drewN | apply below_drew1 | refine below_set ?_ GE130.out | refine below_set ?_ GE147.out) | exact HB.out))); (case aF => exact (fun _ _ => trivial)); (case aO => exact (by (with_reducible repeat (first | apply Kd.R_alloc | apply Kd.R_drewN | apply Kd.R_drew)); exact Kd.R_mono (Kd.R_far (p := ⟨gb147, 6, none⟩) (Kd.R_far (p := ⟨gb147, 5, none⟩) (Kd.R_far (p := ⟨gb147, 4, none⟩) (Kd.R_far (p := ⟨gb147, 3, none⟩) (Kd.R_far (p := ⟨gb147, 2, none⟩) (Kd.R_far (p := ⟨gb147, 1, none⟩) (Kd.R_far (p := ⟨gb147, 0, none⟩) (Kd.R_types HO_10.out BK147.out (by decide)) (fun _ hk => hk.2) (.int .i64 t140)) (fun _ hk => hk.2) (.int .i64 t141)) (fun _ hk => hk.2) (.bool t142)) (fun _ hk => hk.2) (.int .i64 t143)) (fun _ hk => hk.2) (.int .i64 t144)) (fun _ hk => hk.2) (.int .i64 t145)) (fun _ hk => hk.2) (.string t146)) (fun _ hk => trivial))); (case aS => exact (below_size (by repeat (first | (with_reducible first | exact HB.out | apply below_alloc | apply pw_below_drewN | apply below_drew1 | refine below_set ?_ GE130.out | refine below_set ?_ GE147.out) | exact HB.out)))); (case aL => have := LMc51.out; omega); intro v161 w57 ho hb hg hat; rw [← Ny160.out] at ho; have n0_ := Aside0.mk (Kd.R_over' (by (with_reducible repeat (first | apply Kd.R_alloc | apply Kd.R_drewN | apply Kd.R_drew)); exact (Kd.R_mono (Kd.R_far (p := ⟨gb147, 6, none⟩) (Kd.R_far (p := ⟨gb147, 5, none⟩) (Kd.R_far (p := ⟨gb147, 4, none⟩) (Kd.R_far (p := ⟨gb147, 3, none⟩) (Kd.R_far (p := ⟨gb147, 2, none⟩) (Kd.R_far (p := ⟨gb147, 1, none⟩) (Kd.R_far (p := ⟨gb147, 0, none⟩) (Kd.R_types HO_54.out BK147.out (by decide)) (fun _ hk => hk.2) (.int .i64 t140)) (fun _ hk => hk.2) (.int .i64 t141)) (fun _ hk => hk.2) (.bool t142)) (fun _ hk => hk.2) (.int .i64 t143)) (fun _ hk => hk.2) (.int .i64 t144)) (fun _ hk => hk.2) (.int .i64 t145)) (fun _ hk => hk.2) (.string t146)) (fun _ h_ => h_.1))) (Kd.R_typed (by (with_reducible repeat (first | apply Kd.R_alloc | apply Kd.R_drewN | apply Kd.R_drew)); exact (Kd.R_mono (Kd.R_far (p := ⟨gb147, 6, none⟩) (Kd.R_far (p := ⟨gb147, 5, none⟩) (Kd.R_far (p := ⟨gb147, 4, none⟩) (Kd.R_far (p := ⟨gb147, 3, none⟩) (Kd.R_far (p := ⟨gb147, 2, none⟩) (Kd.R_far (p := ⟨gb147, 1, none⟩) (Kd.R_far (p := ⟨gb147, 0, none⟩) (Kd.R_types HO_10.out BK147.out (by decide)) (fun _ hk => hk.2) (.int .i64 t140)) (fun _ hk => hk.2) (.int .i64 t141)) (fun _ hk => hk.2) (.bool t142)) (fun _ hk => hk.2) (.int .i64 t143)) (fun _ hk => hk.2) (.int .i64 t144)) (fun _ hk => hk.2) (.int .i64 t145)) (fun _ hk => hk.2) (.string t146)) (fun _ h_ => h_.1)))) (by decide) hg); have n1_ := Aside0.mk (blk_grown (g := gb130) (o := .cells #[.int .i64 a2_0, .int .i64 a2_1, .bool a2_2, .int .i64 a2_3, .int .i64 a2_4, .int .i64 a2_5, .string a2_6] 49 (0, 0)) (by (with_reducible repeat (first | refine blk_drewN ?_ _ | refine blk_drew ?_ | refine blk_alloc ?_ _)); refine blk_far ?_ NB130_147.out _; (with_reducible repeat (first | refine blk_drewN ?_ _ | refine blk_drew ?_ | refine blk_alloc ?_ _)); refine blk_far ?_ NB130_147.out _; (with_reducible repeat (first | refine blk_drewN ?_ _ | refine blk_drew ?_ | refine blk_alloc ?_ _)); refine blk_far ?_ NB130_147.out _; (with_reducible repeat (first | refine blk_drewN ?_ _ | refine blk_drew ?_ | refine blk_alloc ?_ _)); refine blk_far ?_ NB130_147.out _; (with_reducible repeat (first | refine blk_drewN ?_ _ | refine blk_drew ?_ | refine blk_alloc ?_ _)); refine blk_far ?_ NB130_147.out _; (with_reducible repeat (first | refine blk_drewN ?_ _ | refine blk_drew ?_ | refine blk_alloc ?_ _)); refine blk_far ?_ NB130_147.out _; (with_reducible repeat (first | refine blk_drewN ?_ _ | refine blk_drew ?_ | refine blk_alloc ?_ _)); refine blk_far ?_ NB130_147.out _; (with_reducible repeat (first | refine blk_drewN ?_ _ | refine blk_drew ?_ | refine blk_alloc ?_ _)); exact BK130.out) hg (Kd.R_ne HO_10.out BK130.out (by decide))); have n2_ := Aside0.mk (blk_grown (g := gb147) (o := .cells #[.int .i64 t140, .int .i64 t141, .bool t142, .int .i64 t143, .int .i64 t144, .int .i64 t145, .string t146] 49 (0, 0)) (by (with_reducible repeat (first | refine blk_drewN ?_ _ | refine blk_drew ?_ | refine blk_alloc ?_ _)); refine blk_put (cs := #[.int .i64 t140, .int .i64 t141, .bool t142, .int .i64 t143, .int .i64 t144, .int .i64 t145, .string (⟨#[]⟩ : ByteArray)]) ?_ 6 _ rfl; (with_reducible repeat (first | refine blk_drewN ?_ _ | refine blk_drew ?_ | refine blk_alloc ?_ _)); refine blk_put (cs := #[.int .i64 t140, .int .i64 t141, .bool t142, .int .i64 t143, .int .i64 t144, .int .i64 0, .string (⟨#[]⟩ : ByteArray)]) ?_ 5 _ rfl; (with_reducible repeat (first | refine blk_drewN ?_ _ | refine blk_drew ?_ | refine blk_alloc ?_ _)); refine blk_put (cs := #[.int .i64 t140, .int .i64 t141, .bool t142, .int .i64 t143, .int .i64 0, .int .i64 0, .string (⟨#[]⟩ : ByteArray)]) ?_ 4 _ rfl; (with_reducible repeat (first | refine blk_drewN ?_ _ | refine blk_drew ?_ | refine blk_alloc ?_ _)); refine blk_put (cs := #[.int .i64 t140, .int .i64 t141, .bool t142, .int .i64 0, .int .i64 0, .int .i64 0, .string (⟨#[]⟩ : ByteArray)]) ?_ 3 _ rfl; (with_reducible repeat (first | refine blk_drewN ?_ _ | refine blk_drew ?_ | refine blk_alloc ?_ _)); refine blk_put (cs := #[.int .i64 t140, .int .i64 t141, .bool false, .int .i64 0, .int .i64 0, .int .i64 0, .string (⟨#[]⟩ : ByteArray)]) ?_ 2 _ rfl; (with_reducible repeat (first | refine blk_drewN ?_ _ | refine blk_drew ?_ | refine blk_alloc ?_ _)); refine blk_put (cs := #[.int .i64 t140, .int .i64 0, .bool false, .int .i64 0, .int .i64 0, .int .i64 0, .string (⟨#[]⟩ : ByteArray)]) ?_ 1 _ rfl; (with_reducible repeat (first | refine blk_drewN ?_ _ | refine blk_drew ?_ | refine blk_alloc ?_ _)); refine blk_put (cs := #[.int .i64 0, .int .i64 0, .bool false, .int .i64 0, .int .i64 0, .int .i64 0, .string (⟨#[]⟩ : ByteArray)]) ?_ 0 _ rfl; (with_reducible repeat (first | refine blk_drewN ?_ _ | refine blk_drew ?_ | refine blk_alloc ?_ _)); exact BK147.out) hg (Kd.R_ne HO_10.out BK147.out (by decide))); have n3_ := Aside0.mk (hb); have n4_ := Aside0.mk (ho); clear HO_54; clear BK130; clear BK147; clear HB; clear HO_10; have HO_54 := n0_; have BK130 := n1_; have BK147 := n2_; have HB := n3_; have HO162 := n4_; clear n0_ n1_ n2_ n3_ n4_; clear ho hb hg hat))
                                  go_roundg k2
                                  case measure => have := HJ4.out; have := HK2.out; omega
                                  case rel => exact ⟨(y160), (wrap64 (x56_2 + 1)), (by first | rfl | (simp; done) | (simp [*]; done)), H', ⟨by have := HJ4.out; have := HK2.out; omega⟩, ⟨by (with_reducible repeat (first | apply Kd.R_alloc | apply Kd.R_drewN | apply Kd.R_drew)); exact HO162.out⟩, ⟨by (with_reducible repeat (first | apply Kd.R_alloc | apply Kd.R_drewN | apply Kd.R_drew)); exact HO_54.out⟩, ⟨by (with_reducible repeat (first | refine blk_drewN ?_ _ | refine blk_drew ?_ | refine blk_alloc ?_ _)); exact BK130.out⟩, ⟨by repeat (first | (with_reducible first | exact HB.out | apply below_alloc | apply pw_below_drewN | apply below_drew1 | refine below_set ?_ GE130.out | refine below_set ?_ GE147.out) | exact HB.out)⟩⟩
                                · rw [if_neg c51] at H
                                  exact absurd H (by simp)
                            · replace c38 := Bool.eq_false_iff.mpr c38
                              subst c38
                              have H1 : (if x10_2.length < 1954687338268 then (relay_Relay.l0 k2 l0 t135 (x10_2 ++ [(⟨rd t136 x56_2, (⟨t140, t141, t142, t143, t144, t145, t146⟩ : S49)⟩ : S63)]) t136 (t136.length : Int) (wrap64 (x56_2 + 1)) a2_0 a2_1 a2_2 a2_3 a2_4 a2_5 a2_6) else (none)) = some r := by rw [if_neg (show ¬ (false = true) by decide)] at H; exact H
                              clear H
                              have H := H1
                              clear H1
                              by_cases c58 : x10_2.length < 1954687338268
                              · rw [if_pos c58] at H
                                have LMc58 := Aside0.mk c58
                                clear c58
                                obtain ⟨y163, hy163⟩ : ∃ y_ : List (S63), y_ = (x10_2 ++ [(⟨rd t136 x56_2, (⟨t140, t141, t142, t143, t144, t145, t146⟩ : S49)⟩ : S63)]) := ⟨_, rfl⟩
                                replace H : (relay_Relay.l0 k2 l0 t135 y163 t136 (t136.length : Int) (wrap64 (x56_2 + 1)) a2_0 a2_1 a2_2 a2_3 a2_4 a2_5 a2_6) = some r := by first | (rw [hy163]; with_reducible exact H) | (have H2_ := (Option.bind_some _ _).symm.trans H; rw [hy163]; with_reducible exact H2_) | (have H2_ := (Option.bind_some _ _).symm.trans H; with_reducible exact H2_) | with_reducible exact H | (rw [hy163]; exact H) | exact H
                                have Ny163 := Aside0.mk hy163
                                clear hy163
                                have H' := Aside0.mk H
                                clear H
                                have p139 : 0 ≤ (x56_2 : Int) := of_decide_eq_true (by first | (with_reducible assumption) | assumption)
                                have q139 : x56_2 < (t136.length : Int) := of_decide_eq_true (by first | (with_reducible assumption) | assumption)
                                obtain ⟨ad139, e139, hx139_0⟩ := Kd.at_int (Kd.R_reads' HO_54.out).2.2 x56_2 p139 q139
                                cases e139
                                replace p139 := eq_true p139
                                replace q139 := eq_true q139
                                have hcz59_0 : wr.cell? ⟨gb130, 0, none⟩ = some (.int .i64 a2_0) := (blk_cell BK130.out 0).trans rfl
                                have hcz59_1 : wr.cell? ⟨gb130, 1, none⟩ = some (.int .i64 a2_1) := (blk_cell BK130.out 1).trans rfl
                                have hcz59_2 : wr.cell? ⟨gb130, 2, none⟩ = some (.bool a2_2) := (blk_cell BK130.out 2).trans rfl
                                have hcz59_3 : wr.cell? ⟨gb130, 3, none⟩ = some (.int .i64 a2_3) := (blk_cell BK130.out 3).trans rfl
                                have hcz59_4 : wr.cell? ⟨gb130, 4, none⟩ = some (.int .i64 a2_4) := (blk_cell BK130.out 4).trans rfl
                                have hcz59_5 : wr.cell? ⟨gb130, 5, none⟩ = some (.int .i64 a2_5) := (blk_cell BK130.out 5).trans rfl
                                have hcz59_6 : wr.cell? ⟨gb130, 6, none⟩ = some (.string a2_6) := (blk_cell BK130.out 6).trans rfl
                                have hfz59_0 := blk_frozen BK130.out 0
                                have hfz59_1 := blk_frozen BK130.out 1
                                have hfz59_2 := blk_frozen BK130.out 2
                                have hfz59_3 := blk_frozen BK130.out 3
                                have hfz59_4 := blk_frozen BK130.out 4
                                have hfz59_5 := blk_frozen BK130.out 5
                                have hfz59_6 := blk_frozen BK130.out 6
                                go_wp2_with (first | ((with_reducible refine gate_callee (f := 41) rfl ?_); refine goesL_ (some 64) rfl rfl Try.func41 (by kernel_rfl) rfl #[.agg #[.int .i64 a2_0, .int .i64 a2_1, .bool a2_2, .int .i64 a2_3, .int .i64 a2_4, .int .i64 a2_5, .string a2_6], .int .i64 t135, .int .i64 a2_4] rfl (by (try simp only [List.map_toArray, List.map_cons, List.map_nil]); first | done | rfl | (simp only [List.length_drop, List.length_take]; rfl)) ?_; (with_reducible refine (frame_Tag.calls a2_0 a2_1 a2_2 a2_3 a2_4 a2_5 a2_6 t135 a2_4 t140 t141 t142 t143 t144 t145 t146 _ A34.out).mono ?_); rintro e w60 ⟨rfl, hb⟩; refine ⟨_, rfl, ?_⟩; have n0_ := Aside0.mk (Kd.R_below (by (with_reducible repeat (first | apply Kd.R_alloc | apply Kd.R_drewN | apply Kd.R_drew)); exact HO_10.out) hb); have n1_ := Aside0.mk (Kd.R_below (by (with_reducible repeat (first | apply Kd.R_alloc | apply Kd.R_drewN | apply Kd.R_drew)); exact HO_54.out) hb); have n2_ := Aside0.mk (blk_below (g := gb130) (o := .cells #[.int .i64 a2_0, .int .i64 a2_1, .bool a2_2, .int .i64 a2_3, .int .i64 a2_4, .int .i64 a2_5, .string a2_6] 49 (0, 0)) (by (with_reducible repeat (first | refine blk_drewN ?_ _ | refine blk_drew ?_ | refine blk_alloc ?_ _)); exact BK130.out) hb); have n3_ := Aside0.mk (below_step (by repeat (first | (with_reducible first | exact HB.out | apply below_alloc | apply pw_below_drewN | apply below_drew1 | refine below_set ?_ GE130.out) | exact HB.out)) hb); clear HO_10; clear HO_54; clear BK130; clear HB; have HO_10 := n0_; have HO_54 := n1_; have BK130 := n2_; have HB := n3_; clear n0_ n1_ n2_ n3_; (try clear hb); (try clear hb2); (try clear hk); (try clear hi)) | ((with_reducible refine gate_dst (N := 13) rfl ?_); (try (refine gate_guard (by rfl) ?_; dsimp only)); refine box_event ?hg (N := 13) ?hd (cs := #[.int .i64 0, .int .i64 0, .bool false, .int .i64 0, .int .i64 0, .int .i64 0, .string (⟨#[]⟩ : ByteArray)]) (t := 49) ?hr ?_; (case hd => rfl); (case hg => rfl); (case hr => first | (go_simp; done) | (go_simp; rfl)); intro gb147 hg w61 hbox hb; have n0_ := Aside0.mk (Kd.R_below (by (with_reducible repeat (first | apply Kd.R_alloc | apply Kd.R_drewN | apply Kd.R_drew)); exact HO_10.out) hb); have n1_ := Aside0.mk (Kd.R_below (by (with_reducible repeat (first | apply Kd.R_alloc | apply Kd.R_drewN | apply Kd.R_drew)); exact HO_54.out) hb); have n2_ := Aside0.mk (blk_below (g := gb130) (o := .cells #[.int .i64 a2_0, .int .i64 a2_1, .bool a2_2, .int .i64 a2_3, .int .i64 a2_4, .int .i64 a2_5, .string a2_6] 49 (0, 0)) (by (with_reducible repeat (first | refine blk_drewN ?_ _ | refine blk_drew ?_ | refine blk_alloc ?_ _)); exact BK130.out) hb); have n3_ := Aside0.mk (below_step (by repeat (first | (with_reducible first | exact HB.out | apply below_alloc | apply pw_below_drewN | apply below_drew1 | refine below_set ?_ GE130.out) | exact HB.out)) hb); have n4_ := Aside0.mk (hbox); have n5_ := Aside0.mk ((by rw [hg]; exact (below_size (by repeat (first | (with_reducible first | exact HB.out | apply below_alloc | apply pw_below_drewN | apply below_drew1 | refine below_set ?_ GE130.out) | exact HB.out))) : w.heap.size ≤ gb147)); have n6_ := Aside0.mk ((by rw [hg]; exact (below_size (by repeat (first | (with_reducible first | exact HB.out | apply below_alloc | apply pw_below_drewN | apply below_drew1 | refine below_set ?_ GE130.out) | exact HB.out))) : w.heap.size ≤ gb147)); have n7_ := Aside0.mk ((by rw [hg]; exact Nat.ne_of_lt (blk_lt (g := gb130) (o := .cells #[.int .i64 a2_0, .int .i64 a2_1, .bool a2_2, .int .i64 a2_3, .int .i64 a2_4, .int .i64 a2_5, .string a2_6] 49 (0, 0)) (by (with_reducible repeat (first | refine blk_drewN ?_ _ | refine blk_drew ?_ | refine blk_alloc ?_ _)); exact BK130.out)) : gb130 ≠ gb147)); have n8_ := Aside0.mk ((by rw [hg]; exact Nat.ne_of_gt (blk_lt (g := gb130) (o := .cells #[.int .i64 a2_0, .int .i64 a2_1, .bool a2_2, .int .i64 a2_3, .int .i64 a2_4, .int .i64 a2_5, .string a2_6] 49 (0, 0)) (by (with_reducible repeat (first | refine blk_drewN ?_ _ | refine blk_drew ?_ | refine blk_alloc ?_ _)); exact BK130.out)) : gb147 ≠ gb130)); clear HO_10; clear HO_54; clear BK130; clear HB; have HO_10 := n0_; have HO_54 := n1_; have BK130 := n2_; have HB := n3_; have BK147 := n4_; have GW147 := n5_; have GE147 := n6_; have NB130_147 := n7_; have NB147_130 := n8_; clear n0_ n1_ n2_ n3_ n4_ n5_ n6_ n7_ n8_; clear hb hbox hg; have hnb62 := NB147_130.out; have hnc62 := NB130_147.out; have hcz63_0 : w61.cell? ⟨gb147, 0, none⟩ = some (.int .i64 0) := (blk_cell BK147.out 0).trans rfl; have hcz63_1 : w61.cell? ⟨gb147, 1, none⟩ = some (.int .i64 0) := (blk_cell BK147.out 1).trans rfl; have hcz63_2 : w61.cell? ⟨gb147, 2, none⟩ = some (.bool false) := (blk_cell BK147.out 2).trans rfl; have hcz63_3 : w61.cell? ⟨gb147, 3, none⟩ = some (.int .i64 0) := (blk_cell BK147.out 3).trans rfl; have hcz63_4 : w61.cell? ⟨gb147, 4, none⟩ = some (.int .i64 0) := (blk_cell BK147.out 4).trans rfl; have hcz63_5 : w61.cell? ⟨gb147, 5, none⟩ = some (.int .i64 0) := (blk_cell BK147.out 5).trans rfl; have hcz63_6 : w61.cell? ⟨gb147, 6, none⟩ = some (.string (⟨#[]⟩ : ByteArray)) := (blk_cell BK147.out 6).trans rfl; have hfz63_0 := blk_frozen BK147.out 0; have hfz63_1 := blk_frozen BK147.out 1; have hfz63_2 := blk_frozen BK147.out 2; have hfz63_3 := blk_frozen BK147.out 3; have hfz63_4 := blk_frozen BK147.out 4; have hfz63_5 := blk_frozen BK147.out 5; have hfz63_6 := blk_frozen BK147.out 6; have p148 : 0 ≤ ((rd t136 x56_2) : Int) := of_decide_eq_true (by first | (with_reducible assumption) | assumption); have q148 : (rd t136 x56_2) < (l0.length : Int) := of_decide_eq_true (by first | (with_reducible assumption) | assumption); obtain ⟨ad148, A148_3, c148_3, e148, hx148_0, hx148_1, hx148_2, hx148_3, hl148_3, hi148_3⟩ := at_T54 HR0.out (rd t136 x56_2) p148 q148; (try rw [← Nbq37.out] at hx148_2); obtain rfl : ad134 = ad148 := (by injection e148); have hn148_0 : ad134.block ≠ gb147 := Nat.ne_of_lt (Nat.lt_of_lt_of_le (by have := World.block_lt_of_cell? _ _ hx148_0; first | rwa [add_block] at this | exact this) GW147.out); have hn148_1 : ad134.block ≠ gb147 := Nat.ne_of_lt (Nat.lt_of_lt_of_le (by have := World.block_lt_of_cell? _ _ hx148_0; first | rwa [add_block] at this | exact this) GW147.out); have hn148_2 : ad134.block ≠ gb147 := Nat.ne_of_lt (Nat.lt_of_lt_of_le (by have := World.block_lt_of_cell? _ _ hx148_0; first | rwa [add_block] at this | exact this) GW147.out); have hn148_3 : ad134.block ≠ gb147 := Nat.ne_of_lt (Nat.lt_of_lt_of_le (by have := World.block_lt_of_cell? _ _ hx148_0; first | rwa [add_block] at this | exact this) GW147.out); have hn148_4 : ad134.block ≠ gb147 := Nat.ne_of_lt (Nat.lt_of_lt_of_le (by have := World.block_lt_of_cell? _ _ hx148_0; first | rwa [add_block] at this | exact this) GW147.out); have hn148_5 : ad134.block ≠ gb147 := Nat.ne_of_lt (Nat.lt_of_lt_of_le (by have := World.block_lt_of_cell? _ _ hx148_0; first | rwa [add_block] at this | exact this) GW147.out); have hn148_6 : ad134.block ≠ gb147 := Nat.ne_of_lt (Nat.lt_of_lt_of_le (by have := World.block_lt_of_cell? _ _ hx148_0; first | rwa [add_block] at this | exact this) GW147.out); replace hx148_0 := (HB.out.cell (World.block_lt_of_cell? w _ hx148_0)).trans hx148_0; replace hx148_1 := (HB.out.cell (World.block_lt_of_cell? w _ hx148_1)).trans hx148_1; replace hx148_2 := (HB.out.cell (World.block_lt_of_cell? w _ hx148_2)).trans hx148_2; replace hx148_3 := (HB.out.cell (World.block_lt_of_cell? w _ hx148_3)).trans hx148_3; have HR148_3 := Aside0.mk hi148_3; have HC148_3 := Aside0.mk hl148_3; clear hi148_3 hl148_3; replace hx148_0 := (cell_far (p := ⟨gb147, 0, none⟩) (by first | (rw [add_block]; exact hn148_0) | (show (Addr.add _ _).block ≠ _; rw [add_block]; exact hn148_0) | exact hn148_0) (.int .i64 t140)).trans hx148_0; replace hx148_1 := (cell_far (p := ⟨gb147, 0, none⟩) (by first | (rw [add_block]; exact hn148_0) | (show (Addr.add _ _).block ≠ _; rw [add_block]; exact hn148_0) | exact hn148_0) (.int .i64 t140)).trans hx148_1; replace hx148_2 := (cell_far (p := ⟨gb147, 0, none⟩) (by first | (rw [add_block]; exact hn148_0) | (show (Addr.add _ _).block ≠ _; rw [add_block]; exact hn148_0) | exact hn148_0) (.int .i64 t140)).trans hx148_2; replace hx148_3 := (cell_far (p := ⟨gb147, 0, none⟩) (by first | (rw [add_block]; exact hn148_0) | (show (Addr.add _ _).block ≠ _; rw [add_block]; exact hn148_0) | exact hn148_0) (.int .i64 t140)).trans hx148_3; replace hx148_0 := (cell_far (p := ⟨gb147, 1, none⟩) (by first | (rw [add_block]; exact hn148_1) | (show (Addr.add _ _).block ≠ _; rw [add_block]; exact hn148_1) | exact hn148_1) (.int .i64 t141)).trans hx148_0; replace hx148_1 := (cell_far (p := ⟨gb147, 1, none⟩) (by first | (rw [add_block]; exact hn148_1) | (show (Addr.add _ _).block ≠ _; rw [add_block]; exact hn148_1) | exact hn148_1) (.int .i64 t141)).trans hx148_1; replace hx148_2 := (cell_far (p := ⟨gb147, 1, none⟩) (by first | (rw [add_block]; exact hn148_1) | (show (Addr.add _ _).block ≠ _; rw [add_block]; exact hn148_1) | exact hn148_1) (.int .i64 t141)).trans hx148_2; replace hx148_3 := (cell_far (p := ⟨gb147, 1, none⟩) (by first | (rw [add_block]; exact hn148_1) | (show (Addr.add _ _).block ≠ _; rw [add_block]; exact hn148_1) | exact hn148_1) (.int .i64 t141)).trans hx148_3; replace hx148_0 := (cell_far (p := ⟨gb147, 2, none⟩) (by first | (rw [add_block]; exact hn148_2) | (show (Addr.add _ _).block ≠ _; rw [add_block]; exact hn148_2) | exact hn148_2) (.bool t142)).trans hx148_0; replace hx148_1 := (cell_far (p := ⟨gb147, 2, none⟩) (by first | (rw [add_block]; exact hn148_2) | (show (Addr.add _ _).block ≠ _; rw [add_block]; exact hn148_2) | exact hn148_2) (.bool t142)).trans hx148_1; replace hx148_2 := (cell_far (p := ⟨gb147, 2, none⟩) (by first | (rw [add_block]; exact hn148_2) | (show (Addr.add _ _).block ≠ _; rw [add_block]; exact hn148_2) | exact hn148_2) (.bool t142)).trans hx148_2; replace hx148_3 := (cell_far (p := ⟨gb147, 2, none⟩) (by first | (rw [add_block]; exact hn148_2) | (show (Addr.add _ _).block ≠ _; rw [add_block]; exact hn148_2) | exact hn148_2) (.bool t142)).trans hx148_3; replace hx148_0 := (cell_far (p := ⟨gb147, 3, none⟩) (by first | (rw [add_block]; exact hn148_3) | (show (Addr.add _ _).block ≠ _; rw [add_block]; exact hn148_3) | exact hn148_3) (.int .i64 t143)).trans hx148_0; replace hx148_1 := (cell_far (p := ⟨gb147, 3, none⟩) (by first | (rw [add_block]; exact hn148_3) | (show (Addr.add _ _).block ≠ _; rw [add_block]; exact hn148_3) | exact hn148_3) (.int .i64 t143)).trans hx148_1; replace hx148_2 := (cell_far (p := ⟨gb147, 3, none⟩) (by first | (rw [add_block]; exact hn148_3) | (show (Addr.add _ _).block ≠ _; rw [add_block]; exact hn148_3) | exact hn148_3) (.int .i64 t143)).trans hx148_2; replace hx148_3 := (cell_far (p := ⟨gb147, 3, none⟩) (by first | (rw [add_block]; exact hn148_3) | (show (Addr.add _ _).block ≠ _; rw [add_block]; exact hn148_3) | exact hn148_3) (.int .i64 t143)).trans hx148_3; replace hx148_0 := (cell_far (p := ⟨gb147, 4, none⟩) (by first | (rw [add_block]; exact hn148_4) | (show (Addr.add _ _).block ≠ _; rw [add_block]; exact hn148_4) | exact hn148_4) (.int .i64 t144)).trans hx148_0; replace hx148_1 := (cell_far (p := ⟨gb147, 4, none⟩) (by first | (rw [add_block]; exact hn148_4) | (show (Addr.add _ _).block ≠ _; rw [add_block]; exact hn148_4) | exact hn148_4) (.int .i64 t144)).trans hx148_1; replace hx148_2 := (cell_far (p := ⟨gb147, 4, none⟩) (by first | (rw [add_block]; exact hn148_4) | (show (Addr.add _ _).block ≠ _; rw [add_block]; exact hn148_4) | exact hn148_4) (.int .i64 t144)).trans hx148_2; replace hx148_3 := (cell_far (p := ⟨gb147, 4, none⟩) (by first | (rw [add_block]; exact hn148_4) | (show (Addr.add _ _).block ≠ _; rw [add_block]; exact hn148_4) | exact hn148_4) (.int .i64 t144)).trans hx148_3; replace hx148_0 := (cell_far (p := ⟨gb147, 5, none⟩) (by first | (rw [add_block]; exact hn148_5) | (show (Addr.add _ _).block ≠ _; rw [add_block]; exact hn148_5) | exact hn148_5) (.int .i64 t145)).trans hx148_0; replace hx148_1 := (cell_far (p := ⟨gb147, 5, none⟩) (by first | (rw [add_block]; exact hn148_5) | (show (Addr.add _ _).block ≠ _; rw [add_block]; exact hn148_5) | exact hn148_5) (.int .i64 t145)).trans hx148_1; replace hx148_2 := (cell_far (p := ⟨gb147, 5, none⟩) (by first | (rw [add_block]; exact hn148_5) | (show (Addr.add _ _).block ≠ _; rw [add_block]; exact hn148_5) | exact hn148_5) (.int .i64 t145)).trans hx148_2; replace hx148_3 := (cell_far (p := ⟨gb147, 5, none⟩) (by first | (rw [add_block]; exact hn148_5) | (show (Addr.add _ _).block ≠ _; rw [add_block]; exact hn148_5) | exact hn148_5) (.int .i64 t145)).trans hx148_3; replace hx148_0 := (cell_far (p := ⟨gb147, 6, none⟩) (by first | (rw [add_block]; exact hn148_6) | (show (Addr.add _ _).block ≠ _; rw [add_block]; exact hn148_6) | exact hn148_6) (.string t146)).trans hx148_0; replace hx148_1 := (cell_far (p := ⟨gb147, 6, none⟩) (by first | (rw [add_block]; exact hn148_6) | (show (Addr.add _ _).block ≠ _; rw [add_block]; exact hn148_6) | exact hn148_6) (.string t146)).trans hx148_1; replace hx148_2 := (cell_far (p := ⟨gb147, 6, none⟩) (by first | (rw [add_block]; exact hn148_6) | (show (Addr.add _ _).block ≠ _; rw [add_block]; exact hn148_6) | exact hn148_6) (.string t146)).trans hx148_2; replace hx148_3 := (cell_far (p := ⟨gb147, 6, none⟩) (by first | (rw [add_block]; exact hn148_6) | (show (Addr.add _ _).block ≠ _; rw [add_block]; exact hn148_6) | exact hn148_6) (.string t146)).trans hx148_3; clear hn148_0; clear hn148_1; clear hn148_2; clear hn148_3; clear hn148_4; clear hn148_5; clear hn148_6; replace p148 := eq_true p148; replace q148 := eq_true q148) | ((with_reducible refine gate_builtin (b := .append) (xs := #[.tmp 81, .tmp 85]) rfl ?_); (try (refine gate_guard (by rfl) ?_; dsimp only)); at_builtin; refine Kd.R_append k63 (w0 := w) w.heap.size rfl (.tmp 81) (.tmp 85) 55 63 (.agg #[(.int .i64 0), (.int .i64 0), (.int .i64 0), (.bool false), (.int .i64 0), (.int .i64 0), (.int .i64 0), (.string ⟨#[]⟩)]) 72 rfl Try.underlying55 info63 rfl (by decide) (by omega) u10 x10_2 (⟨rd t136 x56_2, (⟨t140, t141, t142, t143, t144, t145, t146⟩ : S49)⟩ : S63) [.int .i64 (rd t136 x56_2), .int .i64 t140, .int .i64 t141, .bool t142, .int .i64 t143, .int .i64 t144, .int .i64 t145, .string t146] (fun _ => True) (fun _ => False) rfl (by first | (go_simp; done) | (go_simp; rfl)) ?aP (fun _ hk => hk.elim) ?aF ?aO ?aB ?aS ?aL ?_; (case aP => exact k63_mkM _ _ _ (⟨rd t136 x56_2, (⟨t140, t141, t142, t143, t144, t145, t146⟩ : S49)⟩ : S63)); (case aB => exact (by repeat (first | (with_reducible first | exact HB.out | apply below_alloc | apply pw_below_drewN | apply below_drew1 | refine below_set ?_ GE130.out | refine below_set ?_ GE147.out) | exact HB.out))); (case aF => exact (fun _ _ => trivial)); (case aO => exact (by (with_reducible repeat (first | apply Kd.R_alloc | apply Kd.R_drewN | apply Kd.R_drew)); exact Kd.R_mono (Kd.R_far (p := ⟨gb147, 6, none⟩) (Kd.R_far (p := ⟨gb147, 5, none⟩) (Kd.R_far (p := ⟨gb147, 4, none⟩) (Kd.R_far (p := ⟨gb147, 3, none⟩) (Kd.R_far (p := ⟨gb147, 2, none⟩) (Kd.R_far (p := ⟨gb147, 1, none⟩) (Kd.R_far (p := ⟨gb147, 0, none⟩) (Kd.R_types HO_10.out BK147.out (by decide)) (fun _ hk => hk.2) (.int .i64 t140)) (fun _ hk => hk.2) (.int .i64 t141)) (fun _ hk => hk.2) (.bool t142)) (fun _ hk => hk.2) (.int .i64 t143)) (fun _ hk => hk.2) (.int .i64 t144)) (fun _ hk => hk.2) (.int .i64 t145)) (fun _ hk => hk.2) (.string t146)) (fun _ hk => trivial))); (case aS => exact (below_size (by repeat (first | (with_reducible first | exact HB.out | apply below_alloc | apply pw_below_drewN | apply below_drew1 | refine below_set ?_ GE130.out | refine below_set ?_ GE147.out) | exact HB.out)))); (case aL => have := LMc58.out; omega); intro v164 w64 ho hb hg hat; rw [← Ny163.out] at ho; have n0_ := Aside0.mk (Kd.R_over' (by (with_reducible repeat (first | apply Kd.R_alloc | apply Kd.R_drewN | apply Kd.R_drew)); exact (Kd.R_mono (Kd.R_far (p := ⟨gb147, 6, none⟩) (Kd.R_far (p := ⟨gb147, 5, none⟩) (Kd.R_far (p := ⟨gb147, 4, none⟩) (Kd.R_far (p := ⟨gb147, 3, none⟩) (Kd.R_far (p := ⟨gb147, 2, none⟩) (Kd.R_far (p := ⟨gb147, 1, none⟩) (Kd.R_far (p := ⟨gb147, 0, none⟩) (Kd.R_types HO_54.out BK147.out (by decide)) (fun _ hk => hk.2) (.int .i64 t140)) (fun _ hk => hk.2) (.int .i64 t141)) (fun _ hk => hk.2) (.bool t142)) (fun _ hk => hk.2) (.int .i64 t143)) (fun _ hk => hk.2) (.int .i64 t144)) (fun _ hk => hk.2) (.int .i64 t145)) (fun _ hk => hk.2) (.string t146)) (fun _ h_ => h_.1))) (Kd.R_typed (by (with_reducible repeat (first | apply Kd.R_alloc | apply Kd.R_drewN | apply Kd.R_drew)); exact (Kd.R_mono (Kd.R_far (p := ⟨gb147, 6, none⟩) (Kd.R_far (p := ⟨gb147, 5, none⟩) (Kd.R_far (p := ⟨gb147, 4, none⟩) (Kd.R_far (p := ⟨gb147, 3, none⟩) (Kd.R_far (p := ⟨gb147, 2, none⟩) (Kd.R_far (p := ⟨gb147, 1, none⟩) (Kd.R_far (p := ⟨gb147, 0, none⟩) (Kd.R_types HO_10.out BK147.out (by decide)) (fun _ hk => hk.2) (.int .i64 t140)) (fun _ hk => hk.2) (.int .i64 t141)) (fun _ hk => hk.2) (.bool t142)) (fun _ hk => hk.2) (.int .i64 t143)) (fun _ hk => hk.2) (.int .i64 t144)) (fun _ hk => hk.2) (.int .i64 t145)) (fun _ hk => hk.2) (.string t146)) (fun _ h_ => h_.1)))) (by decide) hg); have n1_ := Aside0.mk (blk_grown (g := gb130) (o := .cells #[.int .i64 a2_0, .int .i64 a2_1, .bool a2_2, .int .i64 a2_3, .int .i64 a2_4, .int .i64 a2_5, .string a2_6] 49 (0, 0)) (by (with_reducible repeat (first | refine blk_drewN ?_ _ | refine blk_drew ?_ | refine blk_alloc ?_ _)); refine blk_far ?_ NB130_147.out _; (with_reducible repeat (first | refine blk_drewN ?_ _ | refine blk_drew ?_ | refine blk_alloc ?_ _)); refine blk_far ?_ NB130_147.out _; (with_reducible repeat (first | refine blk_drewN ?_ _ | refine blk_drew ?_ | refine blk_alloc ?_ _)); refine blk_far ?_ NB130_147.out _; (with_reducible repeat (first | refine blk_drewN ?_ _ | refine blk_drew ?_ | refine blk_alloc ?_ _)); refine blk_far ?_ NB130_147.out _; (with_reducible repeat (first | refine blk_drewN ?_ _ | refine blk_drew ?_ | refine blk_alloc ?_ _)); refine blk_far ?_ NB130_147.out _; (with_reducible repeat (first | refine blk_drewN ?_ _ | refine blk_drew ?_ | refine blk_alloc ?_ _)); refine blk_far ?_ NB130_147.out _; (with_reducible repeat (first | refine blk_drewN ?_ _ | refine blk_drew ?_ | refine blk_alloc ?_ _)); refine blk_far ?_ NB130_147.out _; (with_reducible repeat (first | refine blk_drewN ?_ _ | refine blk_drew ?_ | refine blk_alloc ?_ _)); exact BK130.out) hg (Kd.R_ne HO_10.out BK130.out (by decide))); have n2_ := Aside0.mk (blk_grown (g := gb147) (o := .cells #[.int .i64 t140, .int .i64 t141, .bool t142, .int .i64 t143, .int .i64 t144, .int .i64 t145, .string t146] 49 (0, 0)) (by (with_reducible repeat (first | refine blk_drewN ?_ _ | refine blk_drew ?_ | refine blk_alloc ?_ _)); refine blk_put (cs := #[.int .i64 t140, .int .i64 t141, .bool t142, .int .i64 t143, .int .i64 t144, .int .i64 t145, .string (⟨#[]⟩ : ByteArray)]) ?_ 6 _ rfl; (with_reducible repeat (first | refine blk_drewN ?_ _ | refine blk_drew ?_ | refine blk_alloc ?_ _)); refine blk_put (cs := #[.int .i64 t140, .int .i64 t141, .bool t142, .int .i64 t143, .int .i64 t144, .int .i64 0, .string (⟨#[]⟩ : ByteArray)]) ?_ 5 _ rfl; (with_reducible repeat (first | refine blk_drewN ?_ _ | refine blk_drew ?_ | refine blk_alloc ?_ _)); refine blk_put (cs := #[.int .i64 t140, .int .i64 t141, .bool t142, .int .i64 t143, .int .i64 0, .int .i64 0, .string (⟨#[]⟩ : ByteArray)]) ?_ 4 _ rfl; (with_reducible repeat (first | refine blk_drewN ?_ _ | refine blk_drew ?_ | refine blk_alloc ?_ _)); refine blk_put (cs := #[.int .i64 t140, .int .i64 t141, .bool t142, .int .i64 0, .int .i64 0, .int .i64 0, .string (⟨#[]⟩ : ByteArray)]) ?_ 3 _ rfl; (with_reducible repeat (first | refine blk_drewN ?_ _ | refine blk_drew ?_ | refine blk_alloc ?_ _)); refine blk_put (cs := #[.int .i64 t140, .int .i64 t141, .bool false, .int .i64 0, .int .i64 0, .int .i64 0, .string (⟨#[]⟩ : ByteArray)]) ?_ 2 _ rfl; (with_reducible repeat (first | refine blk_drewN ?_ _ | refine blk_drew ?_ | refine blk_alloc ?_ _)); refine blk_put (cs := #[.int .i64 t140, .int .i64 0, .bool false, .int .i64 0, .int .i64 0, .int .i64 0, .string (⟨#[]⟩ : ByteArray)]) ?_ 1 _ rfl; (with_reducible repeat (first | refine blk_drewN ?_ _ | refine blk_drew ?_ | refine blk_alloc ?_ _)); refine blk_put (cs := #[.int .i64 0, .int .i64 0, .bool false, .int .i64 0, .int .i64 0, .int .i64 0, .string (⟨#[]⟩ : ByteArray)]) ?_ 0 _ rfl; (with_reducible repeat (first | refine blk_drewN ?_ _ | refine blk_drew ?_ | refine blk_alloc ?_ _)); exact BK147.out) hg (Kd.R_ne HO_10.out BK147.out (by decide))); have n3_ := Aside0.mk (hb); have n4_ := Aside0.mk (ho); clear HO_54; clear BK130; clear BK147; clear HB; clear HO_10; have HO_54 := n0_; have BK130 := n1_; have BK147 := n2_; have HB := n3_; have HO165 := n4_; clear n0_ n1_ n2_ n3_ n4_; clear ho hb hg hat))
                                go_roundg k2
                                case measure => have := HJ4.out; have := HK2.out; omega
                                case rel => exact ⟨(y163), (wrap64 (x56_2 + 1)), (by first | rfl | (simp; done) | (simp [*]; done)), H', ⟨by have := HJ4.out; have := HK2.out; omega⟩, ⟨by (with_reducible repeat (first | apply Kd.R_alloc | apply Kd.R_drewN | apply Kd.R_drew)); exact HO165.out⟩, ⟨by (with_reducible repeat (first | apply Kd.R_alloc | apply Kd.R_drewN | apply Kd.R_drew)); exact HO_54.out⟩, ⟨by (with_reducible repeat (first | refine blk_drewN ?_ _ | refine blk_drew ?_ | refine blk_alloc ?_ _)); exact BK130.out⟩, ⟨by repeat (first | (with_reducible first | exact HB.out | apply below_alloc | apply pw_below_drewN | apply below_drew1 | refine below_set ?_ GE130.out | refine below_set ?_ GE147.out) | exact HB.out)⟩⟩
                              · rw [if_neg c58] at H
                                exact absurd H (by simp)
                          · rw [if_neg c36] at H
                            exact absurd H (by simp)
                        · rw [if_neg c35] at H
                          exact absurd H (by simp)
                      · rw [if_neg c33] at H
                        exact absurd H (by simp)
                    · rw [if_neg c32] at H
                      exact absurd H (by simp)
                  · rw [if_neg c31] at H
                    have c31b0 : decide (x56_2 < (t136.length : Int)) = false := decide_eq_false c31
                    clear c31
                    obtain rfl := Option.some.inj H
                    go_wp2
                    go_ret
                    exact ⟨_, by first | rfl | (simp [errW_none, errW_some] <;> rfl) | (simp [*, errW_none, errW_some] <;> rfl), by (with_reducible repeat (first | apply Kd.R_alloc | apply Kd.R_drewN | apply Kd.R_drew)); exact HO_10.out, by repeat (first | (with_reducible first | exact HB.out | apply below_alloc | apply pw_below_drewN | apply below_drew1 | refine below_set ?_ GE130.out) | exact HB.out)⟩
          · rw [if_neg c20] at H
            exact absurd H (by simp)
        · rw [if_neg c19] at H
          exact absurd H (by simp)
end Go.Proofs.Ytjhkbmdblfdlnaa.QRel
