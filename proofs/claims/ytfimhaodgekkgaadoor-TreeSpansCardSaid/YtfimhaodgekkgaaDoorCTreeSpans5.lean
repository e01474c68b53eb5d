/- Functions of the program as plain Lean functions, what their calls do, and what follows of it. Conditions: each theorem's own. -/
import Derived.Test.YtfimhaodgekkgaaDoorCTreeSpans4
import Derived.Test.YtfimhaodgekkgaaDoorCards
import Derived.Test.YtfimhaodgekkgaaDoorProg
import Derived.Test.YtfimhaodgekkgaaDoorRows
import Derived.Test.YtfimhaodgekkgaaDoorTie
namespace Go.Proofs.YtfimhaodgekkgaaDoor.QSpn
open Go.RowKit Go.Proofs.YtfimhaodgekkgaaDoorW.PrintWords Go.Proofs.YtfimhaodgekkgaaDoorW.PrintLast Go.Proofs.YtfimhaodgekkgaaDoorW.PrintMore
attribute [local go_sem] max2_int min2_int max_two min_two max_three min_three max_four min_four
set_option linter.unusedVariables false
set_option linter.unusedSimpArgs false
def kissgateref12_Stands.l0 : Nat → List Int → List (S72) → List (S36) → List Bool → List (S72) → Int → Int → Option (List Bool)
  | 0, _, _, _, _, _, _, _ => none
  | k + 1, x0, x1, x5, x6, x12, x13, x14 => if x14 < x13 then (if 0 ≤ x14 then (if x14 < (x12.length : Int) then ((kissgateref12_leads.f k x0 x1 x5 ((rd_T72 x12 x14).f0) ((rd_T72 x12 x14).f1) ((rd_T72 x12 x14).f4) ((rd_T72 x12 x14).f2) ((rd_T72 x12 x14).f3)).bind fun t145 => (if t145 = true then (if x6.length < 140737488355328 then (kissgateref12_Stands.l0 k x0 x1 x5 (x6 ++ [true]) x12 x13 (wrap64 (x14 + 1))) else (none)) else ((kissgateref12_leads.f k x0 x1 x5 ((rd_T72 x12 x14).f2) ((rd_T72 x12 x14).f3) ((rd_T72 x12 x14).f5) ((rd_T72 x12 x14).f0) ((rd_T72 x12 x14).f1)).bind fun t149 => (if x6.length < 140737488355328 then (kissgateref12_Stands.l0 k x0 x1 x5 (x6 ++ [t149]) x12 x13 (wrap64 (x14 + 1))) else (none))))) else (none)) else (none)) else (some x6)
def kissgateref12_Stands.f (k : Nat) (l0 : List Int) (l1 : List (S72)) : Option (List Bool) := (kissgateref12_Hold.f k l0 l1).bind fun t140 => (kissgateref12_Stands.l0 k l0 l1 t140 ([] : List Bool) l1 (l1.length : Int) 0)
set_option maxHeartbeats 8000000 in
set_option maxRecDepth 100000 in
theorem kissgateref12_Stands.calls (k : Nat) (A0 : Option Addr) (c0 : Nat) (l0 : List Int) (A1 : Option Addr) (c1 : Nat) (l1 : List (S72)) (r : List Bool) (w : World) (hr0 : Kd.C (Kd.int .i64) w A0 l0.length l0) (hc0 : l0.length ≤ c0) (hr1 : Kd.C k72 w A1 l1.length l1) (hc1 : l1.length ≤ c1) (h : kissgateref12_Stands.f k l0 l1 = some r) :
    Calls Tryd.prog 9 #[.slice A0 l0.length c0, .slice A1 l1.length c1] w fun e w' => ∃ v0_ : Value, e = .returned (v0_) ∧ Kd.R Kd.bool 4 w' w.heap.size (fun _ => True) v0_ r ∧ Below w.heap.size w w' := by
  have hu72 := Tryd.underlying72
  have HR0 := Aside0.mk hr0
  have HC0 := Aside0.mk hc0
  clear hr0 hc0
  have HR1 := Aside0.mk hr1
  have HC1 := Aside0.mk hc1
  clear hr1 hc1
  have HB := Aside0.mk (Below.refl w.heap.size w)
  have H : ((kissgateref12_Hold.f k l0 l1).bind fun t140 => (kissgateref12_Stands.l0 k l0 l1 t140 ([] : List Bool) l1 (l1.length : Int) 0)) = some r := h
  clear h
  replace H := Option.bind_eq_some_iff.mp H
  obtain ⟨t140, A30, H⟩ := H
  replace H : (kissgateref12_Stands.l0 k l0 l1 t140 ([] : List Bool) l1 (l1.length : Int) 0) = some r := H
  have A3 := Aside0.mk A30
  clear A30
  have H' := Aside0.mk H
  clear H
  go_enter Tryd.func9, Tryd.ntmps9
  go_wp2_with (first | ((with_reducible refine gate_callee (f := 30) rfl ?_); refine goesL_ (some 11) rfl rfl Tryd.func30 (by kernel_rfl) rfl #[.slice A0 l0.length c0, .slice A1 l1.length c1] rfl (by (try simp only [List.map_toArray, List.map_cons, List.map_nil]); first | done | rfl | (simp only [List.length_drop, List.length_take]; rfl)) ?_; (with_reducible refine (kissgateref12_Hold.calls k _ _ l0 _ _ l1 t140 _ ?side1 ?side2 ?side3 ?side4 A3.out).mono ?_); (case side1 => repeat (first | exact HR0.out | (with_reducible refine Kd.C_alloc ?_ _) | (with_reducible refine Kd.C_drewN ?_ _) | (with_reducible refine Kd.C_drew ?_))); (case side2 => exact HC0.out); (case side3 => repeat (first | exact HR1.out | (with_reducible refine Kd.C_alloc ?_ _) | (with_reducible refine Kd.C_drewN ?_ _) | (with_reducible refine Kd.C_drew ?_))); (case side4 => exact HC1.out); rintro e w4 ⟨v141, rfl, ho0, hb⟩; refine ⟨_, rfl, ?_⟩; have n0_ := Aside0.mk (Kd.R_lower ho0 (below_size (by repeat (first | (with_reducible first | exact HB.out | apply below_alloc | apply pw_below_drewN | apply below_drew1) | exact HB.out)))); have n1_ := Aside0.mk (below_step (by repeat (first | (with_reducible first | exact HB.out | apply below_alloc | apply pw_below_drewN | apply below_drew1) | exact HB.out)) hb); clear HB; have HO142 := n0_; have HB := n1_; clear n0_ n1_; (try clear hb); (try clear hb2); (try clear hk); (try clear hi); (try clear ho0)))
  go_loopg [6, 14] k (fun kq v6 v14 w' => ∃ (x6_1 : List Bool) (x14_1 : Int), v14 = .int .i64 x14_1 ∧ Aside0 (kissgateref12_Stands.l0 kq l0 l1 t140 x6_1 l1 (l1.length : Int) x14_1 = some r) ∧ Aside0 (kq ≤ k) ∧ Aside0 (Kd.R k36 36 w' w.heap.size (fun _ => True) v141 t140) ∧ Aside0 (Kd.R Kd.bool 4 w' w.heap.size (fun _ => True) v6 x6_1) ∧ Aside0 (Below w.heap.size w w'))
  case atStart => exact ⟨(([] : List Bool)), (0), (by first | rfl | (simp; done) | (simp [*]; done)), H', ⟨Nat.le_refl _⟩, ⟨by (with_reducible repeat (first | apply Kd.R_alloc | apply Kd.R_drewN | apply Kd.R_drew)); exact HO142.out⟩, ⟨by first | exact Kd.R_nil _ _ _ _ _ | exact Kd.N_nil _ _ _ _ _ | exact Kd.V_nil _ _ _ _ _ | exact Kd.Q_nil _ _ _ _ _ | exact Kd.S_nil _ _ _ _ _⟩, ⟨by repeat (first | (with_reducible first | exact HB.out | apply below_alloc | apply pw_below_drewN | apply below_drew1) | exact HB.out)⟩⟩
  case round =>
    clear H'
    try clear c1
    try clear p2
    try clear c3
    obtain ⟨x6_1, x14_1, rfl, HA, HK1, HO_5, HO_6, HB⟩ := hrel
    cases gk with
    | zero => exact absurd HA.out (by simp [kissgateref12_Stands.l0])
    | succ k1 =>
      have H := HA.out
      clear HA
      simp only [kissgateref12_Stands.l0] at H
      by_cases c5 : x14_1 < (l1.length : Int)
      · rw [if_pos c5] at H
        have c5b0 : decide (x14_1 < (l1.length : Int)) = true := decide_eq_true c5
        clear c5
        by_cases c6 : 0 ≤ x14_1
        · rw [if_pos c6] at H
          have c6b0 : decide (0 ≤ x14_1) = true := decide_eq_true c6
          clear c6
          by_cases c7 : x14_1 < (l1.length : Int)
          · rw [if_pos c7] at H
            have c7b0 : decide (x14_1 < (l1.length : Int)) = true := decide_eq_true c7
            clear c7
            replace H := Option.bind_eq_some_iff.mp H
            obtain ⟨t145, A80, H⟩ := H
            replace H : (if t145 = true then (if x6_1.length < 140737488355328 then (kissgateref12_Stands.l0 k1 l0 l1 t140 (x6_1 ++ [true]) l1 (l1.length : Int) (wrap64 (x14_1 + 1))) else (none)) else ((kissgateref12_leads.f k1 l0 l1 t140 ((rd_T72 l1 x14_1).f2) ((rd_T72 l1 x14_1).f3) ((rd_T72 l1 x14_1).f5) ((rd_T72 l1 x14_1).f0) ((rd_T72 l1 x14_1).f1)).bind fun t149 => (if x6_1.length < 140737488355328 then (kissgateref12_Stands.l0 k1 l0 l1 t140 (x6_1 ++ [t149]) l1 (l1.length : Int) (wrap64 (x14_1 + 1))) else (none)))) = some r := H
            have A8 := Aside0.mk A80
            clear A80
            by_cases c9 : t145 = true
            · subst c9
              have H1 : (if x6_1.length < 140737488355328 then (kissgateref12_Stands.l0 k1 l0 l1 t140 (x6_1 ++ [true]) l1 (l1.length : Int) (wrap64 (x14_1 + 1))) else (none)) = some r := by rw [if_pos rfl] at H; exact H
              clear H
              have H := H1
              clear H1
              by_cases c10 : x6_1.length < 140737488355328
              · rw [if_pos c10] at H
                have LMc10 := Aside0.mk c10
                clear c10
                obtain ⟨y146, hy146⟩ : ∃ y_ : List Bool, y_ = (x6_1 ++ [true]) := ⟨_, rfl⟩
                replace H : (kissgateref12_Stands.l0 k1 l0 l1 t140 y146 l1 (l1.length : Int) (wrap64 (x14_1 + 1))) = some r := by first | (rw [hy146]; with_reducible exact H) | (have H2_ := (Option.bind_some _ _).symm.trans H; rw [hy146]; with_reducible exact H2_) | (have H2_ := (Option.bind_some _ _).symm.trans H; with_reducible exact H2_) | with_reducible exact H | (rw [hy146]; exact H) | exact H
                have Ny146 := Aside0.mk hy146
                clear hy146
                have H' := Aside0.mk H
                clear H
                have p143 : 0 ≤ (x14_1 : Int) := of_decide_eq_true (by first | (with_reducible assumption) | assumption)
                have q143 : x14_1 < (l1.length : Int) := of_decide_eq_true (by first | (with_reducible assumption) | assumption)
                obtain ⟨ad143, e143, hx143_0, hx143_1, hx143_2, hx143_3, hx143_4, hx143_5⟩ := at_T72 HR1.out x14_1 p143 q143
                cases e143
                replace hx143_0 := (HB.out.cell (World.block_lt_of_cell? w _ hx143_0)).trans hx143_0
                replace hx143_1 := (HB.out.cell (World.block_lt_of_cell? w _ hx143_1)).trans hx143_1
                replace hx143_2 := (HB.out.cell (World.block_lt_of_cell? w _ hx143_2)).trans hx143_2
                replace hx143_3 := (HB.out.cell (World.block_lt_of_cell? w _ hx143_3)).trans hx143_3
                replace hx143_4 := (HB.out.cell (World.block_lt_of_cell? w _ hx143_4)).trans hx143_4
                replace hx143_5 := (HB.out.cell (World.block_lt_of_cell? w _ hx143_5)).trans hx143_5
                replace p143 := eq_true p143
                replace q143 := eq_true q143
                go_wp2_with (first | ((with_reducible refine gate_dst (N := 8) rfl ?_); refine box_event ?hg (N := 8) ?hd (cs := #[.int .i64 0, .int .i64 0, .int .i64 0, .int .i64 0, .int .i64 0, .int .i64 0]) (t := 72) ?hr ?_; (case hd => rfl); (case hg => rfl); (case hr => first | (go_simp; done) | (go_simp; rfl)); intro gb144 hg w11 hbox hb; have n0_ := Aside0.mk (Kd.R_below (by (with_reducible repeat (first | apply Kd.R_alloc | apply Kd.R_drewN | apply Kd.R_drew)); exact HO_5.out) hb); have n1_ := Aside0.mk (Kd.R_below (by (with_reducible repeat (first | apply Kd.R_alloc | apply Kd.R_drewN | apply Kd.R_drew)); exact HO_6.out) hb); have n2_ := Aside0.mk (below_step (by repeat (first | (with_reducible first | exact HB.out | apply below_alloc | apply pw_below_drewN | apply below_drew1) | exact HB.out)) hb); have n3_ := Aside0.mk (hbox); have n4_ := Aside0.mk ((by rw [hg]; exact (below_size (by repeat (first | (with_reducible first | exact HB.out | apply below_alloc | apply pw_below_drewN | apply below_drew1) | exact HB.out))) : w.heap.size ≤ gb144)); have n5_ := Aside0.mk ((by rw [hg]; exact (below_size (by repeat (first | (with_reducible first | exact HB.out | apply below_alloc | apply pw_below_drewN | apply below_drew1) | exact HB.out))) : w.heap.size ≤ gb144)); clear HO_5; clear HO_6; clear HB; have HO_5 := n0_; have HO_6 := n1_; have HB := n2_; have BK144 := n3_; have GW144 := n4_; have GE144 := n5_; clear n0_ n1_ n2_ n3_ n4_ n5_; clear hb hbox hg; have hcz12_0 : w11.cell? ⟨gb144, 0, none⟩ = some (.int .i64 0) := (blk_cell BK144.out 0).trans rfl; have hcz12_1 : w11.cell? ⟨gb144, 1, none⟩ = some (.int .i64 0) := (blk_cell BK144.out 1).trans rfl; have hcz12_2 : w11.cell? ⟨gb144, 2, none⟩ = some (.int .i64 0) := (blk_cell BK144.out 2).trans rfl; have hcz12_3 : w11.cell? ⟨gb144, 3, none⟩ = some (.int .i64 0) := (blk_cell BK144.out 3).trans rfl; have hcz12_4 : w11.cell? ⟨gb144, 4, none⟩ = some (.int .i64 0) := (blk_cell BK144.out 4).trans rfl; have hcz12_5 : w11.cell? ⟨gb144, 5, none⟩ = some (.int .i64 0) := (blk_cell BK144.out 5).trans rfl; have hfz12_0 := blk_frozen BK144.out 0; have hfz12_1 := blk_frozen BK144.out 1; have hfz12_2 := blk_frozen BK144.out 2; have hfz12_3 := blk_frozen BK144.out 3; have hfz12_4 := blk_frozen BK144.out 4; have hfz12_5 := blk_frozen BK144.out 5; obtain ⟨Ao13, co13, eo13⟩ := Kd.R_slice HO_5.out; subst eo13) | ((with_reducible refine gate_callee (f := 31) rfl ?_); refine goesL_ (some 32) rfl rfl Tryd.func31 (by kernel_rfl) rfl #[.slice A0 l0.length c0, .slice (some ad143) l1.length c1, .slice Ao13 t140.length co13, .int .i64 ((rd_T72 l1 x14_1).f0), .int .i64 ((rd_T72 l1 x14_1).f1), .int .i64 ((rd_T72 l1 x14_1).f4), .int .i64 ((rd_T72 l1 x14_1).f2), .int .i64 ((rd_T72 l1 x14_1).f3)] rfl (by (try simp only [List.map_toArray, List.map_cons, List.map_nil]); first | done | rfl | (simp only [List.length_drop, List.length_take]; rfl)) ?_; (with_reducible refine (kissgateref12_leads.calls k1 _ _ l0 _ _ l1 _ _ t140 ((rd_T72 l1 x14_1).f0) ((rd_T72 l1 x14_1).f1) ((rd_T72 l1 x14_1).f4) ((rd_T72 l1 x14_1).f2) ((rd_T72 l1 x14_1).f3) true _ ?side1 ?side2 ?side3 ?side4 ?side5 ?side6 A8.out).mono ?_); (case side1 => exact Kd.C_below HR0.out (by repeat (first | (with_reducible first | exact HB.out | apply below_alloc | apply pw_below_drewN | apply below_drew1 | refine below_set ?_ GE144.out) | exact HB.out))); (case side2 => exact HC0.out); (case side3 => exact Kd.C_below HR1.out (by repeat (first | (with_reducible first | exact HB.out | apply below_alloc | apply pw_below_drewN | apply below_drew1 | refine below_set ?_ GE144.out) | exact HB.out))); (case side4 => exact HC1.out); (case side5 => refine (Kd.R_reads' (e := 36) (base := w.heap.size) (ok := fun k_ => True) (n := t140.length) (c := co13) ?_).2.2; exact (by (with_reducible repeat (first | apply Kd.R_alloc | apply Kd.R_drewN | apply Kd.R_drew)); exact (Kd.R_mono (Kd.R_far (p := ⟨gb144, 5, none⟩) (Kd.R_far (p := ⟨gb144, 4, none⟩) (Kd.R_far (p := ⟨gb144, 3, none⟩) (Kd.R_far (p := ⟨gb144, 2, none⟩) (Kd.R_far (p := ⟨gb144, 1, none⟩) (Kd.R_far (p := ⟨gb144, 0, none⟩) (Kd.R_types HO_5.out BK144.out (by decide)) (fun _ hk => hk.2) (.int .i64 ((rd_T72 l1 x14_1).f0))) (fun _ hk => hk.2) (.int .i64 ((rd_T72 l1 x14_1).f1))) (fun _ hk => hk.2) (.int .i64 ((rd_T72 l1 x14_1).f2))) (fun _ hk => hk.2) (.int .i64 ((rd_T72 l1 x14_1).f3))) (fun _ hk => hk.2) (.int .i64 ((rd_T72 l1 x14_1).f4))) (fun _ hk => hk.2) (.int .i64 ((rd_T72 l1 x14_1).f5))) (fun _ h_ => h_.1)))); (case side6 => exact (Kd.R_reads' HO_5.out).2.1); rintro e w14 ⟨rfl, hb⟩; refine ⟨_, rfl, ?_⟩; have n0_ := Aside0.mk (Kd.R_below (by (with_reducible repeat (first | apply Kd.R_alloc | apply Kd.R_drewN | apply Kd.R_drew)); exact (Kd.R_mono (Kd.R_far (p := ⟨gb144, 5, none⟩) (Kd.R_far (p := ⟨gb144, 4, none⟩) (Kd.R_far (p := ⟨gb144, 3, none⟩) (Kd.R_far (p := ⟨gb144, 2, none⟩) (Kd.R_far (p := ⟨gb144, 1, none⟩) (Kd.R_far (p := ⟨gb144, 0, none⟩) (Kd.R_types HO_5.out BK144.out (by decide)) (fun _ hk => hk.2) (.int .i64 ((rd_T72 l1 x14_1).f0))) (fun _ hk => hk.2) (.int .i64 ((rd_T72 l1 x14_1).f1))) (fun _ hk => hk.2) (.int .i64 ((rd_T72 l1 x14_1).f2))) (fun _ hk => hk.2) (.int .i64 ((rd_T72 l1 x14_1).f3))) (fun _ hk => hk.2) (.int .i64 ((rd_T72 l1 x14_1).f4))) (fun _ hk => hk.2) (.int .i64 ((rd_T72 l1 x14_1).f5))) (fun _ h_ => h_.1))) hb); have n1_ := Aside0.mk (Kd.R_below (by (with_reducible repeat (first | apply Kd.R_alloc | apply Kd.R_drewN | apply Kd.R_drew)); exact (Kd.R_mono (Kd.R_far (p := ⟨gb144, 5, none⟩) (Kd.R_far (p := ⟨gb144, 4, none⟩) (Kd.R_far (p := ⟨gb144, 3, none⟩) (Kd.R_far (p := ⟨gb144, 2, none⟩) (Kd.R_far (p := ⟨gb144, 1, none⟩) (Kd.R_far (p := ⟨gb144, 0, none⟩) (Kd.R_types HO_6.out BK144.out (by decide)) (fun _ hk => hk.2) (.int .i64 ((rd_T72 l1 x14_1).f0))) (fun _ hk => hk.2) (.int .i64 ((rd_T72 l1 x14_1).f1))) (fun _ hk => hk.2) (.int .i64 ((rd_T72 l1 x14_1).f2))) (fun _ hk => hk.2) (.int .i64 ((rd_T72 l1 x14_1).f3))) (fun _ hk => hk.2) (.int .i64 ((rd_T72 l1 x14_1).f4))) (fun _ hk => hk.2) (.int .i64 ((rd_T72 l1 x14_1).f5))) (fun _ h_ => h_.1))) hb); have n2_ := Aside0.mk (blk_below (g := gb144) (o := .cells #[.int .i64 ((rd_T72 l1 x14_1).f0), .int .i64 ((rd_T72 l1 x14_1).f1), .int .i64 ((rd_T72 l1 x14_1).f2), .int .i64 ((rd_T72 l1 x14_1).f3), .int .i64 ((rd_T72 l1 x14_1).f4), .int .i64 ((rd_T72 l1 x14_1).f5)] 72 (0, 0)) (by (with_reducible repeat (first | refine blk_drewN ?_ _ | refine blk_drew ?_ | refine blk_alloc ?_ _)); refine blk_put (cs := #[.int .i64 ((rd_T72 l1 x14_1).f0), .int .i64 ((rd_T72 l1 x14_1).f1), .int .i64 ((rd_T72 l1 x14_1).f2), .int .i64 ((rd_T72 l1 x14_1).f3), .int .i64 ((rd_T72 l1 x14_1).f4), .int .i64 0]) ?_ 5 _ rfl; (with_reducible repeat (first | refine blk_drewN ?_ _ | refine blk_drew ?_ | refine blk_alloc ?_ _)); refine blk_put (cs := #[.int .i64 ((rd_T72 l1 x14_1).f0), .int .i64 ((rd_T72 l1 x14_1).f1), .int .i64 ((rd_T72 l1 x14_1).f2), .int .i64 ((rd_T72 l1 x14_1).f3), .int .i64 0, .int .i64 0]) ?_ 4 _ rfl; (with_reducible repeat (first | refine blk_drewN ?_ _ | refine blk_drew ?_ | refine blk_alloc ?_ _)); refine blk_put (cs := #[.int .i64 ((rd_T72 l1 x14_1).f0), .int .i64 ((rd_T72 l1 x14_1).f1), .int .i64 ((rd_T72 l1 x14_1).f2), .int .i64 0, .int .i64 0, .int .i64 0]) ?_ 3 _ rfl; (with_reducible repeat (first | refine blk_drewN ?_ _ | refine blk_drew ?_ | refine blk_alloc ?_ _)); refine blk_put (cs := #[.int .i64 ((rd_T72 l1 x14_1).f0), .int .i64 ((rd_T72 l1 x14_1).f1), .int .i64 0, .int .i64 0, .int .i64 0, .int .i64 0]) ?_ 2 _ rfl; (with_reducible repeat (first | refine blk_drewN ?_ _ | refine blk_drew ?_ | refine blk_alloc ?_ _)); refine blk_put (cs := #[.int .i64 ((rd_T72 l1 x14_1).f0), .int .i64 0, .int .i64 0, .int .i64 0, .int .i64 0, .int .i64 0]) ?_ 1 _ rfl; (with_reducible repeat (first | refine blk_drewN ?_ _ | refine blk_drew ?_ | refine blk_alloc ?_ _)); refine blk_put (cs := #[.int .i64 0, .int .i64 0, .int .i64 0, .int .i64 0, .int .i64 0, .int .i64 0]) ?_ 0 _ rfl; (with_reducible repeat (first | refine blk_drewN ?_ _ | refine blk_drew ?_ | refine blk_alloc ?_ _)); exact BK144.out) hb); have n3_ := Aside0.mk (below_step (by repeat (first | (with_reducible first | exact HB.out | apply below_alloc | apply pw_below_drewN | apply below_drew1 | refine below_set ?_ GE144.out) | exact HB.out)) hb); clear HO_5; clear HO_6; clear BK144; clear HB; have HO_5 := n0_; have HO_6 := n1_; have BK144 := n2_; have HB := n3_; clear n0_ n1_ n2_ n3_; (try clear hb); (try clear hb2); (try clear hk); (try clear hi)) | ((with_reducible refine gate_builtin (b := .append) (xs := #[.tmp 18, .tmp 49]) rfl ?_); at_builtin; refine Kd.R_append Kd.bool (w0 := w) w.heap.size rfl (.tmp 18) (.tmp 49) 26 4 (.bool false) 1 rfl Tryd.underlying26 info4 rfl (by decide) (by omega) u6 x6_1 true [.bool true] (fun _ => True) (fun _ => False) rfl rfl ?aP (fun _ hk => hk.elim) ?aF ?aO ?aB ?aS ?aL ?_; (case aP => exact rfl); (case aB => exact (by repeat (first | (with_reducible first | exact HB.out | apply below_alloc | apply pw_below_drewN | apply below_drew1 | refine below_set ?_ GE144.out) | exact HB.out))); (case aF => exact (fun _ _ => trivial)); (case aO => exact (by (with_reducible repeat (first | apply Kd.R_alloc | apply Kd.R_drewN | apply Kd.R_drew)); exact HO_6.out)); (case aS => exact (below_size (by repeat (first | (with_reducible first | exact HB.out | apply below_alloc | apply pw_below_drewN | apply below_drew1 | refine below_set ?_ GE144.out) | exact HB.out)))); (case aL => have := LMc10.out; omega); intro v147 w15 ho hb hg hat; rw [← Ny146.out] at ho; have n0_ := Aside0.mk (Kd.R_over' (by (with_reducible repeat (first | apply Kd.R_alloc | apply Kd.R_drewN | apply Kd.R_drew)); exact HO_5.out) (Kd.R_typed (by (with_reducible repeat (first | apply Kd.R_alloc | apply Kd.R_drewN | apply Kd.R_drew)); exact HO_6.out)) (by decide) hg); have n1_ := Aside0.mk (blk_grown (g := gb144) (o := .cells #[.int .i64 ((rd_T72 l1 x14_1).f0), .int .i64 ((rd_T72 l1 x14_1).f1), .int .i64 ((rd_T72 l1 x14_1).f2), .int .i64 ((rd_T72 l1 x14_1).f3), .int .i64 ((rd_T72 l1 x14_1).f4), .int .i64 ((rd_T72 l1 x14_1).f5)] 72 (0, 0)) (by (with_reducible repeat (first | refine blk_drewN ?_ _ | refine blk_drew ?_ | refine blk_alloc ?_ _)); exact BK144.out) hg (Kd.R_ne HO_6.out BK144.out (by decide))); have n2_ := Aside0.mk (hb); have n3_ := Aside0.mk (ho); clear HO_5; clear BK144; clear HB; clear HO_6; have HO_5 := n0_; have BK144 := n1_; have HB := n2_; have HO148 := n3_; clear n0_ n1_ n2_ n3_; clear ho hb hg hat))
                go_roundg k1
                case measure => have := HK1.out; omega
                case rel => exact ⟨(y146), (wrap64 (x14_1 + 1)), (by first | rfl | (simp; done) | (simp [*]; done)), H', ⟨by have := HK1.out; omega⟩, ⟨by (with_reducible repeat (first | apply Kd.R_alloc | apply Kd.R_drewN | apply Kd.R_drew)); exact HO_5.out⟩, ⟨by (with_reducible repeat (first | apply Kd.R_alloc | apply Kd.R_drewN | apply Kd.R_drew)); exact HO148.out⟩, ⟨by repeat (first | (with_reducible first | exact HB.out | apply below_alloc | apply pw_below_drewN | apply below_drew1 | refine below_set ?_ GE144.out) | exact HB.out)⟩⟩
              · rw [if_neg c10] at H
                exact absurd H (by simp)
            · replace c9 := Bool.eq_false_iff.mpr c9
              subst c9
              have H1 : ((kissgateref12_leads.f k1 l0 l1 t140 ((rd_T72 l1 x14_1).f2) ((rd_T72 l1 x14_1).f3) ((rd_T72 l1 x14_1).f5) ((rd_T72 l1 x14_1).f0) ((rd_T72 l1 x14_1).f1)).bind fun t149 => (if x6_1.length < 140737488355328 then (kissgateref12_Stands.l0 k1 l0 l1 t140 (x6_1 ++ [t149]) l1 (l1.length : Int) (wrap64 (x14_1 + 1))) else (none))) = some r := by rw [if_neg (show ¬ (false = true) by decide)] at H; exact H
              clear H
              have H := H1
              clear H1
              replace H := Option.bind_eq_some_iff.mp H
              obtain ⟨t149, A160, H⟩ := H
              replace H : (if x6_1.length < 140737488355328 then (kissgateref12_Stands.l0 k1 l0 l1 t140 (x6_1 ++ [t149]) l1 (l1.length : Int) (wrap64 (x14_1 + 1))) else (none)) = some r := H
              have A16 := Aside0.mk A160
              clear A160
              by_cases c17 : x6_1.length < 140737488355328
              · rw [if_pos c17] at H
                have LMc17 := Aside0.mk c17
                clear c17
                obtain ⟨y150, hy150⟩ : ∃ y_ : List Bool, y_ = (x6_1 ++ [t149]) := ⟨_, rfl⟩
                replace H : (kissgateref12_Stands.l0 k1 l0 l1 t140 y150 l1 (l1.length : Int) (wrap64 (x14_1 + 1))) = some r := by first | (rw [hy150]; with_reducible exact H) | (have H2_ := (Option.bind_some _ _).symm.trans H; rw [hy150]; with_reducible exact H2_) | (have H2_ := (Option.bind_some _ _).symm.trans H; with_reducible exact H2_) | with_reducible exact H | (rw [hy150]; exact H) | exact H
                have Ny150 := Aside0.mk hy150
                clear hy150
                have H' := Aside0.mk H
                clear H
                have p143 : 0 ≤ (x14_1 : Int) := of_decide_eq_true (by first | (with_reducible assumption) | assumption)
                have q143 : x14_1 < (l1.length : Int) := of_decide_eq_true (by first | (with_reducible assumption) | assumption)
                obtain ⟨ad143, e143, hx143_0, hx143_1, hx143_2, hx143_3, hx143_4, hx143_5⟩ := at_T72 HR1.out x14_1 p143 q143
                cases e143
                replace hx143_0 := (HB.out.cell (World.block_lt_of_cell? w _ hx143_0)).trans hx143_0
                replace hx143_1 := (HB.out.cell (World.block_lt_of_cell? w _ hx143_1)).trans hx143_1
                replace hx143_2 := (HB.out.cell (World.block_lt_of_cell? w _ hx143_2)).trans hx143_2
                replace hx143_3 := (HB.out.cell (World.block_lt_of_cell? w _ hx143_3)).trans hx143_3
                replace hx143_4 := (HB.out.cell (World.block_lt_of_cell? w _ hx143_4)).trans hx143_4
                replace hx143_5 := (HB.out.cell (World.block_lt_of_cell? w _ hx143_5)).trans hx143_5
                replace p143 := eq_true p143
                replace q143 := eq_true q143
                go_wp2_with (first | ((with_reducible refine gate_dst (N := 8) rfl ?_); refine box_event ?hg (N := 8) ?hd (cs := #[.int .i64 0, .int .i64 0, .int .i64 0, .int .i64 0, .int .i64 0, .int .i64 0]) (t := 72) ?hr ?_; (case hd => rfl); (case hg => rfl); (case hr => first | (go_simp; done) | (go_simp; rfl)); intro gb144 hg w18 hbox hb; have n0_ := Aside0.mk (Kd.R_below (by (with_reducible repeat (first | apply Kd.R_alloc | apply Kd.R_drewN | apply Kd.R_drew)); exact HO_5.out) hb); have n1_ := Aside0.mk (Kd.R_below (by (with_reducible repeat (first | apply Kd.R_alloc | apply Kd.R_drewN | apply Kd.R_drew)); exact HO_6.out) hb); have n2_ := Aside0.mk (below_step (by repeat (first | (with_reducible first | exact HB.out | apply below_alloc | apply pw_below_drewN | apply below_drew1) | exact HB.out)) hb); have n3_ := Aside0.mk (hbox); have n4_ := Aside0.mk ((by rw [hg]; exact (below_size (by repeat (first | (with_reducible first | exact HB.out | apply below_alloc | apply pw_below_drewN | apply below_drew1) | exact HB.out))) : w.heap.size ≤ gb144)); have n5_ := Aside0.mk ((by rw [hg]; exact (below_size (by repeat (first | (with_reducible first | exact HB.out | apply below_alloc | apply pw_below_drewN | apply below_drew1) | exact HB.out))) : w.heap.size ≤ gb144)); clear HO_5; clear HO_6; clear HB; have HO_5 := n0_; have HO_6 := n1_; have HB := n2_; have BK144 := n3_; have GW144 := n4_; have GE144 := n5_; clear n0_ n1_ n2_ n3_ n4_ n5_; clear hb hbox hg; have hcz19_0 : w18.cell? ⟨gb144, 0, none⟩ = some (.int .i64 0) := (blk_cell BK144.out 0).trans rfl; have hcz19_1 : w18.cell? ⟨gb144, 1, none⟩ = some (.int .i64 0) := (blk_cell BK144.out 1).trans rfl; have hcz19_2 : w18.cell? ⟨gb144, 2, none⟩ = some (.int .i64 0) := (blk_cell BK144.out 2).trans rfl; have hcz19_3 : w18.cell? ⟨gb144, 3, none⟩ = some (.int .i64 0) := (blk_cell BK144.out 3).trans rfl; have hcz19_4 : w18.cell? ⟨gb144, 4, none⟩ = some (.int .i64 0) := (blk_cell BK144.out 4).trans rfl; have hcz19_5 : w18.cell? ⟨gb144, 5, none⟩ = some (.int .i64 0) := (blk_cell BK144.out 5).trans rfl; have hfz19_0 := blk_frozen BK144.out 0; have hfz19_1 := blk_frozen BK144.out 1; have hfz19_2 := blk_frozen BK144.out 2; have hfz19_3 := blk_frozen BK144.out 3; have hfz19_4 := blk_frozen BK144.out 4; have hfz19_5 := blk_frozen BK144.out 5; obtain ⟨Ao20, co20, eo20⟩ := Kd.R_slice HO_5.out; subst eo20) | ((with_reducible refine gate_callee (f := 31) rfl ?_); refine goesL_ (some 32) rfl rfl Tryd.func31 (by kernel_rfl) rfl #[.slice A0 l0.length c0, .slice (some ad143) l1.length c1, .slice Ao20 t140.length co20, .int .i64 ((rd_T72 l1 x14_1).f0), .int .i64 ((rd_T72 l1 x14_1).f1), .int .i64 ((rd_T72 l1 x14_1).f4), .int .i64 ((rd_T72 l1 x14_1).f2), .int .i64 ((rd_T72 l1 x14_1).f3)] rfl (by (try simp only [List.map_toArray, List.map_cons, List.map_nil]); first | done | rfl | (simp only [List.length_drop, List.length_take]; rfl)) ?_; (with_reducible refine (kissgateref12_leads.calls k1 _ _ l0 _ _ l1 _ _ t140 ((rd_T72 l1 x14_1).f0) ((rd_T72 l1 x14_1).f1) ((rd_T72 l1 x14_1).f4) ((rd_T72 l1 x14_1).f2) ((rd_T72 l1 x14_1).f3) false _ ?side1 ?side2 ?side3 ?side4 ?side5 ?side6 A8.out).mono ?_); (case side1 => exact Kd.C_below HR0.out (by repeat (first | (with_reducible first | exact HB.out | apply below_alloc | apply pw_below_drewN | apply below_drew1 | refine below_set ?_ GE144.out) | exact HB.out))); (case side2 => exact HC0.out); (case side3 => exact Kd.C_below HR1.out (by repeat (first | (with_reducible first | exact HB.out | apply below_alloc | apply pw_below_drewN | apply below_drew1 | refine below_set ?_ GE144.out) | exact HB.out))); (case side4 => exact HC1.out); (case side5 => refine (Kd.R_reads' (e := 36) (base := w.heap.size) (ok := fun k_ => True) (n := t140.length) (c := co20) ?_).2.2; exact (by (with_reducible repeat (first | apply Kd.R_alloc | apply Kd.R_drewN | apply Kd.R_drew)); exact (Kd.R_mono (Kd.R_far (p := ⟨gb144, 5, none⟩) (Kd.R_far (p := ⟨gb144, 4, none⟩) (Kd.R_far (p := ⟨gb144, 3, none⟩) (Kd.R_far (p := ⟨gb144, 2, none⟩) (Kd.R_far (p := ⟨gb144, 1, none⟩) (Kd.R_far (p := ⟨gb144, 0, none⟩) (Kd.R_types HO_5.out BK144.out (by decide)) (fun _ hk => hk.2) (.int .i64 ((rd_T72 l1 x14_1).f0))) (fun _ hk => hk.2) (.int .i64 ((rd_T72 l1 x14_1).f1))) (fun _ hk => hk.2) (.int .i64 ((rd_T72 l1 x14_1).f2))) (fun _ hk => hk.2) (.int .i64 ((rd_T72 l1 x14_1).f3))) (fun _ hk => hk.2) (.int .i64 ((rd_T72 l1 x14_1).f4))) (fun _ hk => hk.2) (.int .i64 ((rd_T72 l1 x14_1).f5))) (fun _ h_ => h_.1)))); (case side6 => exact (Kd.R_reads' HO_5.out).2.1); rintro e w21 ⟨rfl, hb⟩; refine ⟨_, rfl, ?_⟩; have n0_ := Aside0.mk (Kd.R_below (by (with_reducible repeat (first | apply Kd.R_alloc | apply Kd.R_drewN | apply Kd.R_drew)); exact (Kd.R_mono (Kd.R_far (p := ⟨gb144, 5, none⟩) (Kd.R_far (p := ⟨gb144, 4, none⟩) (Kd.R_far (p := ⟨gb144, 3, none⟩) (Kd.R_far (p := ⟨gb144, 2, none⟩) (Kd.R_far (p := ⟨gb144, 1, none⟩) (Kd.R_far (p := ⟨gb144, 0, none⟩) (Kd.R_types HO_5.out BK144.out (by decide)) (fun _ hk => hk.2) (.int .i64 ((rd_T72 l1 x14_1).f0))) (fun _ hk => hk.2) (.int .i64 ((rd_T72 l1 x14_1).f1))) (fun _ hk => hk.2) (.int .i64 ((rd_T72 l1 x14_1).f2))) (fun _ hk => hk.2) (.int .i64 ((rd_T72 l1 x14_1).f3))) (fun _ hk => hk.2) (.int .i64 ((rd_T72 l1 x14_1).f4))) (fun _ hk => hk.2) (.int .i64 ((rd_T72 l1 x14_1).f5))) (fun _ h_ => h_.1))) hb); have n1_ := Aside0.mk (Kd.R_below (by (with_reducible repeat (first | apply Kd.R_alloc | apply Kd.R_drewN | apply Kd.R_drew)); exact (Kd.R_mono (Kd.R_far (p := ⟨gb144, 5, none⟩) (Kd.R_far (p := ⟨gb144, 4, none⟩) (Kd.R_far (p := ⟨gb144, 3, none⟩) (Kd.R_far (p := ⟨gb144, 2, none⟩) (Kd.R_far (p := ⟨gb144, 1, none⟩) (Kd.R_far (p := ⟨gb144, 0, none⟩) (Kd.R_types HO_6.out BK144.out (by decide)) (fun _ hk => hk.2) (.int .i64 ((rd_T72 l1 x14_1).f0))) (fun _ hk => hk.2) (.int .i64 ((rd_T72 l1 x14_1).f1))) (fun _ hk => hk.2) (.int .i64 ((rd_T72 l1 x14_1).f2))) (fun _ hk => hk.2) (.int .i64 ((rd_T72 l1 x14_1).f3))) (fun _ hk => hk.2) (.int .i64 ((rd_T72 l1 x14_1).f4))) (fun _ hk => hk.2) (.int .i64 ((rd_T72 l1 x14_1).f5))) (fun _ h_ => h_.1))) hb); have n2_ := Aside0.mk (blk_below (g := gb144) (o := .cells #[.int .i64 ((rd_T72 l1 x14_1).f0), .int .i64 ((rd_T72 l1 x14_1).f1), .int .i64 ((rd_T72 l1 x14_1).f2), .int .i64 ((rd_T72 l1 x14_1).f3), .int .i64 ((rd_T72 l1 x14_1).f4), .int .i64 ((rd_T72 l1 x14_1).f5)] 72 (0, 0)) (by (with_reducible repeat (first | refine blk_drewN ?_ _ | refine blk_drew ?_ | refine blk_alloc ?_ _)); refine blk_put (cs := #[.int .i64 ((rd_T72 l1 x14_1).f0), .int .i64 ((rd_T72 l1 x14_1).f1), .int .i64 ((rd_T72 l1 x14_1).f2), .int .i64 ((rd_T72 l1 x14_1).f3), .int .i64 ((rd_T72 l1 x14_1).f4), .int .i64 0]) ?_ 5 _ rfl; (with_reducible repeat (first | refine blk_drewN ?_ _ | refine blk_drew ?_ | refine blk_alloc ?_ _)); refine blk_put (cs := #[.int .i64 ((rd_T72 l1 x14_1).f0), .int .i64 ((rd_T72 l1 x14_1).f1), .int .i64 ((rd_T72 l1 x14_1).f2), .int .i64 ((rd_T72 l1 x14_1).f3), .int .i64 0, .int .i64 0]) ?_ 4 _ rfl; (with_reducible repeat (first | refine blk_drewN ?_ _ | refine blk_drew ?_ | refine blk_alloc ?_ _)); refine blk_put (cs := #[.int .i64 ((rd_T72 l1 x14_1).f0), .int .i64 ((rd_T72 l1 x14_1).f1), .int .i64 ((rd_T72 l1 x14_1).f2), .int .i64 0, .int .i64 0, .int .i64 0]) ?_ 3 _ rfl; (with_reducible repeat (first | refine blk_drewN ?_ _ | refine blk_drew ?_ | refine blk_alloc ?_ _)); refine blk_put (cs := #[.int .i64 ((rd_T72 l1 x14_1).f0), .int .i64 ((rd_T72 l1 x14_1).f1), .int .i64 0, .int .i64 0, .int .i64 0, .int .i64 0]) ?_ 2 _ rfl; (with_reducible repeat (first | refine blk_drewN ?_ _ | refine blk_drew ?_ | refine blk_alloc ?_ _)); refine blk_put (cs := #[.int .i64 ((rd_T72 l1 x14_1).f0), .int .i64 0, .int .i64 0, .int .i64 0, .int .i64 0, .int .i64 0]) ?_ 1 _ rfl; (with_reducible repeat (first | refine blk_drewN ?_ _ | refine blk_drew ?_ | refine blk_alloc ?_ _)); refine blk_put (cs := #[.int .i64 0, .int .i64 0, .int .i64 0, .int .i64 0, .int .i64 0, .int .i64 0]) ?_ 0 _ rfl; (with_reducible repeat (first | refine blk_drewN ?_ _ | refine blk_drew ?_ | refine blk_alloc ?_ _)); exact BK144.out) hb); have n3_ := Aside0.mk (below_step (by repeat (first | (with_reducible first | exact HB.out | apply below_alloc | apply pw_below_drewN | apply below_drew1 | refine below_set ?_ GE144.out) | exact HB.out)) hb); clear HO_5; clear HO_6; clear BK144; clear HB; have HO_5 := n0_; have HO_6 := n1_; have BK144 := n2_; have HB := n3_; clear n0_ n1_ n2_ n3_; (try clear hb); (try clear hb2); (try clear hk); (try clear hi); have hcz22_0 : w21.cell? ⟨gb144, 0, none⟩ = some (.int .i64 ((rd_T72 l1 x14_1).f0)) := (blk_cell BK144.out 0).trans rfl; have hcz22_1 : w21.cell? ⟨gb144, 1, none⟩ = some (.int .i64 ((rd_T72 l1 x14_1).f1)) := (blk_cell BK144.out 1).trans rfl; have hcz22_2 : w21.cell? ⟨gb144, 2, none⟩ = some (.int .i64 ((rd_T72 l1 x14_1).f2)) := (blk_cell BK144.out 2).trans rfl; have hcz22_3 : w21.cell? ⟨gb144, 3, none⟩ = some (.int .i64 ((rd_T72 l1 x14_1).f3)) := (blk_cell BK144.out 3).trans rfl; have hcz22_4 : w21.cell? ⟨gb144, 4, none⟩ = some (.int .i64 ((rd_T72 l1 x14_1).f4)) := (blk_cell BK144.out 4).trans rfl; have hcz22_5 : w21.cell? ⟨gb144, 5, none⟩ = some (.int .i64 ((rd_T72 l1 x14_1).f5)) := (blk_cell BK144.out 5).trans rfl; have hfz22_0 := blk_frozen BK144.out 0; have hfz22_1 := blk_frozen BK144.out 1; have hfz22_2 := blk_frozen BK144.out 2; have hfz22_3 := blk_frozen BK144.out 3; have hfz22_4 := blk_frozen BK144.out 4; have hfz22_5 := blk_frozen BK144.out 5) | (go_at_call 31; (with_reducible refine (kissgateref12_leads.calls k1 _ _ l0 _ _ l1 _ _ t140 ((rd_T72 l1 x14_1).f2) ((rd_T72 l1 x14_1).f3) ((rd_T72 l1 x14_1).f5) ((rd_T72 l1 x14_1).f0) ((rd_T72 l1 x14_1).f1) t149 _ ?side1 ?side2 ?side3 ?side4 ?side5 ?side6 A16.out).mono ?_); (case side1 => repeat (first | exact (Kd.C_below HR0.out HB.out) | (with_reducible refine Kd.C_alloc ?_ _) | (with_reducible refine Kd.C_drewN ?_ _) | (with_reducible refine Kd.C_drew ?_))); (case side2 => exact HC0.out); (case side3 => repeat (first | exact (Kd.C_below HR1.out HB.out) | (with_reducible refine Kd.C_alloc ?_ _) | (with_reducible refine Kd.C_drewN ?_ _) | (with_reducible refine Kd.C_drew ?_))); (case side4 => exact HC1.out); (case side5 => repeat (first | exact (Kd.R_reads' HO_5.out).2.2 | (with_reducible refine Kd.C_alloc ?_ _) | (with_reducible refine Kd.C_drewN ?_ _) | (with_reducible refine Kd.C_drew ?_))); (case side6 => exact (Kd.R_reads' HO_5.out).2.1); rintro e w23 ⟨rfl, hb⟩; have n0_ := Aside0.mk (Kd.R_below (by (with_reducible repeat (first | apply Kd.R_alloc | apply Kd.R_drewN | apply Kd.R_drew)); exact HO_5.out) hb); have n1_ := Aside0.mk (Kd.R_below (by (with_reducible repeat (first | apply Kd.R_alloc | apply Kd.R_drewN | apply Kd.R_drew)); exact HO_6.out) hb); have n2_ := Aside0.mk (blk_below (g := gb144) (o := .cells #[.int .i64 ((rd_T72 l1 x14_1).f0), .int .i64 ((rd_T72 l1 x14_1).f1), .int .i64 ((rd_T72 l1 x14_1).f2), .int .i64 ((rd_T72 l1 x14_1).f3), .int .i64 ((rd_T72 l1 x14_1).f4), .int .i64 ((rd_T72 l1 x14_1).f5)] 72 (0, 0)) (by (with_reducible repeat (first | refine blk_drewN ?_ _ | refine blk_drew ?_ | refine blk_alloc ?_ _)); exact BK144.out) hb); have n3_ := Aside0.mk (below_step (by repeat (first | (with_reducible first | exact HB.out | apply below_alloc | apply pw_below_drewN | apply below_drew1 | refine below_set ?_ GE144.out) | exact HB.out)) hb); clear HO_5; clear HO_6; clear BK144; clear HB; have HO_5 := n0_; have HO_6 := n1_; have BK144 := n2_; have HB := n3_; clear n0_ n1_ n2_ n3_; (try clear hb); (try clear hb2); (try clear hk); (try clear hi)) | ((with_reducible refine gate_builtin (b := .append) (xs := #[.tmp 18, .tmp 49]) rfl ?_); at_builtin; refine Kd.R_append Kd.bool (w0 := w) w.heap.size rfl (.tmp 18) (.tmp 49) 26 4 (.bool false) 1 rfl Tryd.underlying26 info4 rfl (by decide) (by omega) u6 x6_1 t149 [.bool t149] (fun _ => True) (fun _ => False) rfl rfl ?aP (fun _ hk => hk.elim) ?aF ?aO ?aB ?aS ?aL ?_; (case aP => exact rfl); (case aB => exact (by repeat (first | (with_reducible first | exact HB.out | apply below_alloc | apply pw_below_drewN | apply below_drew1 | refine below_set ?_ GE144.out) | exact HB.out))); (case aF => exact (fun _ _ => trivial)); (case aO => exact (by (with_reducible repeat (first | apply Kd.R_alloc | apply Kd.R_drewN | apply Kd.R_drew)); exact HO_6.out)); (case aS => exact (below_size (by repeat (first | (with_reducible first | exact HB.out | apply below_alloc | apply pw_below_drewN | apply below_drew1 | refine below_set ?_ GE144.out) | exact HB.out)))); (case aL => have := LMc17.out; omega); intro v151 w24 ho hb hg hat; rw [← Ny150.out] at ho; have n0_ := Aside0.mk (Kd.R_over' (by (with_reducible repeat (first | apply Kd.R_alloc | apply Kd.R_drewN | apply Kd.R_drew)); exact HO_5.out) (Kd.R_typed (by (with_reducible repeat (first | apply Kd.R_alloc | apply Kd.R_drewN | apply Kd.R_drew)); exact HO_6.out)) (by decide) hg); have n1_ := Aside0.mk (blk_grown (g := gb144) (o := .cells #[.int .i64 ((rd_T72 l1 x14_1).f0), .int .i64 ((rd_T72 l1 x14_1).f1), .int .i64 ((rd_T72 l1 x14_1).f2), .int .i64 ((rd_T72 l1 x14_1).f3), .int .i64 ((rd_T72 l1 x14_1).f4), .int .i64 ((rd_T72 l1 x14_1).f5)] 72 (0, 0)) (by (with_reducible repeat (first | refine blk_drewN ?_ _ | refine blk_drew ?_ | refine blk_alloc ?_ _)); exact BK144.out) hg (Kd.R_ne HO_6.out BK144.out (by decide))); have n2_ := Aside0.mk (hb); have n3_ := Aside0.mk (ho); clear HO_5; clear BK144; clear HB; clear HO_6; have HO_5 := n0_; have BK144 := n1_; have HB := n2_; have HO152 := n3_; clear n0_ n1_ n2_ n3_; clear ho hb hg hat))
                go_roundg k1
                case measure => have := HK1.out; omega
                case rel => exact ⟨(y150), (wrap64 (x14_1 + 1)), (by first | rfl | (simp; done) | (simp [*]; done)), H', ⟨by have := HK1.out; omega⟩, ⟨by (with_reducible repeat (first | apply Kd.R_alloc | apply Kd.R_drewN | apply Kd.R_drew)); exact HO_5.out⟩, ⟨by (with_reducible repeat (first | apply Kd.R_alloc | apply Kd.R_drewN | apply Kd.R_drew)); exact HO152.out⟩, ⟨by repeat (first | (with_reducible first | exact HB.out | apply below_alloc | apply pw_below_drewN | apply below_drew1 | refine below_set ?_ GE144.out) | exact HB.out)⟩⟩
              · rw [if_neg c17] at H
                exact absurd H (by simp)
          · rw [if_neg c7] at H
            exact absurd H (by simp)
        · rw [if_neg c6] at H
          exact absurd H (by simp)
      · rw [if_neg c5] at H
        have c5b0 : decide (x14_1 < (l1.length : Int)) = false := decide_eq_false c5
        clear c5
        obtain rfl := Option.some.inj H
        go_wp2
        go_ret
        exact ⟨_, by first | rfl | (simp [errW_none, errW_some] <;> rfl) | (simp [*, errW_none, errW_some] <;> rfl), by (with_reducible repeat (first | apply Kd.R_alloc | apply Kd.R_drewN | apply Kd.R_drew)); exact HO_6.out, by repeat (first | (with_reducible first | exact HB.out | apply below_alloc | apply pw_below_drewN | apply below_drew1) | exact HB.out)⟩
def tree_Bound.f (a0 : Int) : Option (Int) := some (wrap64 ((wrap64 ((wrap64 ((wrap64 (10 + (mx a0 0))) + 1)) * 27)) + 8))
set_option maxHeartbeats 8000000 in
set_option maxRecDepth 100000 in
theorem tree_Bound.calls (a0 : Int) (r : Int) (w : World) (h : tree_Bound.f a0 = some r) :
    Calls Tryd.prog 11 #[.int .i64 a0] w fun e w' => e = .returned (.int .i64 r) ∧ Below w.heap.size w w' := by
  have HB := Aside0.mk (Below.refl w.heap.size w)
  have H : (some (wrap64 ((wrap64 ((wrap64 ((wrap64 (10 + (mx a0 0))) + 1)) * 27)) + 8))) = some r := h
  clear h
  obtain ⟨ji2, hji2⟩ : ∃ j_ : Int, (mx a0 0) = j_ := ⟨_, rfl⟩
  replace H : (some (wrap64 ((wrap64 ((wrap64 ((wrap64 (10 + (ji2))) + 1)) * 27)) + 8))) = some r := by first | (rw [hji2] at H; exact H) | (simp only [hji2] at H ⊢; exact H)
  (try (have hji2l : 0 ≤ ji2 := by (rw [← hji2]; unfold mx; (repeat' split) <;> omega)))
  (try (have hji2m : 0 ≤ ji2 := by omega))
  have hji2_ : (if a0 < 0 then 0 else a0) = ji2 := hji2
  obtain rfl := Option.some.inj H
  go_enter Tryd.func11, Tryd.ntmps11
  go_wp2
  go_ret
  exact ⟨by first | rfl | (simp [errW_none, errW_some] <;> rfl) | (simp only [← hji2]; first | rfl | (simp [errW_none, errW_some] <;> rfl)) | (simp [*, errW_none, errW_some] <;> rfl), by repeat (first | (with_reducible first | exact HB.out | apply below_alloc | apply pw_below_drewN | apply below_drew1) | exact HB.out)⟩
mutual
def kissgatelaw12_TreeSpans.l0 : Nat → List Int → List Bool → List Int → List Int → Int → Int → Int → Option (Bool)
  | 0, _, _, _, _, _, _, _ => none
  | k + 1, x0, x5, x6, x7, x8, x31, x32 => if x32 < x31 then (if 0 ≤ x32 then (if x32 < (x5.length : Int) then (if rdOf false x5 x32 = true then (kissgatelaw12_TreeSpans.l0 k x0 x5 x6 x7 (wrap64 (x8 + 1)) x31 (wrap64 (x32 + 1))) else (kissgatelaw12_TreeSpans.l0 k x0 x5 x6 x7 x8 x31 (wrap64 (x32 + 1)))) else (none)) else (none)) else (kissgatelaw12_TreeSpans.l1 k x0 x6 x7 x8 0 (x6.length : Int) 0)
def kissgatelaw12_TreeSpans.l1 : Nat → List Int → List Int → List Int → Int → Int → Int → Int → Option (Bool)
  | 0, _, _, _, _, _, _, _ => none
  | k + 1, x0, x6, x7, x8, x10, x43, x44 => if x44 < x43 then (if 0 ≤ x44 then (if x44 < (x6.length : Int) then (if (rd x6 x44) = x44 then (if x44 < (x7.length : Int) then (if (rd x6 x44) = (rd x7 x44) then (kissgatelaw12_TreeSpans.l1 k x0 x6 x7 x8 (wrap64 (x10 + 1)) x43 (wrap64 (x44 + 1))) else (some false)) else (none)) else (if x44 < (x7.length : Int) then (if (rd x6 x44) = (rd x7 x44) then (kissgatelaw12_TreeSpans.l1 k x0 x6 x7 x8 x10 x43 (wrap64 (x44 + 1))) else (some false)) else (none))) else (none)) else (none)) else (if x8 = (wrap64 ((x0.length : Int) - x10)) then ((tree_Bound.f (x0.length : Int)).bind fun t165 => (some (t165 == (wrap64 ((wrap64 ((wrap64 ((wrap64 (10 + (x0.length : Int))) + 1)) * 27)) + 8))))) else (some false))
end
def kissgatelaw12_TreeSpans.f (k : Nat) (l0 : List Int) (l1 : List (S72)) : Option (Bool) := (kissgatelaw12_alive.f).bind fun t153 => (if t153 = true then ((kissgatelaw12_fits.f l0 l1).bind fun t154 => (if t154 = true then ((kissgateref12_Stands.f k l0 l1).bind fun t155 => ((kissgatelaw12_parts.f (l0.length : Int) l1 ([] : List Bool)).bind fun t158 => ((kissgatelaw12_parts.f (l0.length : Int) l1 t155).bind fun t161 => (kissgatelaw12_TreeSpans.l0 k l0 t155 t158 t161 0 (t155.length : Int) 0)))) else (some true))) else (some false))
theorem stands_grow : ∀ (k : Nat) (x0 : List Int) (x1 : List S72) (x5 : List S36) (x6 : List Bool) (x12 : List S72) (n i : Int) (r : List Bool), kissgateref12_Stands.l0 k x0 x1 x5 x6 x12 n i = some r → x6.length ≤ r.length
  | 0, _, _, _, _, _, _, _, _, h => by simp [kissgateref12_Stands.l0] at h
  | k + 1, x0, x1, x5, x6, x12, n, i, r, h => by
    unfold kissgateref12_Stands.l0 at h
    split at h
    · split at h
      · split at h
        · obtain ⟨t, _, h⟩ := Option.bind_eq_some_iff.mp h
          split at h
          · split at h
            · have := stands_grow k _ _ _ _ _ _ _ _ h
              rw [List.length_append] at this
              omega
            · cases h
          · obtain ⟨t2, _, h⟩ := Option.bind_eq_some_iff.mp h
            split at h
            · have := stands_grow k _ _ _ _ _ _ _ _ h
              rw [List.length_append] at this
              omega
            · cases h
        · cases h
      · cases h
    · injection h with h
      rw [h]
      exact Nat.le_refl _
theorem stands_nil {k : Nat} {l0 : List Int} {l1 : List S72} {r : List Bool} (h : kissgateref12_Stands.f k l0 l1 = some r) (e : r = []) : l1 = [] := by
  subst e
  unfold kissgateref12_Stands.f at h
  obtain ⟨t, _, h⟩ := Option.bind_eq_some_iff.mp h
  cases k with
  | zero => simp [kissgateref12_Stands.l0] at h
  | succ k =>
    by_cases hn : (0 : Int) < (l1.length : Int)
    · exfalso
      unfold kissgateref12_Stands.l0 at h
      rw [if_pos hn, if_pos (Int.le_refl 0), if_pos hn] at h
      obtain ⟨t, _, h⟩ := Option.bind_eq_some_iff.mp h
      split at h
      · split at h
        · have := stands_grow k _ _ _ _ _ _ _ _ h
          simp at this
        · cases h
      · obtain ⟨t2, _, h⟩ := Option.bind_eq_some_iff.mp h
        split at h
        · have := stands_grow k _ _ _ _ _ _ _ _ h
          simp at this
        · cases h
    · exact List.length_eq_zero_iff.1 (by omega)
set_option maxHeartbeats 8000000 in
set_option maxRecDepth 100000 in
theorem kissgatelaw12_TreeSpans.calls (k : Nat) (A0 : Option Addr) (c0 : Nat) (l0 : List Int) (A1 : Option Addr) (c1 : Nat) (l1 : List (S72)) (r : Bool) (hT : r = true) (w : World) (hng : QTre.NG w) (hz : 0 < w.heap.size) (hr0 : Kd.C (Kd.int .i64) w A0 l0.length l0) (hc0 : l0.length ≤ c0) (hr1 : Kd.C k72 w A1 l1.length l1) (hc1 : l1.length ≤ c1) (h : kissgatelaw12_TreeSpans.f k l0 l1 = some r) :
    Calls Tryd.prog 3 #[.slice A0 l0.length c0, .slice A1 l1.length c1] w fun e w' => e = .returned (.bool r) ∧ Below w.heap.size w w' := by
  have HRT := Aside0.mk hT
  clear hT
  have HNG := Aside0.mk hng
  have HZ := Aside0.mk hz
  clear hng hz
  have HR0 := Aside0.mk hr0
  have HC0 := Aside0.mk hc0
  clear hr0 hc0
  have HR1 := Aside0.mk hr1
  have HC1 := Aside0.mk hc1
  clear hr1 hc1
  have HB := Aside0.mk (Below.refl w.heap.size w)
  have H : ((kissgatelaw12_alive.f).bind fun t153 => (if t153 = true then ((kissgatelaw12_fits.f l0 l1).bind fun t154 => (if t154 = true then ((kissgateref12_Stands.f k l0 l1).bind fun t155 => ((kissgatelaw12_parts.f (l0.length : Int) l1 ([] : List Bool)).bind fun t158 => ((kissgatelaw12_parts.f (l0.length : Int) l1 t155).bind fun t161 => (kissgatelaw12_TreeSpans.l0 k l0 t155 t158 t161 0 (t155.length : Int) 0)))) else (some true))) else (some false))) = some r := h
  clear h
  replace H := Option.bind_eq_some_iff.mp H
  obtain ⟨t153, A30, H⟩ := H
  replace H : (if t153 = true then ((kissgatelaw12_fits.f l0 l1).bind fun t154 => (if t154 = true then ((kissgateref12_Stands.f k l0 l1).bind fun t155 => ((kissgatelaw12_parts.f (l0.length : Int) l1 ([] : List Bool)).bind fun t158 => ((kissgatelaw12_parts.f (l0.length : Int) l1 t155).bind fun t161 => (kissgatelaw12_TreeSpans.l0 k l0 t155 t158 t161 0 (t155.length : Int) 0)))) else (some true))) else (some false)) = some r := H
  have A3 := Aside0.mk A30
  clear A30
  by_cases c4 : t153 = true
  · subst c4
    have H1 : ((kissgatelaw12_fits.f l0 l1).bind fun t154 => (if t154 = true then ((kissgateref12_Stands.f k l0 l1).bind fun t155 => ((kissgatelaw12_parts.f (l0.length : Int) l1 ([] : List Bool)).bind fun t158 => ((kissgatelaw12_parts.f (l0.length : Int) l1 t155).bind fun t161 => (kissgatelaw12_TreeSpans.l0 k l0 t155 t158 t161 0 (t155.length : Int) 0)))) else (some true))) = some r := by rw [if_pos rfl] at H; exact H
    clear H
    have H := H1
    clear H1
    replace H := Option.bind_eq_some_iff.mp H
    obtain ⟨t154, A50, H⟩ := H
    replace H : (if t154 = true then ((kissgateref12_Stands.f k l0 l1).bind fun t155 => ((kissgatelaw12_parts.f (l0.length : Int) l1 ([] : List Bool)).bind fun t158 => ((kissgatelaw12_parts.f (l0.length : Int) l1 t155).bind fun t161 => (kissgatelaw12_TreeSpans.l0 k l0 t155 t158 t161 0 (t155.length : Int) 0)))) else (some true)) = some r := H
    have A5 := Aside0.mk A50
    clear A50
    by_cases c6 : t154 = true
    · subst c6
      have H1 : ((kissgateref12_Stands.f k l0 l1).bind fun t155 => ((kissgatelaw12_parts.f (l0.length : Int) l1 ([] : List Bool)).bind fun t158 => ((kissgatelaw12_parts.f (l0.length : Int) l1 t155).bind fun t161 => (kissgatelaw12_TreeSpans.l0 k l0 t155 t158 t161 0 (t155.length : Int) 0)))) = some r := by rw [if_pos rfl] at H; exact H
      clear H
      have H := H1
      clear H1
      replace H := Option.bind_eq_some_iff.mp H
      obtain ⟨t155, A70, H⟩ := H
      replace H : ((kissgatelaw12_parts.f (l0.length : Int) l1 ([] : List Bool)).bind fun t158 => ((kissgatelaw12_parts.f (l0.length : Int) l1 t155).bind fun t161 => (kissgatelaw12_TreeSpans.l0 k l0 t155 t158 t161 0 (t155.length : Int) 0))) = some r := H
      have A7 := Aside0.mk A70
      clear A70
      replace H := Option.bind_eq_some_iff.mp H
      obtain ⟨t158, A80, H⟩ := H
      replace H : ((kissgatelaw12_parts.f (l0.length : Int) l1 t155).bind fun t161 => (kissgatelaw12_TreeSpans.l0 k l0 t155 t158 t161 0 (t155.length : Int) 0)) = some r := H
      have A8 := Aside0.mk A80
      clear A80
      replace H := Option.bind_eq_some_iff.mp H
      obtain ⟨t161, A90, H⟩ := H
      replace H : (kissgatelaw12_TreeSpans.l0 k l0 t155 t158 t161 0 (t155.length : Int) 0) = some r := H
      have A9 := Aside0.mk A90
      clear A90
      have H' := Aside0.mk H
      clear H
      go_enter Tryd.func3, Tryd.ntmps3
      go_wp2_with (first | (go_at_call 7; (with_reducible refine (kissgatelaw12_alive.calls true w _ HNG.out HZ.out (by repeat (first | (with_reducible first | exact HB.out | apply below_alloc | apply pw_below_drewN | apply below_drew1) | exact HB.out)) A3.out).mono ?_); rintro e w10 ⟨rfl, hb⟩; have n0_ := Aside0.mk (below_step (by repeat (first | (with_reducible first | exact HB.out | apply below_alloc | apply pw_below_drewN | apply below_drew1) | exact HB.out)) hb); clear HB; have HB := n0_; clear n0_; (try clear hb); (try clear hb2); (try clear hk); (try clear hi)) | (go_at_call 8; (with_reducible refine (kissgatelaw12_fits.calls _ _ l0 _ _ l1 true _ ?side1 ?side2 ?side3 ?side4 A5.out).mono ?_); (case side1 => repeat (first | exact (Kd.C_below HR0.out HB.out) | (with_reducible refine Kd.C_alloc ?_ _) | (with_reducible refine Kd.C_drewN ?_ _) | (with_reducible refine Kd.C_drew ?_))); (case side2 => exact HC0.out); (case side3 => repeat (first | exact (Kd.C_below HR1.out HB.out) | (with_reducible refine Kd.C_alloc ?_ _) | (with_reducible refine Kd.C_drewN ?_ _) | (with_reducible refine Kd.C_drew ?_))); (case side4 => exact HC1.out); rintro e w11 ⟨rfl, hb⟩; have n0_ := Aside0.mk (below_step (by repeat (first | (with_reducible first | exact HB.out | apply below_alloc | apply pw_below_drewN | apply below_drew1) | exact HB.out)) hb); clear HB; have HB := n0_; clear n0_; (try clear hb); (try clear hb2); (try clear hk); (try clear hi)) | (go_at_call 9; (with_reducible refine (kissgateref12_Stands.calls k _ _ l0 _ _ l1 t155 _ ?side1 ?side2 ?side3 ?side4 A7.out).mono ?_); (case side1 => repeat (first | exact (Kd.C_below HR0.out HB.out) | (with_reducible refine Kd.C_alloc ?_ _) | (with_reducible refine Kd.C_drewN ?_ _) | (with_reducible refine Kd.C_drew ?_))); (case side2 => exact HC0.out); (case side3 => repeat (first | exact (Kd.C_below HR1.out HB.out) | (with_reducible refine Kd.C_alloc ?_ _) | (with_reducible refine Kd.C_drewN ?_ _) | (with_reducible refine Kd.C_drew ?_))); (case side4 => exact HC1.out); rintro e w12 ⟨v156, rfl, ho0, hb⟩; have n0_ := Aside0.mk (Kd.R_lower ho0 (below_size (by repeat (first | (with_reducible first | exact HB.out | apply below_alloc | apply pw_below_drewN | apply below_drew1) | exact HB.out)))); have n1_ := Aside0.mk (below_step (by repeat (first | (with_reducible first | exact HB.out | apply below_alloc | apply pw_below_drewN | apply below_drew1) | exact HB.out)) hb); clear HB; have HO157 := n0_; have HB := n1_; clear n0_ n1_; (try clear hb); (try clear hb2); (try clear hk); (try clear hi); (try clear ho0)) | (go_at_call 10; (with_reducible refine (parts_nil.calls (l0.length : Int) _ _ l1 t158 _ ?side1 ?side2 A8.out).mono ?_); (case side1 => repeat (first | exact (Kd.C_below HR1.out HB.out) | (with_reducible refine Kd.C_alloc ?_ _) | (with_reducible refine Kd.C_drewN ?_ _) | (with_reducible refine Kd.C_drew ?_))); (case side2 => exact HC1.out); rintro e w13 ⟨v159, rfl, ho0, hb⟩; have n0_ := Aside0.mk (Kd.R_below (by (with_reducible repeat (first | apply Kd.R_alloc | apply Kd.R_drewN | apply Kd.R_drew)); exact HO157.out) hb); have n1_ := Aside0.mk (Kd.R_lower ho0 (below_size (by repeat (first | (with_reducible first | exact HB.out | apply below_alloc | apply pw_below_drewN | apply below_drew1) | exact HB.out)))); have n2_ := Aside0.mk (below_step (by repeat (first | (with_reducible first | exact HB.out | apply below_alloc | apply pw_below_drewN | apply below_drew1) | exact HB.out)) hb); clear HO157; clear HB; have HO157 := n0_; have HO160 := n1_; have HB := n2_; clear n0_ n1_ n2_; (try clear hb); (try clear hb2); (try clear hk); (try clear hi); (try clear ho0); obtain ⟨Ao14, co14, eo14⟩ := Kd.R_slice HO157.out; subst eo14) | (go_at_call 10; (with_reducible refine (kissgatelaw12_parts.calls (l0.length : Int) _ _ l1 _ _ t155 t161 _ ?side1 ?side2 ?side3 ?side4 (fun e => .inl (stands_nil A7.out e)) A9.out).mono ?_); (case side1 => repeat (first | exact (Kd.C_below HR1.out HB.out) | (with_reducible refine Kd.C_alloc ?_ _) | (with_reducible refine Kd.C_drewN ?_ _) | (with_reducible refine Kd.C_drew ?_))); (case side2 => exact HC1.out); (case side3 => repeat (first | exact (Kd.R_reads' HO157.out).2.2 | (with_reducible refine Kd.C_alloc ?_ _) | (with_reducible refine Kd.C_drewN ?_ _) | (with_reducible refine Kd.C_drew ?_))); (case side4 => exact (Kd.R_reads' HO157.out).2.1); rintro e w15 ⟨v162, rfl, ho0, hb⟩; have n0_ := Aside0.mk (Kd.R_below (by (with_reducible repeat (first | apply Kd.R_alloc | apply Kd.R_drewN | apply Kd.R_drew)); exact HO157.out) hb); have n1_ := Aside0.mk (Kd.R_elder' (by (with_reducible repeat (first | apply Kd.R_alloc | apply Kd.R_drewN | apply Kd.R_drew)); exact HO160.out) (Kd.R_base ho0) hb); have n2_ := Aside0.mk (Kd.R_lower (Kd.R_new' ho0 (Kd.R_lt (by (with_reducible repeat (first | apply Kd.R_alloc | apply Kd.R_drewN | apply Kd.R_drew)); exact HO160.out))) (below_size (by repeat (first | (with_reducible first | exact HB.out | apply below_alloc | apply pw_below_drewN | apply below_drew1) | exact HB.out)))); have n3_ := Aside0.mk (below_step (by repeat (first | (with_reducible first | exact HB.out | apply below_alloc | apply pw_below_drewN | apply below_drew1) | exact HB.out)) hb); clear HO157; clear HO160; clear HB; have HO157 := n0_; have HO160 := n1_; have HO163 := n2_; have HB := n3_; clear n0_ n1_ n2_ n3_; (try clear hb); (try clear hb2); (try clear hk); (try clear hi); (try clear ho0)))
      repeat (go_quiet (first | (go_at_call 7; (with_reducible refine (kissgatelaw12_alive.calls true w _ HNG.out HZ.out (by repeat (first | (with_reducible first | exact HB.out | apply below_alloc | apply pw_below_drewN | apply below_drew1) | exact HB.out)) A3.out).mono ?_); rintro e w10 ⟨rfl, hb⟩; have n0_ := Aside0.mk (below_step (by repeat (first | (with_reducible first | exact HB.out | apply below_alloc | apply pw_below_drewN | apply below_drew1) | exact HB.out)) hb); clear HB; have HB := n0_; clear n0_; (try clear hb); (try clear hb2); (try clear hk); (try clear hi)) | (go_at_call 8; (with_reducible refine (kissgatelaw12_fits.calls _ _ l0 _ _ l1 true _ ?side1 ?side2 ?side3 ?side4 A5.out).mono ?_); (case side1 => repeat (first | exact (Kd.C_below HR0.out HB.out) | (with_reducible refine Kd.C_alloc ?_ _) | (with_reducible refine Kd.C_drewN ?_ _) | (with_reducible refine Kd.C_drew ?_))); (case side2 => exact HC0.out); (case side3 => repeat (first | exact (Kd.C_below HR1.out HB.out) | (with_reducible refine Kd.C_alloc ?_ _) | (with_reducible refine Kd.C_drewN ?_ _) | (with_reducible refine Kd.C_drew ?_))); (case side4 => exact HC1.out); rintro e w11 ⟨rfl, hb⟩; have n0_ := Aside0.mk (below_step (by repeat (first | (with_reducible first | exact HB.out | apply below_alloc | apply pw_below_drewN | apply below_drew1) | exact HB.out)) hb); clear HB; have HB := n0_; clear n0_; (try clear hb); (try clear hb2); (try clear hk); (try clear hi)) | (go_at_call 9; (with_reducible refine (kissgateref12_Stands.calls k _ _ l0 _ _ l1 t155 _ ?side1 ?side2 ?side3 ?side4 A7.out).mono ?_); (case side1 => repeat (first | exact (Kd.C_below HR0.out HB.out) | (with_reducible refine Kd.C_alloc ?_ _) | (with_reducible refine Kd.C_drewN ?_ _) | (with_reducible refine Kd.C_drew ?_))); (case side2 => exact HC0.out); (case side3 => repeat (first | exact (Kd.C_below HR1.out HB.out) | (with_reducible refine Kd.C_alloc ?_ _) | (with_reducible refine Kd.C_drewN ?_ _) | (with_reducible refine Kd.C_drew ?_))); (case side4 => exact HC1.out); rintro e w12 ⟨v156, rfl, ho0, hb⟩; have n0_ := Aside0.mk (Kd.R_lower ho0 (below_size (by repeat (first | (with_reducible first | exact HB.out | apply below_alloc | apply pw_below_drewN | apply below_drew1) | exact HB.out)))); have n1_ := Aside0.mk (below_step (by repeat (first | (with_reducible first | exact HB.out | apply below_alloc | apply pw_below_drewN | apply below_drew1) | exact HB.out)) hb); clear HB; have HO157 := n0_; have HB := n1_; clear n0_ n1_; (try clear hb); (try clear hb2); (try clear hk); (try clear hi); (try clear ho0)) | (go_at_call 10; (with_reducible refine (parts_nil.calls (l0.length : Int) _ _ l1 t158 _ ?side1 ?side2 A8.out).mono ?_); (case side1 => repeat (first | exact (Kd.C_below HR1.out HB.out) | (with_reducible refine Kd.C_alloc ?_ _) | (with_reducible refine Kd.C_drewN ?_ _) | (with_reducible refine Kd.C_drew ?_))); (case side2 => exact HC1.out); rintro e w13 ⟨v159, rfl, ho0, hb⟩; have n0_ := Aside0.mk (Kd.R_below (by (with_reducible repeat (first | apply Kd.R_alloc | apply Kd.R_drewN | apply Kd.R_drew)); exact HO157.out) hb); have n1_ := Aside0.mk (Kd.R_lower ho0 (below_size (by repeat (first | (with_reducible first | exact HB.out | apply below_alloc | apply pw_below_drewN | apply below_drew1) | exact HB.out)))); have n2_ := Aside0.mk (below_step (by repeat (first | (with_reducible first | exact HB.out | apply below_alloc | apply pw_below_drewN | apply below_drew1) | exact HB.out)) hb); clear HO157; clear HB; have HO157 := n0_; have HO160 := n1_; have HB := n2_; clear n0_ n1_ n2_; (try clear hb); (try clear hb2); (try clear hk); (try clear hi); (try clear ho0); obtain ⟨Ao14, co14, eo14⟩ := Kd.R_slice HO157.out; subst eo14) | (go_at_call 10; (with_reducible refine (kissgatelaw12_parts.calls (l0.length : Int) _ _ l1 _ _ t155 t161 _ ?side1 ?side2 ?side3 ?side4 (fun e => .inl (stands_nil A7.out e)) A9.out).mono ?_); (case side1 => repeat (first | exact (Kd.C_below HR1.out HB.out) | (with_reducible refine Kd.C_alloc ?_ _) | (with_reducible refine Kd.C_drewN ?_ _) | (with_reducible refine Kd.C_drew ?_))); (case side2 => exact HC1.out); (case side3 => repeat (first | exact (Kd.R_reads' HO157.out).2.2 | (with_reducible refine Kd.C_alloc ?_ _) | (with_reducible refine Kd.C_drewN ?_ _) | (with_reducible refine Kd.C_drew ?_))); (case side4 => exact (Kd.R_reads' HO157.out).2.1); rintro e w15 ⟨v162, rfl, ho0, hb⟩; have n0_ := Aside0.mk (Kd.R_below (by (with_reducible repeat (first | apply Kd.R_alloc | apply Kd.R_drewN | apply Kd.R_drew)); exact HO157.out) hb); have n1_ := Aside0.mk (Kd.R_elder' (by (with_reducible repeat (first | apply Kd.R_alloc | apply Kd.R_drewN | apply Kd.R_drew)); exact HO160.out) (Kd.R_base ho0) hb); have n2_ := Aside0.mk (Kd.R_lower (Kd.R_new' ho0 (Kd.R_lt (by (with_reducible repeat (first | apply Kd.R_alloc | apply Kd.R_drewN | apply Kd.R_drew)); exact HO160.out))) (below_size (by repeat (first | (with_reducible first | exact HB.out | apply below_alloc | apply pw_below_drewN | apply below_drew1) | exact HB.out)))); have n3_ := Aside0.mk (below_step (by repeat (first | (with_reducible first | exact HB.out | apply below_alloc | apply pw_below_drewN | apply below_drew1) | exact HB.out)) hb); clear HO157; clear HO160; clear HB; have HO157 := n0_; have HO160 := n1_; have HO163 := n2_; have HB := n3_; clear n0_ n1_ n2_ n3_; (try clear hb); (try clear hb2); (try clear hk); (try clear hi); (try clear ho0))); try go_wp2_with (first | (go_at_call 7; (with_reducible refine (kissgatelaw12_alive.calls true w _ HNG.out HZ.out (by repeat (first | (with_reducible first | exact HB.out | apply below_alloc | apply pw_below_drewN | apply below_drew1) | exact HB.out)) A3.out).mono ?_); rintro e w10 ⟨rfl, hb⟩; have n0_ := Aside0.mk (below_step (by repeat (first | (with_reducible first | exact HB.out | apply below_alloc | apply pw_below_drewN | apply below_drew1) | exact HB.out)) hb); clear HB; have HB := n0_; clear n0_; (try clear hb); (try clear hb2); (try clear hk); (try clear hi)) | (go_at_call 8; (with_reducible refine (kissgatelaw12_fits.calls _ _ l0 _ _ l1 true _ ?side1 ?side2 ?side3 ?side4 A5.out).mono ?_); (case side1 => repeat (first | exact (Kd.C_below HR0.out HB.out) | (with_reducible refine Kd.C_alloc ?_ _) | (with_reducible refine Kd.C_drewN ?_ _) | (with_reducible refine Kd.C_drew ?_))); (case side2 => exact HC0.out); (case side3 => repeat (first | exact (Kd.C_below HR1.out HB.out) | (with_reducible refine Kd.C_alloc ?_ _) | (with_reducible refine Kd.C_drewN ?_ _) | (with_reducible refine Kd.C_drew ?_))); (case side4 => exact HC1.out); rintro e w11 ⟨rfl, hb⟩; have n0_ := Aside0.mk (below_step (by repeat (first | (with_reducible first | exact HB.out | apply below_alloc | apply pw_below_drewN | apply below_drew1) | exact HB.out)) hb); clear HB; have HB := n0_; clear n0_; (try clear hb); (try clear hb2); (try clear hk); (try clear hi)) | (go_at_call 9; (with_reducible refine (kissgateref12_Stands.calls k _ _ l0 _ _ l1 t155 _ ?side1 ?side2 ?side3 ?side4 A7.out).mono ?_); (case side1 => repeat (first | exact (Kd.C_below HR0.out HB.out) | (with_reducible refine Kd.C_alloc ?_ _) | (with_reducible refine Kd.C_drewN ?_ _) | (with_reducible refine Kd.C_drew ?_))); (case side2 => exact HC0.out); (case side3 => repeat (first | exact (Kd.C_below HR1.out HB.out) | (with_reducible refine Kd.C_alloc ?_ _) | (with_reducible refine Kd.C_drewN ?_ _) | (with_reducible refine Kd.C_drew ?_))); (case side4 => exact HC1.out); rintro e w12 ⟨v156, rfl, ho0, hb⟩; have n0_ := Aside0.mk (Kd.R_lower ho0 (below_size (by repeat (first | (with_reducible first | exact HB.out | apply below_alloc | apply pw_below_drewN | apply below_drew1) | exact HB.out)))); have n1_ := Aside0.mk (below_step (by repeat (first | (with_reducible first | exact HB.out | apply below_alloc | apply pw_below_drewN | apply below_drew1) | exact HB.out)) hb); clear HB; have HO157 := n0_; have HB := n1_; clear n0_ n1_; (try clear hb); (try clear hb2); (try clear hk); (try clear hi); (try clear ho0)) | (go_at_call 10; (with_reducible refine (parts_nil.calls (l0.length : Int) _ _ l1 t158 _ ?side1 ?side2 A8.out).mono ?_); (case side1 => repeat (first | exact (Kd.C_below HR1.out HB.out) | (with_reducible refine Kd.C_alloc ?_ _) | (with_reducible refine Kd.C_drewN ?_ _) | (with_reducible refine Kd.C_drew ?_))); (case side2 => exact HC1.out); rintro e w13 ⟨v159, rfl, ho0, hb⟩; have n0_ := Aside0.mk (Kd.R_below (by (with_reducible repeat (first | apply Kd.R_alloc | apply Kd.R_drewN | apply Kd.R_drew)); exact HO157.out) hb); have n1_ := Aside0.mk (Kd.R_lower ho0 (below_size (by repeat (first | (with_reducible first | exact HB.out | apply below_alloc | apply pw_below_drewN | apply below_drew1) | exact HB.out)))); have n2_ := Aside0.mk (below_step (by repeat (first | (with_reducible first | exact HB.out | apply below_alloc | apply pw_below_drewN | apply below_drew1) | exact HB.out)) hb); clear HO157; clear HB; have HO157 := n0_; have HO160 := n1_; have HB := n2_; clear n0_ n1_ n2_; (try clear hb); (try clear hb2); (try clear hk); (try clear hi); (try clear ho0); obtain ⟨Ao14, co14, eo14⟩ := Kd.R_slice HO157.out; subst eo14) | (go_at_call 10; (with_reducible refine (kissgatelaw12_parts.calls (l0.length : Int) _ _ l1 _ _ t155 t161 _ ?side1 ?side2 ?side3 ?side4 (fun e => .inl (stands_nil A7.out e)) A9.out).mono ?_); (case side1 => repeat (first | exact (Kd.C_below HR1.out HB.out) | (with_reducible refine Kd.C_alloc ?_ _) | (with_reducible refine Kd.C_drewN ?_ _) | (with_reducible refine Kd.C_drew ?_))); (case side2 => exact HC1.out); (case side3 => repeat (first | exact (Kd.R_reads' HO157.out).2.2 | (with_reducible refine Kd.C_alloc ?_ _) | (with_reducible refine Kd.C_drewN ?_ _) | (with_reducible refine Kd.C_drew ?_))); (case side4 => exact (Kd.R_reads' HO157.out).2.1); rintro e w15 ⟨v162, rfl, ho0, hb⟩; have n0_ := Aside0.mk (Kd.R_below (by (with_reducible repeat (first | apply Kd.R_alloc | apply Kd.R_drewN | apply Kd.R_drew)); exact HO157.out) hb); have n1_ := Aside0.mk (Kd.R_elder' (by (with_reducible repeat (first | apply Kd.R_alloc | apply Kd.R_drewN | apply Kd.R_drew)); exact HO160.out) (Kd.R_base ho0) hb); have n2_ := Aside0.mk (Kd.R_lower (Kd.R_new' ho0 (Kd.R_lt (by (with_reducible repeat (first | apply Kd.R_alloc | apply Kd.R_drewN | apply Kd.R_drew)); exact HO160.out))) (below_size (by repeat (first | (with_reducible first | exact HB.out | apply below_alloc | apply pw_below_drewN | apply below_drew1) | exact HB.out)))); have n3_ := Aside0.mk (below_step (by repeat (first | (with_reducible first | exact HB.out | apply below_alloc | apply pw_below_drewN | apply below_drew1) | exact HB.out)) hb); clear HO157; clear HO160; clear HB; have HO157 := n0_; have HO160 := n1_; have HO163 := n2_; have HB := n3_; clear n0_ n1_ n2_ n3_; (try clear hb); (try clear hb2); (try clear hk); (try clear hi); (try clear ho0))))
      go_loopg [8, 32] k (fun kq v8 v32 w' => ∃ (x8_1 : Int) (x32_1 : Int), v8 = .int .i64 x8_1 ∧ v32 = .int .i64 x32_1 ∧ Aside0 (kissgatelaw12_TreeSpans.l0 kq l0 t155 t158 t161 x8_1 (t155.length : Int) x32_1 = some r) ∧ Aside0 (kq ≤ k) ∧ Aside0 (Kd.R Kd.bool 4 w' w.heap.size (fun _ => True) (.slice Ao14 t155.length co14) t155) ∧ Aside0 (Kd.R (Kd.int .i64) 3 w' w.heap.size (fun k_ => some k_ ≠ (v162 : Value).ownBlock) v159 t158) ∧ Aside0 (Kd.R (Kd.int .i64) 3 w' w.heap.size (fun k_ => some k_ ≠ (v159 : Value).ownBlock) v162 t161) ∧ Aside0 (Below w.heap.size w w'))
      case atStart => exact ⟨(0), (0), (by first | rfl | (simp; done) | (simp [*]; done)), (by first | rfl | (simp; done) | (simp [*]; done)), H', ⟨Nat.le_refl _⟩, ⟨by (with_reducible repeat (first | apply Kd.R_alloc | apply Kd.R_drewN | apply Kd.R_drew)); exact HO157.out⟩, ⟨by (with_reducible repeat (first | apply Kd.R_alloc | apply Kd.R_drewN | apply Kd.R_drew)); exact Kd.R_mono HO160.out (fun _ hk => hk.2)⟩, ⟨by (with_reducible repeat (first | apply Kd.R_alloc | apply Kd.R_drewN | apply Kd.R_drew)); exact Kd.R_mono HO163.out (fun _ hk => hk.2)⟩, ⟨by repeat (first | (with_reducible first | exact HB.out | apply below_alloc | apply pw_below_drewN | apply below_drew1) | exact HB.out)⟩⟩
      case round =>
        clear H'
        try clear c1
        try clear p2
        try clear c3
        try clear c4
        try clear c6
        obtain ⟨x8_1, x32_1, rfl, rfl, HA, HK1, HO_5, HO_6, HO_7, HB⟩ := hrel
        cases gk with
        | zero => exact absurd HA.out (by simp [kissgatelaw12_TreeSpans.l0])
        | succ k1 =>
          have H := HA.out
          clear HA
          simp only [kissgatelaw12_TreeSpans.l0] at H
          by_cases c16 : x32_1 < (t155.length : Int)
          · rw [if_pos c16] at H
            have c16b0 : decide (x32_1 < (t155.length : Int)) = true := decide_eq_true c16
            clear c16
            by_cases c17 : 0 ≤ x32_1
            · rw [if_pos c17] at H
              have c17b0 : decide (0 ≤ x32_1) = true := decide_eq_true c17
              clear c17
              by_cases c18 : x32_1 < (t155.length : Int)
              · rw [if_pos c18] at H
                have c18b0 : decide (x32_1 < (t155.length : Int)) = true := decide_eq_true c18
                clear c18
                obtain ⟨bq19, hbq19⟩ : ∃ b_ : Bool, b_ = (rdOf false t155 x32_1) := ⟨_, rfl⟩
                replace H : (if bq19 = true then (kissgatelaw12_TreeSpans.l0 k1 l0 t155 t158 t161 (wrap64 (x8_1 + 1)) (t155.length : Int) (wrap64 (x32_1 + 1))) else (kissgatelaw12_TreeSpans.l0 k1 l0 t155 t158 t161 x8_1 (t155.length : Int) (wrap64 (x32_1 + 1)))) = some r := by rw [← hbq19] at H; exact H
                have Nbq19 := Aside0.mk hbq19
                clear hbq19
                by_cases c20 : bq19 = true
                · subst c20
                  have H1 : (kissgatelaw12_TreeSpans.l0 k1 l0 t155 t158 t161 (wrap64 (x8_1 + 1)) (t155.length : Int) (wrap64 (x32_1 + 1))) = some r := by rw [if_pos rfl] at H; exact H
                  clear H
                  have H := H1
                  clear H1
                  have H' := Aside0.mk H
                  clear H
                  have p164 : 0 ≤ (x32_1 : Int) := of_decide_eq_true (by first | (with_reducible assumption) | assumption)
                  have q164 : x32_1 < (t155.length : Int) := of_decide_eq_true (by first | (with_reducible assumption) | assumption)
                  obtain ⟨ad164, e164, hx164_0⟩ := Kd.at_bool (Kd.R_reads' HO_5.out).2.2 x32_1 p164 q164
                  (try rw [← Nbq19.out] at hx164_0)
                  cases e164
                  replace p164 := eq_true p164
                  replace q164 := eq_true q164
                  go_wp2
                  repeat (go_quiet (fail); try go_wp2)
                  go_roundg k1
                  case measure => have := HK1.out; omega
                  case rel => exact ⟨(wrap64 (x8_1 + 1)), (wrap64 (x32_1 + 1)), (by first | rfl | (simp; done) | (simp [*]; done)), (by first | rfl | (simp; done) | (simp [*]; done)), H', ⟨by have := HK1.out; omega⟩, ⟨by (with_reducible repeat (first | apply Kd.R_alloc | apply Kd.R_drewN | apply Kd.R_drew)); exact HO_5.out⟩, ⟨by (with_reducible repeat (first | apply Kd.R_alloc | apply Kd.R_drewN | apply Kd.R_drew)); exact HO_6.out⟩, ⟨by (with_reducible repeat (first | apply Kd.R_alloc | apply Kd.R_drewN | apply Kd.R_drew)); exact HO_7.out⟩, ⟨by repeat (first | (with_reducible first | exact HB.out | apply below_alloc | apply pw_below_drewN | apply below_drew1) | exact HB.out)⟩⟩
                · replace c20 := Bool.eq_false_iff.mpr c20
                  subst c20
                  have H1 : (kissgatelaw12_TreeSpans.l0 k1 l0 t155 t158 t161 x8_1 (t155.length : Int) (wrap64 (x32_1 + 1))) = some r := by rw [if_neg (show ¬ (false = true) by decide)] at H; exact H
                  clear H
                  have H := H1
                  clear H1
                  have H' := Aside0.mk H
                  clear H
                  have p164 : 0 ≤ (x32_1 : Int) := of_decide_eq_true (by first | (with_reducible assumption) | assumption)
                  have q164 : x32_1 < (t155.length : Int) := of_decide_eq_true (by first | (with_reducible assumption) | assumption)
                  obtain ⟨ad164, e164, hx164_0⟩ := Kd.at_bool (Kd.R_reads' HO_5.out).2.2 x32_1 p164 q164
                  (try rw [← Nbq19.out] at hx164_0)
                  cases e164
                  replace p164 := eq_true p164
                  replace q164 := eq_true q164
                  go_wp2
                  repeat (go_quiet (fail); try go_wp2)
                  go_roundg k1
                  case measure => have := HK1.out; omega
                  case rel => exact ⟨(x8_1), (wrap64 (x32_1 + 1)), (by first | rfl | (simp; done) | (simp [*]; done)), (by first | rfl | (simp; done) | (simp [*]; done)), H', ⟨by have := HK1.out; omega⟩, ⟨by (with_reducible repeat (first | apply Kd.R_alloc | apply Kd.R_drewN | apply Kd.R_drew)); exact HO_5.out⟩, ⟨by (with_reducible repeat (first | apply Kd.R_alloc | apply Kd.R_drewN | apply Kd.R_drew)); exact HO_6.out⟩, ⟨by (with_reducible repeat (first | apply Kd.R_alloc | apply Kd.R_drewN | apply Kd.R_drew)); exact HO_7.out⟩, ⟨by repeat (first | (with_reducible first | exact HB.out | apply below_alloc | apply pw_below_drewN | apply below_drew1) | exact HB.out)⟩⟩
              · rw [if_neg c18] at H
                exact absurd H (by simp)
            · rw [if_neg c17] at H
              exact absurd H (by simp)
          · rw [if_neg c16] at H
            have c16b0 : decide (x32_1 < (t155.length : Int)) = false := decide_eq_false c16
            clear c16
            have H' := Aside0.mk H
            clear H
            obtain ⟨Ao21, co21, eo21⟩ := Kd.R_slice HO_6.out
            subst eo21
            go_wp2
            repeat (go_quiet (fail); try go_wp2)
            go_loopg [10, 44] k1 (fun kq v10 v44 w' => ∃ (x10_2 : Int) (x44_2 : Int), v10 = .int .i64 x10_2 ∧ v44 = .int .i64 x44_2 ∧ Aside0 (kissgatelaw12_TreeSpans.l1 kq l0 t158 t161 x8_1 x10_2 (t158.length : Int) x44_2 = some r) ∧ Aside0 (kq ≤ k1) ∧ Aside0 (Kd.R (Kd.int .i64) 3 w' w.heap.size (fun k_ => some k_ ≠ (v162 : Value).ownBlock) (.slice Ao21 t158.length co21) t158) ∧ Aside0 (Kd.R (Kd.int .i64) 3 w' w.heap.size (fun k_ => some k_ ≠ ((.slice Ao21 t158.length co21) : Value).ownBlock) v162 t161) ∧ Aside0 (Below w.heap.size w w'))
            case atStart => exact ⟨(0), (0), (by first | rfl | (simp; done) | (simp [*]; done)), (by first | rfl | (simp; done) | (simp [*]; done)), H', ⟨Nat.le_refl _⟩, ⟨by (with_reducible repeat (first | apply Kd.R_alloc | apply Kd.R_drewN | apply Kd.R_drew)); exact HO_6.out⟩, ⟨by (with_reducible repeat (first | apply Kd.R_alloc | apply Kd.R_drewN | apply Kd.R_drew)); exact HO_7.out⟩, ⟨by repeat (first | (with_reducible first | exact HB.out | apply below_alloc | apply pw_below_drewN | apply below_drew1) | exact HB.out)⟩⟩
            case round =>
              clear H'
              try clear c1
              try clear p1
              try clear q1
              try clear hx1
              try clear c2
              try clear p2
              try clear c3
              try clear c4
              try clear c6
              try clear p6
              try clear c16
              try clear c16b0
              try clear p16
              try clear q16
              try clear hx16
              try clear c17
              try clear c17b0
              try clear c18
              try clear c18b0
              try clear q19
              try clear c20
              try clear hx164_0
              try clear p164
              try clear p2
              try clear q164
              obtain ⟨x10_2, x44_2, rfl, rfl, HA, HK2, HO_6, HO_7, HB⟩ := hrel
              cases gk with
              | zero => exact absurd HA.out (by simp [kissgatelaw12_TreeSpans.l1])
              | succ k2 =>
                have H := HA.out
                clear HA
                simp only [kissgatelaw12_TreeSpans.l1] at H
                by_cases c22 : x44_2 < (t158.length : Int)
                · rw [if_pos c22] at H
                  have c22b0 : decide (x44_2 < (t158.length : Int)) = true := decide_eq_true c22
                  clear c22
                  by_cases c23 : 0 ≤ x44_2
                  · rw [if_pos c23] at H
                    have c23b0 : decide (0 ≤ x44_2) = true := decide_eq_true c23
                    clear c23
                    by_cases c24 : x44_2 < (t158.length : Int)
                    · rw [if_pos c24] at H
                      have c24b0 : decide (x44_2 < (t158.length : Int)) = true := decide_eq_true c24
                      clear c24
                      by_cases c25 : (rd t158 x44_2) = x44_2
                      · rw [if_pos c25] at H
                        have c25b0 : ((rd t158 x44_2) == x44_2) = true := beq_iff_eq.mpr c25
                        have c25b1 : ((rd t158 x44_2) != x44_2) = false := bne_eq_false_iff_eq.mpr c25
                        clear c25
                        by_cases c26 : x44_2 < (t161.length : Int)
                        · rw [if_pos c26] at H
                          have c26b0 : decide (x44_2 < (t161.length : Int)) = true := decide_eq_true c26
                          clear c26
                          by_cases c27 : (rd t158 x44_2) = (rd t161 x44_2)
                          · rw [if_pos c27] at H
                            have c27b0 : ((rd t158 x44_2) == (rd t161 x44_2)) = true := beq_iff_eq.mpr c27
                            have c27b1 : ((rd t158 x44_2) != (rd t161 x44_2)) = false := bne_eq_false_iff_eq.mpr c27
                            clear c27
                            have H' := Aside0.mk H
                            clear H
                            have p166 : 0 ≤ (x44_2 : Int) := of_decide_eq_true (by first | (with_reducible assumption) | assumption)
                            have q166 : x44_2 < (t158.length : Int) := of_decide_eq_true (by first | (with_reducible assumption) | assumption)
                            obtain ⟨ad166, e166, hx166_0⟩ := Kd.at_int (Kd.R_reads' HO_6.out).2.2 x44_2 p166 q166
                            cases e166
                            replace p166 := eq_true p166
                            replace q166 := eq_true q166
                            have p167 : 0 ≤ (x44_2 : Int) := of_decide_eq_true (by first | (with_reducible assumption) | assumption)
                            have q167 : x44_2 < (t158.length : Int) := of_decide_eq_true (by first | (with_reducible assumption) | assumption)
                            obtain ⟨ad167, e167, hx167_0⟩ := Kd.at_int (Kd.R_reads' HO_6.out).2.2 x44_2 p167 q167
                            obtain rfl : ad166 = ad167 := (by injection e167)
                            replace p167 := eq_true p167
                            replace q167 := eq_true q167
                            obtain ⟨Ao28, co28, eo28⟩ := Kd.R_slice HO_7.out
                            subst eo28
                            have p168 : 0 ≤ (x44_2 : Int) := of_decide_eq_true (by first | (with_reducible assumption) | assumption)
                            have q168 : x44_2 < (t161.length : Int) := of_decide_eq_true (by first | (with_reducible assumption) | assumption)
                            obtain ⟨ad168, e168, hx168_0⟩ := Kd.at_int (Kd.R_reads' HO_7.out).2.2 x44_2 p168 q168
                            cases e168
                            replace p168 := eq_true p168
                            replace q168 := eq_true q168
                            go_wp2
                            repeat (go_quiet (fail); try go_wp2)
                            go_roundg k2
                            case measure => have := HK1.out; have := HK2.out; omega
                            case rel => exact ⟨(wrap64 (x10_2 + 1)), (wrap64 (x44_2 + 1)), (by first | rfl | (simp; done) | (simp [*]; done)), (by first | rfl | (simp; done) | (simp [*]; done)), H', ⟨by have := HK1.out; have := HK2.out; omega⟩, ⟨by (with_reducible repeat (first | apply Kd.R_alloc | apply Kd.R_drewN | apply Kd.R_drew)); exact HO_6.out⟩, ⟨by (with_reducible repeat (first | apply Kd.R_alloc | apply Kd.R_drewN | apply Kd.R_drew)); exact HO_7.out⟩, ⟨by repeat (first | (with_reducible first | exact HB.out | apply below_alloc | apply pw_below_drewN | apply below_drew1) | exact HB.out)⟩⟩
                          · rw [if_neg c27] at H
                            have c27b0 : ((rd t158 x44_2) == (rd t161 x44_2)) = false := beq_eq_false_iff_ne.mpr c27
                            have c27b1 : ((rd t158 x44_2) != (rd t161 x44_2)) = true := bne_iff_ne.mpr c27
                            exact absurd (Option.some.inj H) (by rw [HRT.out]; decide)
                        · rw [if_neg c26] at H
                          exact absurd H (by simp)
                      · rw [if_neg c25] at H
                        have c25b0 : ((rd t158 x44_2) == x44_2) = false := beq_eq_false_iff_ne.mpr c25
                        have c25b1 : ((rd t158 x44_2) != x44_2) = true := bne_iff_ne.mpr c25
                        by_cases c30 : x44_2 < (t161.length : Int)
                        · rw [if_pos c30] at H
                          have c30b0 : decide (x44_2 < (t161.length : Int)) = true := decide_eq_true c30
                          clear c30
                          by_cases c31 : (rd t158 x44_2) = (rd t161 x44_2)
                          · rw [if_pos c31] at H
                            have c31b0 : ((rd t158 x44_2) == (rd t161 x44_2)) = true := beq_iff_eq.mpr c31
                            have c31b1 : ((rd t158 x44_2) != (rd t161 x44_2)) = false := bne_eq_false_iff_eq.mpr c31
                            clear c31
                            have H' := Aside0.mk H
                            clear H
                            have p166 : 0 ≤ (x44_2 : Int) := of_decide_eq_true (by first | (with_reducible assumption) | assumption)
                            have q166 : x44_2 < (t158.length : Int) := of_decide_eq_true (by first | (with_reducible assumption) | assumption)
                            obtain ⟨ad166, e166, hx166_0⟩ := Kd.at_int (Kd.R_reads' HO_6.out).2.2 x44_2 p166 q166
                            cases e166
                            replace p166 := eq_true p166
                            replace q166 := eq_true q166
                            have p169 : 0 ≤ (x44_2 : Int) := of_decide_eq_true (by first | (with_reducible assumption) | assumption)
                            have q169 : x44_2 < (t158.length : Int) := of_decide_eq_true (by first | (with_reducible assumption) | assumption)
                            obtain ⟨ad169, e169, hx169_0⟩ := Kd.at_int (Kd.R_reads' HO_6.out).2.2 x44_2 p169 q169
                            obtain rfl : ad166 = ad169 := (by injection e169)
                            replace p169 := eq_true p169
                            replace q169 := eq_true q169
                            obtain ⟨Ao32, co32, eo32⟩ := Kd.R_slice HO_7.out
                            subst eo32
                            have p170 : 0 ≤ (x44_2 : Int) := of_decide_eq_true (by first | (with_reducible assumption) | assumption)
                            have q170 : x44_2 < (t161.length : Int) := of_decide_eq_true (by first | (with_reducible assumption) | assumption)
                            obtain ⟨ad170, e170, hx170_0⟩ := Kd.at_int (Kd.R_reads' HO_7.out).2.2 x44_2 p170 q170
                            cases e170
                            replace p170 := eq_true p170
                            replace q170 := eq_true q170
                            go_wp2
                            repeat (go_quiet (fail); try go_wp2)
                            go_roundg k2
                            case measure => have := HK1.out; have := HK2.out; omega
                            case rel => exact ⟨(x10_2), (wrap64 (x44_2 + 1)), (by first | rfl | (simp; done) | (simp [*]; done)), (by first | rfl | (simp; done) | (simp [*]; done)), H', ⟨by have := HK1.out; have := HK2.out; omega⟩, ⟨by (with_reducible repeat (first | apply Kd.R_alloc | apply Kd.R_drewN | apply Kd.R_drew)); exact HO_6.out⟩, ⟨by (with_reducible repeat (first | apply Kd.R_alloc | apply Kd.R_drewN | apply Kd.R_drew)); exact HO_7.out⟩, ⟨by repeat (first | (with_reducible first | exact HB.out | apply below_alloc | apply pw_below_drewN | apply below_drew1) | exact HB.out)⟩⟩
                          · rw [if_neg c31] at H
                            have c31b0 : ((rd t158 x44_2) == (rd t161 x44_2)) = false := beq_eq_false_iff_ne.mpr c31
                            have c31b1 : ((rd t158 x44_2) != (rd t161 x44_2)) = true := bne_iff_ne.mpr c31
                            exact absurd (Option.some.inj H) (by rw [HRT.out]; decide)
                        · rw [if_neg c30] at H
                          exact absurd H (by simp)
                    · rw [if_neg c24] at H
                      exact absurd H (by simp)
                  · rw [if_neg c23] at H
                    exact absurd H (by simp)
                · rw [if_neg c22] at H
                  have c22b0 : decide (x44_2 < (t158.length : Int)) = false := decide_eq_false c22
                  clear c22
                  by_cases c34 : x8_1 = (wrap64 ((l0.length : Int) - x10_2))
                  · rw [if_pos c34] at H
                    have c34b0 : (x8_1 == (wrap64 ((l0.length : Int) - x10_2))) = true := beq_iff_eq.mpr c34
                    have c34b1 : (x8_1 != (wrap64 ((l0.length : Int) - x10_2))) = false := bne_eq_false_iff_eq.mpr c34
                    clear c34
                    replace H := Option.bind_eq_some_iff.mp H
                    obtain ⟨t165, A350, H⟩ := H
                    replace H : (some (t165 == (wrap64 ((wrap64 ((wrap64 ((wrap64 (10 + (l0.length : Int))) + 1)) * 27)) + 8)))) = some r := H
                    have A35 := Aside0.mk A350
                    clear A350
                    obtain rfl := Option.some.inj H
                    go_wp2_with (first | (go_at_call 11; (with_reducible refine (tree_Bound.calls (l0.length : Int) t165 _ A35.out).mono ?_); rintro e w36 ⟨rfl, hb⟩; have n0_ := Aside0.mk (Kd.R_below (by (with_reducible repeat (first | apply Kd.R_alloc | apply Kd.R_drewN | apply Kd.R_drew)); exact HO_6.out) hb); have n1_ := Aside0.mk (Kd.R_below (by (with_reducible repeat (first | apply Kd.R_alloc | apply Kd.R_drewN | apply Kd.R_drew)); exact HO_7.out) hb); have n2_ := Aside0.mk (below_step (by repeat (first | (with_reducible first | exact HB.out | apply below_alloc | apply pw_below_drewN | apply below_drew1) | exact HB.out)) hb); clear HO_6; clear HO_7; clear HB; have HO_6 := n0_; have HO_7 := n1_; have HB := n2_; clear n0_ n1_ n2_; (try clear hb); (try clear hb2); (try clear hk); (try clear hi)))
                    repeat (go_quiet (first | (go_at_call 11; (with_reducible refine (tree_Bound.calls (l0.length : Int) t165 _ A35.out).mono ?_); rintro e w36 ⟨rfl, hb⟩; have n0_ := Aside0.mk (Kd.R_below (by (with_reducible repeat (first | apply Kd.R_alloc | apply Kd.R_drewN | apply Kd.R_drew)); exact HO_6.out) hb); have n1_ := Aside0.mk (Kd.R_below (by (with_reducible repeat (first | apply Kd.R_alloc | apply Kd.R_drewN | apply Kd.R_drew)); exact HO_7.out) hb); have n2_ := Aside0.mk (below_step (by repeat (first | (with_reducible first | exact HB.out | apply below_alloc | apply pw_below_drewN | apply below_drew1) | exact HB.out)) hb); clear HO_6; clear HO_7; clear HB; have HO_6 := n0_; have HO_7 := n1_; have HB := n2_; clear n0_ n1_ n2_; (try clear hb); (try clear hb2); (try clear hk); (try clear hi))); try go_wp2_with (first | (go_at_call 11; (with_reducible refine (tree_Bound.calls (l0.length : Int) t165 _ A35.out).mono ?_); rintro e w36 ⟨rfl, hb⟩; have n0_ := Aside0.mk (Kd.R_below (by (with_reducible repeat (first | apply Kd.R_alloc | apply Kd.R_drewN | apply Kd.R_drew)); exact HO_6.out) hb); have n1_ := Aside0.mk (Kd.R_below (by (with_reducible repeat (first | apply Kd.R_alloc | apply Kd.R_drewN | apply Kd.R_drew)); exact HO_7.out) hb); have n2_ := Aside0.mk (below_step (by repeat (first | (with_reducible first | exact HB.out | apply below_alloc | apply pw_below_drewN | apply below_drew1) | exact HB.out)) hb); clear HO_6; clear HO_7; clear HB; have HO_6 := n0_; have HO_7 := n1_; have HB := n2_; clear n0_ n1_ n2_; (try clear hb); (try clear hb2); (try clear hk); (try clear hi))))
                    go_ret
                    exact ⟨by first | rfl | (simp [errW_none, errW_some] <;> rfl) | (simp [*, errW_none, errW_some] <;> rfl), by repeat (first | (with_reducible first | exact HB.out | apply below_alloc | apply pw_below_drewN | apply below_drew1) | exact HB.out)⟩
                  · rw [if_neg c34] at H
                    have c34b0 : (x8_1 == (wrap64 ((l0.length : Int) - x10_2))) = false := beq_eq_false_iff_ne.mpr c34
                    have c34b1 : (x8_1 != (wrap64 ((l0.length : Int) - x10_2))) = true := bne_iff_ne.mpr c34
                    exact absurd (Option.some.inj H) (by rw [HRT.out]; decide)
    · replace c6 := Bool.eq_false_iff.mpr c6
      subst c6
      have H1 : (some true) = some r := by rw [if_neg (show ¬ (false = true) by decide)] at H; exact H
      clear H
      have H := H1
      clear H1
      obtain rfl := Option.some.inj H
      go_enter Tryd.func3, Tryd.ntmps3
      go_wp2_with (first | (go_at_call 7; (with_reducible refine (kissgatelaw12_alive.calls true w _ HNG.out HZ.out (by repeat (first | (with_reducible first | exact HB.out | apply below_alloc | apply pw_below_drewN | apply below_drew1) | exact HB.out)) A3.out).mono ?_); rintro e w37 ⟨rfl, hb⟩; have n0_ := Aside0.mk (below_step (by repeat (first | (with_reducible first | exact HB.out | apply below_alloc | apply pw_below_drewN | apply below_drew1) | exact HB.out)) hb); clear HB; have HB := n0_; clear n0_; (try clear hb); (try clear hb2); (try clear hk); (try clear hi)) | (go_at_call 8; (with_reducible refine (kissgatelaw12_fits.calls _ _ l0 _ _ l1 false _ ?side1 ?side2 ?side3 ?side4 A5.out).mono ?_); (case side1 => repeat (first | exact (Kd.C_below HR0.out HB.out) | (with_reducible refine Kd.C_alloc ?_ _) | (with_reducible refine Kd.C_drewN ?_ _) | (with_reducible refine Kd.C_drew ?_))); (case side2 => exact HC0.out); (case side3 => repeat (first | exact (Kd.C_below HR1.out HB.out) | (with_reducible refine Kd.C_alloc ?_ _) | (with_reducible refine Kd.C_drewN ?_ _) | (with_reducible refine Kd.C_drew ?_))); (case side4 => exact HC1.out); rintro e w38 ⟨rfl, hb⟩; have n0_ := Aside0.mk (below_step (by repeat (first | (with_reducible first | exact HB.out | apply below_alloc | apply pw_below_drewN | apply below_drew1) | exact HB.out)) hb); clear HB; have HB := n0_; clear n0_; (try clear hb); (try clear hb2); (try clear hk); (try clear hi)))
      repeat (go_quiet (first | (go_at_call 7; (with_reducible refine (kissgatelaw12_alive.calls true w _ HNG.out HZ.out (by repeat (first | (with_reducible first | exact HB.out | apply below_alloc | apply pw_below_drewN | apply below_drew1) | exact HB.out)) A3.out).mono ?_); rintro e w37 ⟨rfl, hb⟩; have n0_ := Aside0.mk (below_step (by repeat (first | (with_reducible first | exact HB.out | apply below_alloc | apply pw_below_drewN | apply below_drew1) | exact HB.out)) hb); clear HB; have HB := n0_; clear n0_; (try clear hb); (try clear hb2); (try clear hk); (try clear hi)) | (go_at_call 8; (with_reducible refine (kissgatelaw12_fits.calls _ _ l0 _ _ l1 false _ ?side1 ?side2 ?side3 ?side4 A5.out).mono ?_); (case side1 => repeat (first | exact (Kd.C_below HR0.out HB.out) | (with_reducible refine Kd.C_alloc ?_ _) | (with_reducible refine Kd.C_drewN ?_ _) | (with_reducible refine Kd.C_drew ?_))); (case side2 => exact HC0.out); (case side3 => repeat (first | exact (Kd.C_below HR1.out HB.out) | (with_reducible refine Kd.C_alloc ?_ _) | (with_reducible refine Kd.C_drewN ?_ _) | (with_reducible refine Kd.C_drew ?_))); (case side4 => exact HC1.out); rintro e w38 ⟨rfl, hb⟩; have n0_ := Aside0.mk (below_step (by repeat (first | (with_reducible first | exact HB.out | apply below_alloc | apply pw_below_drewN | apply below_drew1) | exact HB.out)) hb); clear HB; have HB := n0_; clear n0_; (try clear hb); (try clear hb2); (try clear hk); (try clear hi))); try go_wp2_with (first | (go_at_call 7; (with_reducible refine (kissgatelaw12_alive.calls true w _ HNG.out HZ.out (by repeat (first | (with_reducible first | exact HB.out | apply below_alloc | apply pw_below_drewN | apply below_drew1) | exact HB.out)) A3.out).mono ?_); rintro e w37 ⟨rfl, hb⟩; have n0_ := Aside0.mk (below_step (by repeat (first | (with_reducible first | exact HB.out | apply below_alloc | apply pw_below_drewN | apply below_drew1) | exact HB.out)) hb); clear HB; have HB := n0_; clear n0_; (try clear hb); (try clear hb2); (try clear hk); (try clear hi)) | (go_at_call 8; (with_reducible refine (kissgatelaw12_fits.calls _ _ l0 _ _ l1 false _ ?side1 ?side2 ?side3 ?side4 A5.out).mono ?_); (case side1 => repeat (first | exact (Kd.C_below HR0.out HB.out) | (with_reducible refine Kd.C_alloc ?_ _) | (with_reducible refine Kd.C_drewN ?_ _) | (with_reducible refine Kd.C_drew ?_))); (case side2 => exact HC0.out); (case side3 => repeat (first | exact (Kd.C_below HR1.out HB.out) | (with_reducible refine Kd.C_alloc ?_ _) | (with_reducible refine Kd.C_drewN ?_ _) | (with_reducible refine Kd.C_drew ?_))); (case side4 => exact HC1.out); rintro e w38 ⟨rfl, hb⟩; have n0_ := Aside0.mk (below_step (by repeat (first | (with_reducible first | exact HB.out | apply below_alloc | apply pw_below_drewN | apply below_drew1) | exact HB.out)) hb); clear HB; have HB := n0_; clear n0_; (try clear hb); (try clear hb2); (try clear hk); (try clear hi))))
      go_ret
      exact ⟨by first | rfl | (simp [errW_none, errW_some] <;> rfl) | (simp [*, errW_none, errW_some] <;> rfl), by repeat (first | (with_reducible first | exact HB.out | apply below_alloc | apply pw_below_drewN | apply below_drew1) | exact HB.out)⟩
  · replace c4 := Bool.eq_false_iff.mpr c4
    subst c4
    have H1 : (some false) = some r := by rw [if_neg (show ¬ (false = true) by decide)] at H; exact H
    clear H
    have H := H1
    clear H1
    exact absurd (Option.some.inj H) (by rw [HRT.out]; decide)end Go.Proofs.YtfimhaodgekkgaaDoor.QSpn
namespace Go.Proofs.YtfimhaodgekkgaaDoor.Opn
open Go.ChangeShapes Go.WideShapes Go.Proofs.YtfimhaodgekkgaaDoorW.PrintWords
variable {P : Program}
def Opens {α : Type} (P : Program) (t : TypeId) (d : Kd α) (good : α → Prop) : Prop :=
  ∀ (H : Type) (enc : TypeId × Value → H) (w : World) (fuel : Nat) (cs : List Value) (x : DataW H × List MemPlace),
    DataW.trod enc P w 0 (fun _ => true) true fuel t cs = some x → (∀ n ∈ x.1.weights P t, n ≤ reachBytes) → ∃ a : α, d.K w a cs ∧ good a
theorem opens_int {t : TypeId} {k : IntKind} (hu : P.underlying t = some (.int k)) : Opens P t (Kd.int k) (fun n => (Lit.int k n).wf = true) := by
  intro H enc w fuel cs x h _
  obtain ⟨n, rfl, _, hw⟩ := DataW.trod_int hu h
  exact ⟨n, rfl, hw⟩
theorem weightsAll_mem {H : Type} {e : TypeId} : ∀ {l : List (DataW H)} {d : DataW H}, d ∈ l → ∀ n ∈ d.weights P e, n ∈ DataW.weightsAll P e l
  | [], d, h, _, _ => by simp at h
  | d0 :: l, d, h, n, hn => by
    simp only [DataW.weightsAll, List.mem_append]
    rcases List.mem_cons.1 h with rfl | h
    · exact Or.inl hn
    · exact Or.inr (weightsAll_mem h n hn)
theorem add_at_ (a : Addr) (i j : Nat) : (a.add i).add j = a.add (i + j) := by
  unfold Addr.add
  by_cases hi : i = 0
  · subst hi; simp
  · by_cases hj : j = 0
    · subst hj; simp
    · simp [hi, hj, Nat.add_assoc]
theorem choose_list {α : Type} {Q : Nat → α → Prop} : ∀ (n : Nat), (∀ i, i < n → ∃ a, Q i a) → ∃ l : List α, l.length = n ∧ ∀ i a, l[i]? = some a → Q i a
  | 0, _ => ⟨[], rfl, fun i a h => by simp at h⟩
  | n + 1, h => by
    obtain ⟨l, hl, hq⟩ := choose_list n (fun i hi => h i (by omega))
    obtain ⟨a, ha⟩ := h n (by omega)
    refine ⟨l ++ [a], by simp [hl], fun i b hb => ?_⟩
    rcases Nat.lt_or_ge i l.length with hi | hi
    · rw [List.getElem?_append_left hi] at hb
      exact hq i b hb
    · rw [List.getElem?_append_right hi] at hb
      have hlt := (List.getElem?_eq_some_iff.1 hb).1
      simp at hlt
      have e : i = n := by omega
      subst e
      rw [show i - l.length = 0 from by omega] at hb
      have hb' : a = b := by simpa using hb
      subst hb'
      exact ha
theorem opens_slice_row {α : Type} {t e : TypeId} {d : Kd α} {good : α → Prop} (hu : P.underlying t = some (.slice e)) (hC : P.cellsOf e = d.sz) {B : Nat} (hB : P.bytesOf e = B) (ho : Opens P e d good)
    (H : Type) (enc : TypeId × Value → H) (w : World) (fuel : Nat) (A : Option Addr) (len cap : Nat) (x : DataW H × List MemPlace)
    (h : DataW.trod enc P w 0 (fun _ => true) true fuel t [.slice A len cap] = some x) (hz : ∀ n ∈ x.1.weights P t, n ≤ reachBytes) :
    ∃ l : List α, l.length = len ∧ len ≤ cap ∧ d.C w A len l ∧ len ≤ maxLen ∧ len * B ≤ 140737488351232 ∧ ∀ a ∈ l, good a := by
  rcases DataW.trod_slice hu h with ⟨h0, _⟩ | ⟨a, len', cap', elems, rest, n, _, hcs, hx, _, hl, hm, hlen, hel, _, _⟩
  · simp only [List.cons.injEq, Value.slice.injEq, and_true] at h0
    obtain ⟨rfl, rfl, rfl⟩ := h0
    exact ⟨[], rfl, Nat.le_refl _, ⟨rfl, Nat.zero_le _, fun h => absurd h (by omega)⟩, Nat.zero_le _, by simp, fun a ha => by simp at ha⟩
  · simp only [List.cons.injEq, Value.slice.injEq, and_true] at hcs
    obtain ⟨rfl, rfl, rfl⟩ := hcs
    have each : ∀ i, i < len → ∃ b : α, (∃ c, c.length = d.sz ∧ d.K w b c ∧ ∀ j u, c[j]? = some u → w.cell? (a.add (i * d.sz + j)) = some u) ∧ good b := by
      intro i hi
      have h1 := hel i hi
      have hie : i < elems.length := by omega
      rw [List.getElem?_eq_getElem hie, Option.bind_eq_some_iff] at h1
      obtain ⟨cs', hc, ht'⟩ := h1
      have hw' : ∀ n ∈ (elems[i]).1.weights P e, n ≤ reachBytes := by
        intro m hm'
        refine hz m ?_
        rw [hx]
        simp only [DataW.weights, hu]
        refine List.mem_cons_of_mem _ (List.mem_append_left _ ?_)
        exact weightsAll_mem (List.mem_map.2 ⟨elems[i], List.getElem_mem hie, rfl⟩) m hm'
      obtain ⟨b, hb, hg⟩ := ho H enc w _ cs' _ ht' hw'
      obtain ⟨_, hcl, hat⟩ := World.cells?_some hc
      refine ⟨b, ⟨cs', by rw [hcl, hC], hb, fun j u hu' => ?_⟩, hg⟩
      have hj : j < P.cellsOf e := by
        have := (List.getElem?_eq_some_iff.1 hu').1
        omega
      have := hat j hj
      rw [hC] at this
      rw [← add_at_, this, hu']
    obtain ⟨l, hll, hq⟩ := choose_list len each
    refine ⟨l, hll, hl, ⟨hll, by simp only [maxLen] at hm; omega, fun _ => ⟨a, rfl, fun j p hj => (hq j p hj).1⟩⟩, by omega, ?_, fun b hb => ?_⟩
    · have h1 := hz ((elems.length + rest.length) * P.bytesOf e) (by rw [hx]; simp [DataW.weights, hu])
      rw [hB] at h1
      simp only [reachBytes] at h1
      refine Nat.le_trans (Nat.mul_le_mul_right _ ?_) h1
      omega
    · obtain ⟨i, hi⟩ := List.getElem?_of_mem hb
      exact (hq i b hi).2
def OpensFs {α : Type} (P : Program) (off : Nat) (fs : List Field) (d : Kd α) (good : α → Prop) : Prop :=
  ∀ (H : Type) (enc : TypeId × Value → H) (w : World) (fuel : Nat) (cs : List Value) (ys : List (DataW H × List MemPlace)),
    cs.length = off + d.sz → ys.length = fs.length → (∀ (i : Nat) (f : Field), fs[i]? = some f → DataW.trod enc P w 0 (fun _ => true) true fuel f.type ((cs.drop f.offset).take (P.cellsOf f.type)) = ys[i]?) →
    (∀ n ∈ DataW.weightsEach P (fs.map (·.type)) (ys.map (·.1)), n ≤ reachBytes) → ∃ a : α, d.K w a (cs.drop off) ∧ good a
theorem opensFs_one {α : Type} {off : Nat} {f : Field} {d : Kd α} {good : α → Prop} (ho : f.offset = off) (hC : P.cellsOf f.type = d.sz) (h : Opens P f.type d good) : OpensFs P off [f] d good := by
  intro H enc w fuel cs ys hcs hy hf hz
  match ys, hy with
  | [y], _ =>
    have h1 := hf 0 f rfl
    rw [ho, hC, List.take_of_length_le (by simp [List.length_drop]; omega)] at h1
    exact h H enc w fuel _ y h1 (fun n hn => hz n (by simp only [List.map_cons, DataW.weightsEach, List.mem_append]; exact Or.inl hn))
theorem opensFs_cons {α β : Type} {off : Nat} {f : Field} {fs : List Field} {d : Kd α} {e : Kd β} {g1 : α → Prop} {g2 : β → Prop} (ho : f.offset = off) (hC : P.cellsOf f.type = d.sz) (h : Opens P f.type d g1) (hs : OpensFs P (off + d.sz) fs e g2) :
    OpensFs P off (f :: fs) (Kd.pair d e) (fun p => g1 p.1 ∧ g2 p.2) := by
  intro H enc w fuel cs ys hcs hy hf hz
  match ys, hy with
  | y :: ys, hy =>
    have hsz : (Kd.pair d e).sz = d.sz + e.sz := rfl
    rw [hsz] at hcs
    have h1 := hf 0 f rfl
    rw [ho, hC] at h1
    obtain ⟨a, ha, hga⟩ := h H enc w fuel _ y h1 (fun n hn => hz n (by simp only [List.map_cons, DataW.weightsEach, List.mem_append]; exact Or.inl hn))
    obtain ⟨b, hb, hgb⟩ := hs H enc w fuel cs ys (by omega) (by simpa using hy) (fun i f' hi => by simpa using hf (i + 1) f' (by simpa using hi)) (fun n hn => hz n (by simp only [List.map_cons, DataW.weightsEach, List.mem_append]; exact Or.inr hn))
    refine ⟨(a, b), ⟨(cs.drop off).take d.sz, cs.drop (off + d.sz), ?_, ha, hb⟩, hga, hgb⟩
    rw [← List.drop_drop, List.take_append_drop]
theorem opens_struct {α : Type} {t : TypeId} {fs : Array Field} {d : Kd α} {good : α → Prop} (hu : P.underlying t = some (.struct fs)) (hC : P.cellsOf t = d.sz) (h : OpensFs P 0 fs.toList d good) : Opens P t d good := by
  intro H enc w fuel cs x hx hz
  obtain ⟨ys, n, _, hxe, hlen, hyl, hf⟩ := DataW.trod_struct hu hx
  obtain ⟨a, ha, hg⟩ := h H enc w n cs ys (by omega) (by simpa using hyl) (fun i f hi => hf i f (by simpa using hi)) (fun m hm => hz m (by rw [hxe]; simp only [DataW.weights, hu]; exact hm))
  exact ⟨a, by simpa using ha, hg⟩
theorem opens_iso {α β : Type} {t : TypeId} {d : Kd α} {good : α → Prop} (f : β → α) (g : α → β) (hfg : ∀ a, f (g a) = a) (h : Opens P t d good) : Opens P t (Kd.iso d f) (fun b => good (f b)) := by
  intro H enc w fuel cs x hx hz
  obtain ⟨a, ha, hga⟩ := h H enc w fuel cs x hx hz
  refine ⟨g a, ?_, by show good (f (g a)); rw [hfg]; exact hga⟩
  show d.K w (f (g a)) cs
  rw [hfg]
  exact ha
theorem opens_imp {α : Type} {t : TypeId} {d : Kd α} {g1 g2 : α → Prop} (h : Opens P t d g1) (hg : ∀ a, g1 a → g2 a) : Opens P t d g2 := by
  intro H enc w fuel cs x hx hz
  obtain ⟨a, ha, hga⟩ := h H enc w fuel cs x hx hz
  exact ⟨a, ha, hg a hga⟩
theorem weights_of {H : Type} {ts : List TypeId} {ds : List (DataW H)} (h : (DataW.weightsEach P ts ds).all (· ≤ reachBytes) = true) {j : Nat} {t : TypeId} {d : DataW H} (ht : ts[j]? = some t) (hd : ds[j]? = some d) : ∀ n ∈ d.weights P t, n ≤ reachBytes := by
  intro n hn
  have := List.all_eq_true.1 h _ (DataW.weights_mem_each ht hd n hn)
  simpa using this
theorem arg_slice {α : Type} {t e : TypeId} {d : Kd α} {good : α → Prop} (hu : P.underlying t = some (.slice e)) (hC : P.cellsOf e = d.sz) {B : Nat} (hB : P.bytesOf e = B) (ho : Opens P e d good)
    {H : Type} {enc : TypeId × Value → H} {w : World} {r : Reach} {b0 : Nat} {v : Value} {x : DataW H} {ps : List MemPlace} (hv : Value.okWide P w r b0 t v)
    (h : DataW.Trod enc P w 0 (fun _ => true) true t v x ps) (hz : ∀ n ∈ x.weights P t, n ≤ reachBytes) :
    ∃ (A : Option Addr) (c : Nat) (l : List α), v = .slice A l.length c ∧ l.length ≤ c ∧ d.C w A l.length l ∧ l.length ≤ maxLen ∧ l.length * B ≤ 140737488351232 ∧ ∀ a ∈ l, good a := by
  obtain ⟨A, len, c, rfl⟩ := okWide_slice hu hv
  obtain ⟨fuel, hf⟩ := h
  have hf' : DataW.trod enc P w 0 (fun _ => true) true fuel t [.slice A len c] = some (x, ps) := by simpa [Value.cells] using hf
  obtain ⟨l, rfl, hlc, hC', hm, hb, hg⟩ := opens_slice_row hu hC hB ho H enc w fuel A len c _ hf' hz
  exact ⟨A, c, l, rfl, hlc, hC', hm, hb, hg⟩
end Go.Proofs.YtfimhaodgekkgaaDoor.Opn
namespace Go.Proofs.YtfimhaodgekkgaaDoor.treeSpans
open Go.RowKit Go.Proofs.YtfimhaodgekkgaaDoorW.PrintWords Go.Proofs.YtfimhaodgekkgaaDoorW.PrintLast Go.Proofs.YtfimhaodgekkgaaDoorW.PrintMore Go.Proofs.YtfimhaodgekkgaaDoor.QSpn
set_option linter.unusedVariables false
def G72 (x : S72) : Prop := (Lit.int .i64 x.f0).wf = true ∧ (Lit.int .i64 x.f1).wf = true ∧ (Lit.int .i64 x.f2).wf = true ∧ (Lit.int .i64 x.f3).wf = true ∧ (Lit.int .i64 x.f4).wf = true ∧ (Lit.int .i64 x.f5).wf = true
def Pure : Prop := ∀ (x0 : (List Int)) (x1 : (List S72)), (x0.length ≤ maxLen ∧ x0.length * 8 ≤ 140737488351232 ∧ ∀ a ∈ x0, (Lit.int .i64 a).wf = true) → (x1.length ≤ maxLen ∧ x1.length * 48 ≤ 140737488351232 ∧ ∀ a ∈ x1, G72 a) → ∃ k, kissgatelaw12_TreeSpans.f k x0 x1 = some true
end Go.Proofs.YtfimhaodgekkgaaDoor.treeSpans
namespace Go.Proofs.YtfimhaodgekkgaaDoor.Spn
open Go.Proofs.YtfimhaodgekkgaaDoor.QSpn
set_option linter.unusedVariables false
def Lt (x y : S36) : Prop := x.f0 < y.f0 ∨ x.f0 = y.f0 ∧ (x.f1 < y.f1 ∨ x.f1 = y.f1 ∧ (x.f2 < y.f2 ∨ x.f2 = y.f2 ∧ x.f3 < y.f3))
instance (x y : S36) : Decidable (Lt x y) := by unfold Lt; exact inferInstance
theorem Lt.irrefl (x : S36) : ¬ Lt x x := by unfold Lt; omega
theorem Lt.asymm {x y : S36} (h : Lt x y) : ¬ Lt y x := by unfold Lt at *; omega
theorem Lt.letrans {x y z : S36} (h : ¬ Lt y x) (k : ¬ Lt z y) : ¬ Lt z x := by unfold Lt at *; omega
theorem Lt.anti {x y : S36} (h : ¬ Lt x y) (k : ¬ Lt y x) : x = y := by
  obtain ⟨x0, x1, x2, x3⟩ := x
  obtain ⟨y0, y1, y2, y3⟩ := y
  unfold Lt at h k
  dsimp only at h k
  have e0 : x0 = y0 := by omega
  have e1 : x1 = y1 := by omega
  have e2 : x2 = y2 := by omega
  have e3 : x3 = y3 := by omega
  rw [e0, e1, e2, e3]
def Nn (x : S36) : Prop := 0 ≤ x.f0 ∧ 0 ≤ x.f1 ∧ 0 ≤ x.f2 ∧ 0 ≤ x.f3
def enc4 (x : S36) : Nat × Nat × Nat × Nat := (x.f0.toNat, x.f1.toNat, x.f2.toNat, x.f3.toNat)
def lex4 : Nat × Nat × Nat × Nat → Nat × Nat × Nat × Nat → Prop := Prod.Lex (· < ·) (Prod.Lex (· < ·) (Prod.Lex (· < ·) (· < ·)))
theorem lex4_wf : WellFounded lex4 := (Prod.lex Nat.lt_wfRel (Prod.lex Nat.lt_wfRel (Prod.lex Nat.lt_wfRel Nat.lt_wfRel))).wf
theorem lex4_of {x y : S36} (hx : Nn x) (hy : Nn y) (h : Lt x y) : lex4 (enc4 x) (enc4 y) := by
  obtain ⟨x0, x1, x2, x3⟩ := x
  obtain ⟨y0, y1, y2, y3⟩ := y
  obtain ⟨a0, a1, a2, a3⟩ := hx
  obtain ⟨b0, b1, b2, b3⟩ := hy
  dsimp only at a0 a1 a2 a3 b0 b1 b2 b3
  unfold enc4 lex4
  dsimp only
  rcases h with h | ⟨h, h2⟩
  · exact Prod.Lex.left _ _ (by dsimp only at h; omega)
  · dsimp only at h
    subst h
    refine Prod.Lex.right _ ?_
    rcases h2 with h | ⟨h, h2⟩
    · exact Prod.Lex.left _ _ (by dsimp only at h; omega)
    · dsimp only at h
      subst h
      refine Prod.Lex.right _ ?_
      rcases h2 with h | ⟨h, h2⟩
      · exact Prod.Lex.left _ _ (by dsimp only at h; omega)
      · dsimp only at h h2
        subst h
        exact Prod.Lex.right _ (by omega)
theorem rests (f : Nat → S36) (hn : ∀ t, Nn (f t)) (hd : ∀ t, ¬ Lt (f t) (f (t + 1))) : ∃ K, ∀ t, K ≤ t → f t = f K := by
  have hm : ∀ t d, ¬ Lt (f t) (f (t + d)) := by
    intro t d
    induction d with
    | zero => exact Lt.irrefl _
    | succ d ih => exact Lt.letrans (hd (t + d)) ih
  have key : ∀ v, ∀ t, enc4 (f t) = v → ∃ K, ∀ t, K ≤ t → f t = f K := by
    intro v
    induction v using lex4_wf.induction with
    | _ v ih =>
      intro t e
      by_cases h : ∀ t', t ≤ t' → f t' = f t
      · exact ⟨t, h⟩
      · obtain ⟨t', h⟩ := Classical.not_forall.1 h
        obtain ⟨h1, h2⟩ := Classical.not_imp.1 h
        obtain ⟨d, rfl⟩ := Nat.le.dest h1
        have hl : Lt (f (t + d)) (f t) := Classical.byContradiction fun h3 => h2 (Lt.anti h3 (hm t d))
        exact ih (enc4 (f (t + d))) (by rw [← e]; exact lex4_of (hn _) (hn _) hl) (t + d) rfl
  exact key _ 0 rfl
theorem filter_le {l : List Nat} {p q : Nat → Bool} (h : ∀ x, x ∈ l → p x = true → q x = true) : (l.filter p).length ≤ (l.filter q).length := by
  induction l with
  | nil => simp
  | cons a l ih =>
    have := ih (fun x hx => h x (List.mem_cons_of_mem _ hx))
    have h0 := h a List.mem_cons_self
    by_cases hp : p a = true
    · rw [List.filter_cons_of_pos hp, List.filter_cons_of_pos (h0 hp)]
      simpa using this
    · rw [List.filter_cons_of_neg hp]
      by_cases hq : q a = true
      · rw [List.filter_cons_of_pos hq, List.length_cons]
        omega
      · rw [List.filter_cons_of_neg hq]
        exact this
theorem filter_lt {l : List Nat} {p q : Nat → Bool} (h : ∀ x, x ∈ l → p x = true → q x = true) (hx : ∃ x, x ∈ l ∧ p x = false ∧ q x = true) : (l.filter p).length < (l.filter q).length := by
  induction l with
  | nil => obtain ⟨x, hx, _⟩ := hx; simp at hx
  | cons a l ih =>
    have h2 := fun x (hx : x ∈ l) => h x (List.mem_cons_of_mem _ hx)
    have h0 := h a List.mem_cons_self
    obtain ⟨x, hm, hp, hq⟩ := hx
    rcases List.mem_cons.1 hm with e | hm
    · subst e
      rw [List.filter_cons_of_neg (by rw [hp]; decide), List.filter_cons_of_pos hq, List.length_cons]
      exact Nat.lt_succ_of_le (filter_le h2)
    · have := ih h2 ⟨x, hm, hp, hq⟩
      by_cases hp : p a = true
      · rw [List.filter_cons_of_pos hp, List.filter_cons_of_pos (h0 hp)]
        simpa using this
      · rw [List.filter_cons_of_neg hp]
        by_cases hq : q a = true
        · rw [List.filter_cons_of_pos hq, List.length_cons]
          omega
        · rw [List.filter_cons_of_neg hq]
          exact this
theorem grow (n : Nat) (P : Nat → Nat → Prop) (mono : ∀ t x, x < n → P t x → P (t + 1) x) (step : ∀ t, (∃ x, x < n ∧ ¬ P t x) → ∃ x, x < n ∧ ¬ P t x ∧ P (t + 1) x) : ∀ x, x < n → P n x := by
  classical
  have key : ∀ t, ((List.range n).filter fun x => !decide (P t x)).length ≤ n - t := by
    intro t
    induction t with
    | zero => exact Nat.le_trans (List.length_filter_le _ _) (by simp)
    | succ t ih =>
      by_cases h : ∃ x, x < n ∧ ¬ P t x
      · obtain ⟨x, hx, h1, h2⟩ := step t h
        have := filter_lt (l := List.range n) (p := fun x => !decide (P (t + 1) x)) (q := fun x => !decide (P t x))
          (fun y hy h => by
            have hy := List.mem_range.1 hy
            simp only [Bool.not_eq_true', decide_eq_false_iff_not] at h ⊢
            exact fun hp => h (mono t y hy hp))
          ⟨x, List.mem_range.2 hx, by simpa using h2, by simpa using h1⟩
        omega
      · have h2 : ∀ x, x < n → P t x := fun x hx => Classical.byContradiction fun hn => h ⟨x, hx, hn⟩
        have e : ((List.range n).filter fun x => !decide (P (t + 1) x)) = [] := by
          rw [List.filter_eq_nil_iff]
          intro x hx
          have hx := List.mem_range.1 hx
          simpa using mono t x hx (h2 x hx)
        rw [e]
        exact Nat.zero_le _
  intro x hx
  have h0 := key n
  rw [Nat.sub_self] at h0
  have e := List.length_eq_zero_iff.1 (Nat.le_zero.1 h0)
  rw [List.filter_eq_nil_iff] at e
  simpa using e x (List.mem_range.2 hx)
theorem inj_len {l : List Nat} {l' : List Nat} (f : Nat → Nat) (hl : l.Nodup) (hm : ∀ x, x ∈ l → f x ∈ l') (hi : ∀ x y, x ∈ l → y ∈ l → f x = f y → x = y) : l.length ≤ l'.length := by
  induction l generalizing l' with
  | nil => exact Nat.zero_le _
  | cons a l ih =>
    have ha := hm a List.mem_cons_self
    rw [List.nodup_cons] at hl
    have := ih (l' := l'.erase (f a)) hl.2 (fun x hx => by
      refine (List.mem_erase_of_ne ?_).2 (hm x (List.mem_cons_of_mem _ hx))
      intro e
      have := hi x a (List.mem_cons_of_mem _ hx) List.mem_cons_self e
      subst this
      exact hl.1 hx) (fun x y hx hy => hi x y (List.mem_cons_of_mem _ hx) (List.mem_cons_of_mem _ hy))
    rw [List.length_erase_of_mem ha] at this
    have := List.length_pos_of_mem ha
    rw [List.length_cons]
    omega
theorem least (n : Nat) (P : Nat → Prop) (F : Nat → S36) (h : ∃ x, x < n ∧ P x) : ∃ x, x < n ∧ P x ∧ ∀ y, y < n → P y → ¬ ((F y).f0 < (F x).f0 ∨ (F y).f0 = (F x).f0 ∧ (F y).f1 < (F x).f1) := by
  induction n with
  | zero => obtain ⟨x, hx, _⟩ := h; omega
  | succ n ih =>
    by_cases h2 : ∃ x, x < n ∧ P x
    · obtain ⟨x, hx, hp, hl⟩ := ih h2
      by_cases h3 : P n ∧ ((F n).f0 < (F x).f0 ∨ (F n).f0 = (F x).f0 ∧ (F n).f1 < (F x).f1)
      · refine ⟨n, Nat.lt_succ_self n, h3.1, fun y hy hpy hlt => ?_⟩
        rcases Nat.lt_succ_iff_lt_or_eq.1 hy with h | h
        · have := hl y h hpy
          omega
        · subst h
          omega
      · refine ⟨x, by omega, hp, fun y hy hpy hlt => ?_⟩
        rcases Nat.lt_succ_iff_lt_or_eq.1 hy with h | h
        · exact hl y h hpy hlt
        · subst h
          exact h3 ⟨hpy, hlt⟩
    · obtain ⟨x, hx, hp⟩ := h
      have e : x = n := by
        rcases Nat.lt_succ_iff_lt_or_eq.1 hx with h | h
        · exact absurd ⟨x, h, hp⟩ h2
        · exact h
      subst e
      refine ⟨x, Nat.lt_succ_self x, hp, fun y hy hpy hlt => ?_⟩
      rcases Nat.lt_succ_iff_lt_or_eq.1 hy with h | h
      · exact h2 ⟨y, h, hpy⟩
      · subst h
        omega
structure Gr where
  n : Nat
  m : Nat
  ids : Nat → Int
  A : Nat → Nat
  B : Nat → Nat
  PA : Nat → Int
  PB : Nat → Int
  CA : Nat → Int
  CB : Nat → Int
structure Gr.Ok (g : Gr) : Prop where
  hA : ∀ k, k < g.m → g.A k < g.n
  hB : ∀ k, k < g.m → g.B k < g.n
  hAB : ∀ k, k < g.m → g.A k ≠ g.B k
  hid : ∀ x, x < g.n → 0 ≤ g.ids x
  inj : ∀ x y, x < g.n → y < g.n → g.ids x = g.ids y → x = y
  hPA : ∀ k, k < g.m → 0 ≤ g.PA k
  hPB : ∀ k, k < g.m → 0 ≤ g.PB k
  hCA : ∀ k, k < g.m → 1 ≤ g.CA k
  hCB : ∀ k, k < g.m → 1 ≤ g.CB k
  eAA : ∀ j k, j < g.m → k < g.m → g.A j = g.A k → g.PA j = g.PA k → j = k
  eBB : ∀ j k, j < g.m → k < g.m → g.B j = g.B k → g.PB j = g.PB k → j = k
  eAB : ∀ j k, j < g.m → k < g.m → ¬ (g.A j = g.B k ∧ g.PA j = g.PB k)
namespace Gr
variable (g : Gr)
def src (k : Nat) (s : Bool) : Nat := bif s then g.B k else g.A k
def dst (k : Nat) (s : Bool) : Nat := bif s then g.A k else g.B k
def port (k : Nat) (s : Bool) : Int := bif s then g.PB k else g.PA k
def cost (k : Nat) (s : Bool) : Int := bif s then g.CA k else g.CB k
def own (x : Nat) : S36 := ⟨g.ids x, 0, g.ids x, 0⟩
def cand (H : Nat → S36) (k : Nat) (s : Bool) : S36 := ⟨(H (g.src k s)).f0, (H (g.src k s)).f1 + g.cost k s, g.ids (g.src k s), g.port k s⟩
def upd {α : Type} (H : Nat → α) (x : Nat) (v : α) : Nat → α := fun y => if y = x then v else H y
def relax (H : Nat → S36) (k : Nat) (s : Bool) : Nat → S36 := if (H (g.src k s)).f0 < g.ids (g.dst k s) ∧ Lt (g.cand H k s) (H (g.dst k s)) then upd H (g.dst k s) (g.cand H k s) else H
def pass : Nat → (Nat → S36) → Nat → S36
  | 0, H => H
  | k + 1, H => g.relax (g.relax (pass k H) k false) k true
def hold : Nat → Nat → S36
  | 0 => g.own
  | t + 1 => g.pass g.m (hold t)
variable {g}
theorem relax_le (H : Nat → S36) (k : Nat) (s : Bool) (x : Nat) : ¬ Lt (H x) (g.relax H k s x) := by
  unfold relax
  split
  · rename_i h
    unfold upd
    split
    · rename_i e
      subst e
      exact Lt.asymm h.2
    · exact Lt.irrefl _
  · exact Lt.irrefl _
theorem pass_le (H : Nat → S36) (k d : Nat) (x : Nat) : ¬ Lt (g.pass k H x) (g.pass (k + d) H x) := by
  induction d with
  | zero => exact Lt.irrefl _
  | succ d ih => exact Lt.letrans (relax_le _ (k + d) true x) (Lt.letrans (relax_le _ (k + d) false x) ih)
theorem pass_le0 (H : Nat → S36) (k : Nat) (x : Nat) : ¬ Lt (H x) (g.pass k H x) := by
  have := pass_le (g := g) H 0 k x
  rw [Nat.zero_add] at this
  exact this
theorem hold_le (t d x : Nat) : ¬ Lt (g.hold t x) (g.hold (t + d) x) := by
  induction d with
  | zero => exact Lt.irrefl _
  | succ d ih => exact Lt.letrans (pass_le0 _ _ x) ih
theorem dst_lt (h : g.Ok) {k : Nat} (hk : k < g.m) (s : Bool) : g.dst k s < g.n := match s with | false => h.hB k hk | true => h.hA k hk
theorem src_lt (h : g.Ok) {k : Nat} (hk : k < g.m) (s : Bool) : g.src k s < g.n := match s with | false => h.hA k hk | true => h.hB k hk
theorem src_ne (h : g.Ok) {k : Nat} (hk : k < g.m) (s : Bool) : g.src k s ≠ g.dst k s := match s with | false => h.hAB k hk | true => (h.hAB k hk).symm
theorem cost_pos (h : g.Ok) {k : Nat} (hk : k < g.m) (s : Bool) : 1 ≤ g.cost k s := match s with | false => h.hCB k hk | true => h.hCA k hk
theorem port_nn (h : g.Ok) {k : Nat} (hk : k < g.m) (s : Bool) : 0 ≤ g.port k s := match s with | false => h.hPA k hk | true => h.hPB k hk
structure Inv (g : Gr) (H : Nat → S36) : Prop where
  out : ∀ x, g.n ≤ x → H x = g.own x
  nn : ∀ x, x < g.n → Nn (H x)
  par : ∀ x, x < g.n → H x = g.own x ∨ ∃ k s, k < g.m ∧ g.dst k s = x ∧ (H x).f0 < g.ids x ∧ (H x).f2 = g.ids (g.src k s) ∧ (H x).f3 = g.port k s ∧ ((H (g.src k s)).f0 < (H x).f0 ∨ (H (g.src k s)).f0 = (H x).f0 ∧ (H (g.src k s)).f1 + g.cost k s ≤ (H x).f1)
theorem inv_own (h : g.Ok) : g.Inv g.own := by
  refine ⟨fun _ _ => rfl, fun x hx => ?_, fun x hx => .inl rfl⟩
  have := h.hid x hx
  exact ⟨this, Int.le_refl _, this, Int.le_refl _⟩
theorem inv_relax (h : g.Ok) {H : Nat → S36} (hi : g.Inv H) {k : Nat} (hk : k < g.m) (s : Bool) : g.Inv (g.relax H k s) := by
  unfold relax
  split
  · rename_i hc
    obtain ⟨hc1, hc2⟩ := hc
    have hd := dst_lt h hk s
    have hs := src_lt h hk s
    have hne := src_ne h hk s
    have hcp := cost_pos h hk s
    have hpn := port_nn h hk s
    have hsi := h.hid _ hs
    obtain ⟨n0, n1, n2, n3⟩ := hi.nn _ hs
    have hnc : Nn (g.cand H k s) := by
      refine ⟨n0, ?_, hsi, hpn⟩
      show 0 ≤ (H (g.src k s)).f1 + g.cost k s
      omega
    refine ⟨fun x hx => ?_, fun x hx => ?_, fun x hx => ?_⟩
    · unfold upd
      rw [if_neg (by omega)]
      exact hi.out x hx
    · unfold upd
      split
      · exact hnc
      · exact hi.nn x hx
    · by_cases e : x = g.dst k s
      · subst e
        refine .inr ⟨k, s, hk, rfl, ?_⟩
        unfold upd
        rw [if_pos rfl, if_neg hne]
        exact ⟨hc1, rfl, rfl, .inr ⟨rfl, Int.le_refl _⟩⟩
      · have ex : upd H (g.dst k s) (g.cand H k s) x = H x := if_neg e
        rw [ex]
        rcases hi.par x hx with h1 | ⟨j, u, hj, h1, h2, h3, h4, h5⟩
        · exact .inl h1
        · refine .inr ⟨j, u, hj, h1, h2, h3, h4, ?_⟩
          by_cases e2 : g.src j u = g.dst k s
          · have ey : upd H (g.dst k s) (g.cand H k s) (g.src j u) = g.cand H k s := if_pos e2
            rw [ey]
            rw [e2] at h5
            unfold Lt at hc2
            omega
          · have ey : upd H (g.dst k s) (g.cand H k s) (g.src j u) = H (g.src j u) := if_neg e2
            rw [ey]
            exact h5
  · exact hi
theorem inv_pass (h : g.Ok) {H : Nat → S36} (hi : g.Inv H) (k : Nat) (hk : k ≤ g.m) : g.Inv (g.pass k H) := by
  induction k with
  | zero => exact hi
  | succ k ih => exact inv_relax h (inv_relax h (ih (by omega)) (by omega) false) (by omega) true
theorem inv_hold (h : g.Ok) (t : Nat) : g.Inv (g.hold t) := by
  induction t with
  | zero => exact inv_own h
  | succ t ih => exact inv_pass h ih g.m (Nat.le_refl _)
theorem all_rest (h : g.Ok) : ∃ K, ∀ t, K ≤ t → g.hold t = g.hold K := by
  have key : ∀ j, j ≤ g.n → ∃ K, ∀ x, x < j → ∀ t, K ≤ t → g.hold t x = g.hold K x := by
    intro j
    induction j with
    | zero => intro _; exact ⟨0, fun x hx => absurd hx (Nat.not_lt_zero _)⟩
    | succ j ih =>
      intro hj
      obtain ⟨K, hK⟩ := ih (by omega)
      obtain ⟨L, hL⟩ := rests (fun t => g.hold t j) (fun t => (inv_hold h t).nn j (by omega)) (fun t => hold_le t 1 j)
      refine ⟨max K L, fun x hx t ht => ?_⟩
      rcases Nat.lt_succ_iff_lt_or_eq.1 hx with e | e
      · rw [hK x e t (by omega), hK x e (max K L) (by omega)]
      · subst e
        have h1 := hL t (by omega)
        have h2 := hL (max K L) (by omega)
        rw [h1, h2]
  obtain ⟨K, hK⟩ := key g.n (Nat.le_refl _)
  refine ⟨K, fun t ht => ?_⟩
  funext x
  by_cases hx : x < g.n
  · exact hK x hx t ht
  · rw [(inv_hold h t).out x (by omega), (inv_hold h K).out x (by omega)]
structure Fin (g : Gr) (F : Nat → S36) : Prop where
  nn : ∀ x, x < g.n → Nn (F x)
  stab : ∀ k s, k < g.m → (F (g.src k s)).f0 < g.ids (g.dst k s) → ¬ Lt (g.cand F k s) (F (g.dst k s))
  par : ∀ x, x < g.n → F x = g.own x ∨ ∃ k s, k < g.m ∧ g.dst k s = x ∧ F x = g.cand F k s ∧ (F x).f0 < g.ids x
theorem fin_of (h : g.Ok) {F : Nat → S36} (hi : g.Inv F) (e : g.pass g.m F = F) : g.Fin F := by
  have hp : ∀ k, k ≤ g.m → g.pass k F = F := by
    intro k hk
    funext x
    have h1 := pass_le0 (g := g) F k x
    have h2 := pass_le (g := g) F k (g.m - k) x
    rw [show k + (g.m - k) = g.m by omega, e] at h2
    exact Lt.anti h2 h1
  have hr : ∀ k s, k < g.m → g.relax F k s = F := by
    intro k s hk
    have h1 := hp k (by omega)
    have h2 := hp (k + 1) (by omega)
    unfold pass at h2
    rw [h1] at h2
    have h3 : g.relax F k false = F := by
      funext x
      have a := relax_le (g := g) F k false x
      have b := relax_le (g := g) (g.relax F k false) k true x
      rw [h2] at b
      exact Lt.anti b a
    cases s with
    | false => exact h3
    | true => rw [h3] at h2; exact h2
  have hs : ∀ k s, k < g.m → (F (g.src k s)).f0 < g.ids (g.dst k s) → ¬ Lt (g.cand F k s) (F (g.dst k s)) := by
    intro k s hk hg hl
    have := hr k s hk
    unfold relax at this
    rw [if_pos ⟨hg, hl⟩] at this
    have e2 := congrFun this (g.dst k s)
    unfold upd at e2
    rw [if_pos rfl] at e2
    rw [← e2] at hl
    exact Lt.irrefl _ hl
  refine ⟨hi.nn, hs, fun x hx => ?_⟩
  rcases hi.par x hx with h1 | ⟨k, s, hk, rfl, h2, h3, h4, h5⟩
  · exact .inl h1
  · refine .inr ⟨k, s, hk, rfl, ?_, h2⟩
    have h6 := hs k s hk (by omega)
    refine Lt.anti ?_ h6
    unfold Lt
    show ¬ (_ < (F (g.src k s)).f0 ∨ _ = (F (g.src k s)).f0 ∧ (_ < (F (g.src k s)).f1 + g.cost k s ∨ _ = (F (g.src k s)).f1 + g.cost k s ∧ (_ < g.ids (g.src k s) ∨ _ = g.ids (g.src k s) ∧ _ < g.port k s)))
    omega
theorem fin_hold (h : g.Ok) : g.Fin (g.hold (g.n * g.m)) := by
  obtain ⟨K, hK⟩ := all_rest h
  have hF : g.Fin (g.hold K) := fin_of h (inv_hold h K) (hK (K + 1) (by omega))
  have hge : ∀ t x, ¬ Lt (g.hold t x) (g.hold K x) := by
    intro t x
    rcases Nat.le_total t K with ht | ht
    · obtain ⟨d, rfl⟩ := Nat.le.dest ht
      exact hold_le t d x
    · rw [hK t ht]
      exact Lt.irrefl _
  have hn : ∀ x, x < g.n → g.hold g.n x = g.hold K x := by
    refine grow g.n (fun t x => g.hold t x = g.hold K x) (fun t x hx e => ?_) (fun t ht => ?_)
    · refine Lt.anti (hge (t + 1) x) ?_
      rw [← e]
      exact hold_le t 1 x
    · obtain ⟨x, hx, hne, hl⟩ := least g.n (fun x => ¬ g.hold t x = g.hold K x) (g.hold K) ht
      refine ⟨x, hx, hne, ?_⟩
      rcases hF.par x hx with h1 | ⟨k, s, hk, rfl, h2, h3⟩
      · exfalso
        refine hne (Lt.anti (hge t x) ?_)
        have := hold_le (g := g) 0 t x
        rw [Nat.zero_add] at this
        rw [h1]
        exact this
      · have hy : g.hold t (g.src k s) = g.hold K (g.src k s) := by
          refine Classical.byContradiction fun hc => hl _ (src_lt h hk s) hc ?_
          have e0 : (g.hold K (g.dst k s)).f0 = (g.hold K (g.src k s)).f0 := by rw [h2]; rfl
          have e1 : (g.hold K (g.dst k s)).f1 = (g.hold K (g.src k s)).f1 + g.cost k s := by rw [h2]; rfl
          have := cost_pos h hk s
          omega
        have hlow : ∀ j, j ≤ g.m → ∀ x, ¬ Lt (g.pass j (g.hold t) x) (g.hold K x) := by
          intro j hj x
          have h2 := pass_le (g := g) (g.hold t) j (g.m - j) x
          rw [show j + (g.m - j) = g.m by omega] at h2
          exact Lt.letrans (hge (t + 1) x) h2
        have hlow2 : ∀ x, ¬ Lt (g.relax (g.pass k (g.hold t)) k false x) (g.hold K x) := fun x => Lt.letrans (hlow (k + 1) hk x) (relax_le _ k true x)
        have core : ∀ H : Nat → S36, (∀ x, ¬ Lt (H x) (g.hold K x)) → (∀ x, ¬ Lt (g.hold t x) (H x)) → g.relax H k s (g.dst k s) = g.hold K (g.dst k s) := by
          intro H a b
          have e : H (g.src k s) = g.hold K (g.src k s) := by
            refine Lt.anti (a _) ?_
            rw [← hy]
            exact b _
          have ec : g.cand H k s = g.hold K (g.dst k s) := by
            rw [h2]
            unfold cand
            rw [e]
          have hg : (H (g.src k s)).f0 < g.ids (g.dst k s) := by
            rw [e]
            have e0 : (g.hold K (g.dst k s)).f0 = (g.hold K (g.src k s)).f0 := by rw [h2]; rfl
            omega
          unfold relax
          rw [ec]
          split
          · unfold upd
            exact if_pos rfl
          · rename_i hc
            exact Lt.anti (a _) fun hl => hc ⟨hg, hl⟩
        have hk1 : g.pass (k + 1) (g.hold t) (g.dst k s) = g.hold K (g.dst k s) := by
          cases s with
          | false =>
            have := core (g.pass k (g.hold t)) (hlow k (by omega)) (fun x => pass_le0 _ _ x)
            refine Lt.anti (hlow (k + 1) hk _) ?_
            rw [← this]
            exact relax_le _ k true _
          | true => exact core _ hlow2 (fun x => Lt.letrans (relax_le _ k false x) (pass_le0 _ _ x))
        refine Lt.anti (hge (t + 1) _) ?_
        rw [← hk1]
        have h2 := pass_le (g := g) (g.hold t) (k + 1) (g.m - (k + 1)) (g.dst k s)
        rw [show k + 1 + (g.m - (k + 1)) = g.m by omega] at h2
        exact h2
  by_cases hm : g.m = 0
  · have h0 : ∀ t, g.hold t = g.own := by
      intro t
      induction t with
      | zero => rfl
      | succ t ih => show g.pass g.m (g.hold t) = g.own; rw [hm, ih]; rfl
    have e : g.hold (g.n * g.m) = g.hold K := by rw [h0, h0]
    rw [e]
    exact hF
  · have e : g.hold (g.n * g.m) = g.hold K := by
      funext x
      by_cases hx : x < g.n
      · refine Lt.anti (hge _ x) ?_
        have hnm : g.n ≤ g.n * g.m := Nat.le_mul_of_pos_right _ (by omega)
        obtain ⟨d, hd⟩ := Nat.le.dest hnm
        rw [← hd, ← hn x hx]
        exact hold_le g.n d x
      · rw [(inv_hold h _).out x (by omega), (inv_hold h K).out x (by omega)]
    rw [e]
    exact hF
end Gr
end Go.Proofs.YtfimhaodgekkgaaDoor.Spn
namespace Go.Proofs.YtfimhaodgekkgaaDoor.Spn
open Go.Proofs.YtfimhaodgekkgaaDoor.QSpn
set_option linter.unusedVariables false
namespace Gr
inductive Conn (g : Gr) (E : Nat → Prop) : Nat → Nat → Prop
  | refl (x : Nat) : Conn g E x x
  | ab {x : Nat} (k : Nat) (hk : k < g.m) (he : E k) : Conn g E x (g.A k) → Conn g E x (g.B k)
  | ba {x : Nat} (k : Nat) (hk : k < g.m) (he : E k) : Conn g E x (g.B k) → Conn g E x (g.A k)
variable {g : Gr}
theorem Conn.trans {E : Nat → Prop} {x y z : Nat} (h : Conn g E x y) (k : Conn g E y z) : Conn g E x z := by
  induction k with
  | refl => exact h
  | ab k hk he _ ih => exact Conn.ab k hk he ih
  | ba k hk he _ ih => exact Conn.ba k hk he ih
theorem Conn.symm {E : Nat → Prop} {x y : Nat} (h : Conn g E x y) : Conn g E y x := by
  induction h with
  | refl => exact Conn.refl _
  | ab k hk he _ ih => exact (Conn.ba k hk he (Conn.refl _)).trans ih
  | ba k hk he _ ih => exact (Conn.ab k hk he (Conn.refl _)).trans ih
theorem Conn.mono {E T : Nat → Prop} (hc : ∀ k, k < g.m → E k → Conn g T (g.A k) (g.B k)) {x y : Nat} (h : Conn g E x y) : Conn g T x y := by
  induction h with
  | refl => exact Conn.refl _
  | ab k hk he _ ih => exact ih.trans (hc k hk he)
  | ba k hk he _ ih => exact ih.trans (hc k hk he).symm
theorem Conn.lt (h : g.Ok) {E : Nat → Prop} {x y : Nat} (hx : x < g.n) (hc : Conn g E x y) : y < g.n := by
  cases hc with
  | refl => exact hx
  | ab k hk he _ => exact h.hB k hk
  | ba k hk he _ => exact h.hA k hk
def lead (g : Gr) (F : Nat → S36) (k : Nat) (s : Bool) : Prop := F (g.dst k s) = g.cand F k s ∧ (F (g.src k s)).f0 < g.ids (g.dst k s)
def tree (g : Gr) (F : Nat → S36) (k : Nat) : Prop := g.lead F k true ∨ g.lead F k false
theorem root_le (h : g.Ok) {F : Nat → S36} (hF : g.Fin F) (x : Nat) (hx : x < g.n) : (F x).f0 ≤ g.ids x := by
  rcases hF.par x hx with e | ⟨k, s, _, _, _, h2⟩
  · rw [e]; exact Int.le_refl _
  · exact Int.le_of_lt h2
theorem root_arc (h : g.Ok) {F : Nat → S36} (hF : g.Fin F) {k : Nat} (hk : k < g.m) (s : Bool) : (F (g.dst k s)).f0 ≤ (F (g.src k s)).f0 := by
  by_cases hg : (F (g.src k s)).f0 < g.ids (g.dst k s)
  · have := hF.stab k s hk hg
    unfold Lt at this
    have e : (g.cand F k s).f0 = (F (g.src k s)).f0 := rfl
    omega
  · have := root_le h hF _ (dst_lt h hk s)
    omega
theorem root_eq (h : g.Ok) {F : Nat → S36} (hF : g.Fin F) {k : Nat} (hk : k < g.m) : (F (g.A k)).f0 = (F (g.B k)).f0 := by
  have h1 := root_arc h hF hk false
  have h2 := root_arc h hF hk true
  have h1' : (F (g.B k)).f0 ≤ (F (g.A k)).f0 := h1
  have h2' : (F (g.A k)).f0 ≤ (F (g.B k)).f0 := h2
  omega
theorem par_lead (h : g.Ok) {F : Nat → S36} (hF : g.Fin F) {x : Nat} (hx : x < g.n) (hn : F x ≠ g.own x) : ∃ k s, k < g.m ∧ g.dst k s = x ∧ g.lead F k s := by
  rcases hF.par x hx with e | ⟨k, s, hk, h1, h2, h3⟩
  · exact absurd e hn
  · refine ⟨k, s, hk, h1, ?_, ?_⟩
    · rw [h1]; exact h2
    · rw [h1]
      have : (F x).f0 = (F (g.src k s)).f0 := by rw [h2]; rfl
      omega
theorem lead_cost {F : Nat → S36} {k : Nat} {s : Bool} (hl : g.lead F k s) : (F (g.dst k s)).f1 = (F (g.src k s)).f1 + g.cost k s := by rw [hl.1]; rfl
theorem lead_root {F : Nat → S36} {k : Nat} {s : Bool} (hl : g.lead F k s) : (F (g.dst k s)).f0 = (F (g.src k s)).f0 := by rw [hl.1]; rfl
theorem lead_conn (h : g.Ok) {F : Nat → S36} {k : Nat} (hk : k < g.m) {s : Bool} (hl : g.lead F k s) : Conn g (g.tree F) (g.dst k s) (g.src k s) := by
  cases s with
  | false => exact Conn.ba k hk (.inr hl) (Conn.refl _)
  | true => exact Conn.ab k hk (.inl hl) (Conn.refl _)
theorem to_root (h : g.Ok) {F : Nat → S36} (hF : g.Fin F) : ∀ (c : Nat) (x : Nat), x < g.n → (F x).f1.toNat = c → ∃ z, z < g.n ∧ F z = g.own z ∧ Conn g (g.tree F) x z ∧ (F x).f0 = g.ids z := by
  intro c
  induction c using Nat.strongRecOn with
  | _ c ih =>
    intro x hx hc
    by_cases e : F x = g.own x
    · exact ⟨x, hx, e, Conn.refl _, by rw [e]; rfl⟩
    · obtain ⟨k, s, hk, rfl, hl⟩ := par_lead h hF hx e
      have h1 := lead_cost hl
      have h2 := cost_pos h hk s
      have h3 := (hF.nn _ (src_lt h hk s)).2.1
      obtain ⟨z, hz, ho, hcn, hr⟩ := ih (F (g.src k s)).f1.toNat (by omega) (g.src k s) (src_lt h hk s) rfl
      exact ⟨z, hz, ho, (lead_conn h hk hl).trans hcn, by rw [lead_root hl]; exact hr⟩
theorem tree_conn (h : g.Ok) {F : Nat → S36} (hF : g.Fin F) {k : Nat} (hk : k < g.m) : Conn g (g.tree F) (g.A k) (g.B k) := by
  obtain ⟨z, hz, _, c1, r1⟩ := to_root h hF _ (g.A k) (h.hA k hk) rfl
  obtain ⟨y, hy, _, c2, r2⟩ := to_root h hF _ (g.B k) (h.hB k hk) rfl
  have : z = y := h.inj z y hz hy (by rw [← r1, ← r2]; exact root_eq h hF hk)
  subst this
  exact c1.trans c2.symm
theorem conn_root (h : g.Ok) {F : Nat → S36} (hF : g.Fin F) {E : Nat → Prop} {x y : Nat} (hc : Conn g E x y) : (F x).f0 = (F y).f0 := by
  induction hc with
  | refl => rfl
  | ab k hk he _ ih => rw [ih, root_eq h hF hk]
  | ba k hk he _ ih => rw [ih, root_eq h hF hk]
theorem end_inj (h : g.Ok) {j k : Nat} (hj : j < g.m) (hk : k < g.m) {s u : Bool} (e1 : g.src j s = g.src k u) (e2 : g.port j s = g.port k u) : j = k ∧ s = u := by
  cases s <;> cases u
  · exact ⟨h.eAA j k hj hk e1 e2, rfl⟩
  · exact absurd ⟨e1, e2⟩ (h.eAB j k hj hk)
  · exact absurd ⟨e1.symm, e2.symm⟩ (h.eAB k j hk hj)
  · exact ⟨h.eBB j k hj hk e1 e2, rfl⟩
theorem lead_inj (h : g.Ok) {F : Nat → S36} {j k : Nat} (hj : j < g.m) (hk : k < g.m) {s u : Bool} (h1 : g.lead F j s) (h2 : g.lead F k u) (e : g.dst j s = g.dst k u) : j = k := by
  have e2 : g.cand F j s = g.cand F k u := by rw [← h1.1, ← h2.1, e]
  have e3 : g.ids (g.src j s) = g.ids (g.src k u) := congrArg (·.f2) e2
  have e4 : g.port j s = g.port k u := congrArg (·.f3) e2
  exact (end_inj h hj hk (h.inj _ _ (src_lt h hj s) (src_lt h hk u) e3) e4).1
theorem lead_one (h : g.Ok) {F : Nat → S36} {k : Nat} (hk : k < g.m) (h1 : g.lead F k true) (h2 : g.lead F k false) : False := by
  have a := lead_cost h1
  have b := lead_cost h2
  have c := cost_pos h hk true
  have d := cost_pos h hk false
  have a' : (F (g.A k)).f1 = (F (g.B k)).f1 + g.cost k true := a
  have b' : (F (g.B k)).f1 = (F (g.A k)).f1 + g.cost k false := b
  omega
theorem filter_both (l : List Nat) (p : Nat → Bool) : (l.filter p).length + (l.filter fun x => !p x).length = l.length := by
  induction l with
  | nil => rfl
  | cons a l ih =>
    cases hp : p a
    · rw [List.filter_cons_of_neg (by rw [hp]; decide), List.filter_cons_of_pos (by rw [hp]; rfl), List.length_cons, List.length_cons]
      omega
    · rw [List.filter_cons_of_pos hp, List.filter_cons_of_neg (by rw [hp]; decide), List.length_cons, List.length_cons]
      omega
theorem count_tree (h : g.Ok) {F : Nat → S36} (hF : g.Fin F) (is : Nat → Bool) (his : ∀ k, k < g.m → (is k = true ↔ g.tree F k)) (lab : Nat → Nat) (E : Nat → Prop)
    (hl : ∀ x, x < g.n → Conn g E x (lab x)) (hs : ∀ x y, x < g.n → y < g.n → (F x).f0 = (F y).f0 → lab x = lab y) :
    ((List.range g.m).filter is).length + ((List.range g.n).filter fun x => lab x == x).length = g.n := by
  classical
  have hlt : ∀ x, x < g.n → lab x < g.n := fun x hx => Conn.lt h hx (hl x hx)
  have h1 : ((List.range g.m).filter is).length = ((List.range g.n).filter fun x => !decide (F x = g.own x)).length := by
    refine Nat.le_antisymm ?_ ?_
    · refine inj_len (fun k => if g.lead F k true then g.A k else g.B k) (List.nodup_range.filter _) (fun k hk => ?_) (fun j k hj hk e => ?_)
      · obtain ⟨hk, ht⟩ := List.mem_filter.1 hk
        have hk := List.mem_range.1 hk
        have ht := (his k hk).1 ht
        have hown : ∀ s, g.lead F k s → F (g.dst k s) ≠ g.own (g.dst k s) := by
          intro s hl e
          have := lead_root hl
          rw [e] at this
          have h2 := hl.2
          have e3 : (g.own (g.dst k s)).f0 = g.ids (g.dst k s) := rfl
          omega
        refine List.mem_filter.2 ⟨List.mem_range.2 ?_, ?_⟩
        · split
          · exact h.hA k hk
          · exact h.hB k hk
        · split
          · rename_i hh
            have := hown true hh
            simpa using (show F (g.A k) ≠ g.own (g.A k) from this)
          · rename_i hh
            have := hown false (ht.resolve_left hh)
            simpa using (show F (g.B k) ≠ g.own (g.B k) from this)
      · obtain ⟨hj, tj⟩ := List.mem_filter.1 hj
        obtain ⟨hk, tk⟩ := List.mem_filter.1 hk
        have hj := List.mem_range.1 hj
        have hk := List.mem_range.1 hk
        have tj := (his j hj).1 tj
        have tk := (his k hk).1 tk
        split at e <;> split at e
        · rename_i a b
          exact lead_inj h hj hk a b e
        · rename_i a b
          exact lead_inj h hj hk a (tk.resolve_left b) e
        · rename_i a b
          exact lead_inj h hj hk (tj.resolve_left a) b e
        · rename_i a b
          exact lead_inj h hj hk (tj.resolve_left a) (tk.resolve_left b) e
    · have pick : ∀ x, ∃ k, x < g.n → F x ≠ g.own x → k < g.m ∧ ∃ s, g.dst k s = x ∧ g.lead F k s := by
        intro x
        by_cases hx : x < g.n ∧ F x ≠ g.own x
        · obtain ⟨k, s, hk, h1, h2⟩ := par_lead h hF hx.1 hx.2
          exact ⟨k, fun _ _ => ⟨hk, s, h1, h2⟩⟩
        · exact ⟨0, fun a b => absurd ⟨a, b⟩ hx⟩
      refine inj_len (fun x => Classical.choose (pick x)) (List.nodup_range.filter _) (fun x hx => ?_) (fun x y hx hy e => ?_)
      · obtain ⟨hx, ho⟩ := List.mem_filter.1 hx
        have hx := List.mem_range.1 hx
        obtain ⟨hk, s, _, hl⟩ := Classical.choose_spec (pick x) hx (by simpa using ho)
        refine List.mem_filter.2 ⟨List.mem_range.2 hk, (his _ hk).2 ?_⟩
        cases s with
        | true => exact .inl hl
        | false => exact .inr hl
      · obtain ⟨hx, hox⟩ := List.mem_filter.1 hx
        have hx := List.mem_range.1 hx
        obtain ⟨hy, hoy⟩ := List.mem_filter.1 hy
        have hy := List.mem_range.1 hy
        obtain ⟨hk, s, e1, hl⟩ := Classical.choose_spec (pick x) hx (by simpa using hox)
        obtain ⟨hj, u, e2, hl2⟩ := Classical.choose_spec (pick y) hy (by simpa using hoy)
        rw [← e] at e2 hl2
        generalize Classical.choose (pick x) = k at hk e1 hl e2 hl2
        cases s <;> cases u
        · rw [← e1, ← e2]
        · exact (lead_one h hk hl2 hl).elim
        · exact (lead_one h hk hl hl2).elim
        · rw [← e1, ← e2]
  have h2 : ((List.range g.n).filter fun x => lab x == x).length = ((List.range g.n).filter fun x => decide (F x = g.own x)).length := by
    have hroot : ∀ x y, x < g.n → y < g.n → lab x = lab y → (F x).f0 = (F y).f0 := by
      intro x y hx hy e
      rw [conn_root h hF (hl x hx), conn_root h hF (hl y hy), e]
    refine Nat.le_antisymm ?_ ?_
    · have pick : ∀ x, ∃ z, x < g.n → z < g.n ∧ F z = g.own z ∧ (F x).f0 = g.ids z := by
        intro x
        by_cases hx : x < g.n
        · obtain ⟨z, hz, ho, _, hr⟩ := to_root h hF _ x hx rfl
          exact ⟨z, fun _ => ⟨hz, ho, hr⟩⟩
        · exact ⟨0, fun a => absurd a hx⟩
      refine inj_len (fun x => Classical.choose (pick x)) (List.nodup_range.filter _) (fun x hx => ?_) (fun x y hx hy e => ?_)
      · obtain ⟨hx, _⟩ := List.mem_filter.1 hx
        have hx := List.mem_range.1 hx
        obtain ⟨hz, ho, _⟩ := Classical.choose_spec (pick x) hx
        exact List.mem_filter.2 ⟨List.mem_range.2 hz, by simpa using ho⟩
      · obtain ⟨hx, ex⟩ := List.mem_filter.1 hx
        have hx := List.mem_range.1 hx
        obtain ⟨hy, ey⟩ := List.mem_filter.1 hy
        have hy := List.mem_range.1 hy
        obtain ⟨_, _, r1⟩ := Classical.choose_spec (pick x) hx
        obtain ⟨_, _, r2⟩ := Classical.choose_spec (pick y) hy
        rw [← e] at r2
        have := hs x y hx hy (by rw [r1, r2])
        have ex := beq_iff_eq.1 ex
        have ey := beq_iff_eq.1 ey
        rw [← ex, ← ey, this]
    · refine inj_len lab (List.nodup_range.filter _) (fun x hx => ?_) (fun x y hx hy e => ?_)
      · obtain ⟨hx, _⟩ := List.mem_filter.1 hx
        have hx := List.mem_range.1 hx
        refine List.mem_filter.2 ⟨List.mem_range.2 (hlt x hx), ?_⟩
        rw [beq_iff_eq]
        exact hs _ _ (hlt x hx) hx (conn_root h hF (hl x hx)).symm
      · obtain ⟨hx, ox⟩ := List.mem_filter.1 hx
        have hx := List.mem_range.1 hx
        obtain ⟨hy, oy⟩ := List.mem_filter.1 hy
        have hy := List.mem_range.1 hy
        have r := hroot x y hx hy e
        have ox : F x = g.own x := by simpa using ox
        have oy : F y = g.own y := by simpa using oy
        rw [ox, oy] at r
        exact h.inj x y hx hy r
  have h3 := filter_both (List.range g.n) (fun x => decide (F x = g.own x))
  rw [List.length_range] at h3
  omega
def lstep (g : Gr) (E : Nat → Prop) [DecidablePred E] (out : Nat → Int) (k : Nat) : Nat → Int :=
  if E k then upd (upd out (g.A k) (min (out (g.A k)) (out (g.B k)))) (g.B k) (min (out (g.A k)) (out (g.B k))) else out
def lpass (g : Gr) (E : Nat → Prop) [DecidablePred E] : Nat → (Nat → Int) → Nat → Int
  | 0, o => o
  | k + 1, o => lstep g E (lpass g E k o) k
def labs (g : Gr) (E : Nat → Prop) [DecidablePred E] : Nat → Nat → Int
  | 0 => fun x => x
  | t + 1 => lpass g E g.m (labs g E t)
theorem conn_cross {E : Nat → Prop} {P : Nat → Prop} {x y : Nat} (hc : Conn g E x y) (hx : P x) (hy : ¬ P y) : ∃ k, k < g.m ∧ E k ∧ ((P (g.A k) ∧ ¬ P (g.B k) ∧ Conn g E x (g.B k)) ∨ (P (g.B k) ∧ ¬ P (g.A k) ∧ Conn g E x (g.A k))) := by
  induction hc with
  | refl => exact absurd hx hy
  | ab k hk he c ih =>
    by_cases hp : P (g.A k)
    · exact ⟨k, hk, he, .inl ⟨hp, hy, Conn.ab k hk he c⟩⟩
    · exact ih hp
  | ba k hk he c ih =>
    by_cases hp : P (g.B k)
    · exact ⟨k, hk, he, .inr ⟨hp, hy, Conn.ba k hk he c⟩⟩
    · exact ih hp
section
variable {E : Nat → Prop} [DecidablePred E]
theorem lstep_le (o : Nat → Int) (k x : Nat) : lstep g E o k x ≤ o x := by
  unfold lstep
  split
  · unfold upd
    split
    · rename_i e; subst e; omega
    · split
      · rename_i e; subst e; omega
      · exact Int.le_refl _
  · exact Int.le_refl _
theorem lpass_le (o : Nat → Int) (k d x : Nat) : lpass g E (k + d) o x ≤ lpass g E k o x := by
  induction d with
  | zero => exact Int.le_refl _
  | succ d ih => exact Int.le_trans (lstep_le _ _ _) ih
theorem lpass_le0 (o : Nat → Int) (k x : Nat) : lpass g E k o x ≤ o x := by
  have := lpass_le (g := g) (E := E) o 0 k x
  rw [Nat.zero_add] at this
  exact this
def LabOk (g : Gr) (E : Nat → Prop) (o : Nat → Int) : Prop := ∀ x, x < g.n → ∃ z : Nat, o x = z ∧ Conn g E x z
theorem lstep_ok (h : g.Ok) {o : Nat → Int} (ho : LabOk g E o) {k : Nat} (hk : k < g.m) : LabOk g E (lstep g E o k) := by
  unfold lstep
  split
  · rename_i he
    obtain ⟨za, ea, ca⟩ := ho (g.A k) (h.hA k hk)
    obtain ⟨zb, eb, cb⟩ := ho (g.B k) (h.hB k hk)
    have cab : Conn g E (g.A k) (g.B k) := Conn.ab k hk he (Conn.refl _)
    have hm : ∃ z : Nat, min (o (g.A k)) (o (g.B k)) = z ∧ Conn g E (g.A k) z := by
      rcases Int.le_total (o (g.A k)) (o (g.B k)) with hl | hl
      · exact ⟨za, by rw [Int.min_eq_left hl, ea], ca⟩
      · exact ⟨zb, by rw [Int.min_eq_right hl, eb], cab.trans cb⟩
    obtain ⟨z, ez, cz⟩ := hm
    intro x hx
    unfold upd
    split
    · rename_i e; subst e
      exact ⟨z, ez, cab.symm.trans cz⟩
    · split
      · rename_i e; subst e
        exact ⟨z, ez, cz⟩
      · exact ho x hx
  · exact ho
theorem lpass_ok (h : g.Ok) {o : Nat → Int} (ho : LabOk g E o) (k : Nat) (hk : k ≤ g.m) : LabOk g E (lpass g E k o) := by
  induction k with
  | zero => exact ho
  | succ k ih => exact lstep_ok h (ih (by omega)) (by omega)
theorem labs_ok (h : g.Ok) (t : Nat) : LabOk g E (labs g E t) := by
  induction t with
  | zero => exact fun x _ => ⟨x, rfl, Conn.refl _⟩
  | succ t ih => exact lpass_ok h ih g.m (Nat.le_refl _)
theorem labs_le (h : g.Ok) (y : Nat) (hy : y < g.n) : ∀ x, x < g.n → Conn g E y x → labs g E g.n x ≤ y := by
  refine grow g.n (fun t x => Conn g E y x → labs g E t x ≤ y) (fun t x hx hp hc => ?_) (fun t ⟨x, hx, hn⟩ => ?_)
  · exact Int.le_trans (lpass_le0 _ _ _) (hp hc)
  · obtain ⟨hc, hn⟩ := Classical.not_imp.1 hn
    have h0 : labs g E t y ≤ y := by
      have : ∀ t, labs g E t y ≤ y := by
        intro t
        induction t with
        | zero => exact Int.le_refl _
        | succ t ih => exact Int.le_trans (lpass_le0 _ _ _) ih
      exact this t
    obtain ⟨k, hk, he, hh⟩ := conn_cross (P := fun x => labs g E t x ≤ y) hc h0 hn
    have hfin : ∀ z, labs g E (t + 1) z ≤ lstep g E (lpass g E k (labs g E t)) k z := by
      intro z
      have := lpass_le (g := g) (E := E) (labs g E t) (k + 1) (g.m - (k + 1)) z
      rw [show k + 1 + (g.m - (k + 1)) = g.m by omega] at this
      exact this
    have hb : lstep g E (lpass g E k (labs g E t)) k (g.B k) ≤ min (labs g E t (g.A k)) (labs g E t (g.B k)) := by
      unfold lstep
      rw [if_pos he]
      unfold upd
      rw [if_pos rfl]
      have a := lpass_le0 (g := g) (E := E) (labs g E t) k (g.A k)
      have b := lpass_le0 (g := g) (E := E) (labs g E t) k (g.B k)
      omega
    have ha : lstep g E (lpass g E k (labs g E t)) k (g.A k) ≤ min (labs g E t (g.A k)) (labs g E t (g.B k)) := by
      unfold lstep
      rw [if_pos he]
      unfold upd
      rw [if_neg (h.hAB k hk), if_pos rfl]
      have a := lpass_le0 (g := g) (E := E) (labs g E t) k (g.A k)
      have b := lpass_le0 (g := g) (E := E) (labs g E t) k (g.B k)
      omega
    rcases hh with ⟨p, q, c⟩ | ⟨p, q, c⟩
    · refine ⟨g.B k, h.hB k hk, fun hf => q (hf c), fun _ => ?_⟩
      have := hfin (g.B k)
      omega
    · refine ⟨g.A k, h.hA k hk, fun hf => q (hf c), fun _ => ?_⟩
      have := hfin (g.A k)
      omega
end
theorem labs_eq (h : g.Ok) {E T : Nat → Prop} [DecidablePred E] [DecidablePred T] (hET : ∀ x y, Conn g E x y → Conn g T x y) (hTE : ∀ x y, Conn g T x y → Conn g E x y) (x : Nat) (hx : x < g.n) : labs g E g.n x = labs g T g.n x := by
  obtain ⟨a, ea, ca⟩ := labs_ok (E := E) h g.n x hx
  obtain ⟨b, eb, cb⟩ := labs_ok (E := T) h g.n x hx
  have h1 := labs_le (E := T) h a (Conn.lt h hx ca) x hx (hET _ _ ca).symm
  have h2 := labs_le (E := E) h b (Conn.lt h hx cb) x hx (hTE _ _ cb).symm
  omega
end Gr
end Go.Proofs.YtfimhaodgekkgaaDoor.Spn
namespace Go.Proofs.YtfimhaodgekkgaaDoor.Spn
open Go.RowKit Go.Proofs.YtfimhaodgekkgaaDoorW.PrintWords Go.Proofs.YtfimhaodgekkgaaDoorW.PrintLast Go.Proofs.YtfimhaodgekkgaaDoorW.PrintMore
open Go.Proofs.YtfimhaodgekkgaaDoor.QSpn
set_option linter.unusedVariables false
set_option linter.unusedSimpArgs false
abbrev gr (ids : List Int) (ls : List S72) : Gr := ⟨ids.length, ls.length, fun x => ids.getD x 0, fun k => (ls.getD k z72).f0.toNat, fun k => (ls.getD k z72).f2.toNat, fun k => (ls.getD k z72).f1, fun k => (ls.getD k z72).f3, fun k => (ls.getD k z72).f4, fun k => (ls.getD k z72).f5⟩
theorem brd_pos {id : Int} (h : brd id = true) : 0 < id := by
  have := brd_some id
  rw [h] at this
  unfold QTre.kissgateref08_Bridge.f at this
  split at this
  · cases this
  · omega
theorem taken_of (ls : List S72) : ∀ (k j : Nat) (q : Nat), j < k → (q = endA (ls.getD j z72) ∨ q = endB (ls.getD j z72)) → takenB ls k q = true
  | 0, j, q, h, _ => absurd h (Nat.not_lt_zero _)
  | k + 1, j, q, h, e => by
    unfold takenB
    rcases Nat.lt_succ_iff_lt_or_eq.1 h with h | h
    · rw [taken_of ls k j q h e]; rfl
    · subst h
      rcases e with e | e
      · rw [show (q == endA (ls.getD j z72)) = true from beq_iff_eq.2 e]; simp
      · rw [show (q == endB (ls.getD j z72)) = true from beq_iff_eq.2 e]; simp
section
variable {ids : List Int} {ls : List S72} (h : FitsP ids ls)
include h
theorem link_ok {k : Nat} (hk : k < ls.length) : LinkOk ids.length (ls.getD k z72) := (h.2.2.2.2 k hk).1
theorem gr_ok : (gr ids ls).Ok := by
  have L := fun k hk => link_ok h (k := k) hk
  have hends : ∀ j k, j < ls.length → k < ls.length → j < k → ∀ q, (q = endA (ls.getD j z72) ∨ q = endB (ls.getD j z72)) → ¬ (q = endA (ls.getD k z72) ∨ q = endB (ls.getD k z72)) := by
    intro j k hj hk hjk q e1 e2
    have t := taken_of ls k j q hjk e1
    obtain ⟨_, h1, h2⟩ := h.2.2.2.2 k hk
    rcases e2 with e | e
    · rw [e, h1] at t; cases t
    · rw [e, h2] at t; cases t
  refine ⟨fun k hk => ?_, fun k hk => ?_, fun k hk => ?_, fun x hx => ?_, fun x y hx hy e => ?_, fun k hk => ?_, fun k hk => ?_, fun k hk => ?_, fun k hk => ?_, fun j k hj hk a b => ?_, fun j k hj hk a b => ?_, fun j k hj hk ⟨a, b⟩ => ?_⟩
  · have := L k hk; unfold LinkOk at this; show (ls.getD k z72).f0.toNat < ids.length; omega
  · have := L k hk; unfold LinkOk at this; show (ls.getD k z72).f2.toNat < ids.length; omega
  · have := L k hk; unfold LinkOk at this; show (ls.getD k z72).f0.toNat ≠ (ls.getD k z72).f2.toNat; omega
  · exact Int.le_of_lt (brd_pos (h.2.2.2.1 x hx).1)
  · rcases Nat.lt_trichotomy x y with c | c | c
    · exact absurd e ((h.2.2.2.1 y hy).2 x c)
    · exact c
    · exact absurd e.symm ((h.2.2.2.1 x hx).2 y c)
  · have := L k hk; unfold LinkOk at this; show 0 ≤ (ls.getD k z72).f1; omega
  · have := L k hk; unfold LinkOk at this; show 0 ≤ (ls.getD k z72).f3; omega
  · have := L k hk; unfold LinkOk at this; show 1 ≤ (ls.getD k z72).f4; omega
  · have := L k hk; unfold LinkOk at this; show 1 ≤ (ls.getD k z72).f5; omega
  · have e : endA (ls.getD j z72) = endA (ls.getD k z72) := by
      unfold endA; rw [show (ls.getD j z72).f0.toNat = (ls.getD k z72).f0.toNat from a, show (ls.getD j z72).f1 = (ls.getD k z72).f1 from b]
    rcases Nat.lt_trichotomy j k with c | c | c
    · exact absurd (.inl e) (hends j k hj hk c _ (.inl rfl))
    · exact c
    · exact absurd (.inl e.symm) (hends k j hk hj c _ (.inl rfl))
  · have e : endB (ls.getD j z72) = endB (ls.getD k z72) := by
      unfold endB; rw [show (ls.getD j z72).f2.toNat = (ls.getD k z72).f2.toNat from a, show (ls.getD j z72).f3 = (ls.getD k z72).f3 from b]
    rcases Nat.lt_trichotomy j k with c | c | c
    · exact absurd (.inr e) (hends j k hj hk c _ (.inr rfl))
    · exact c
    · exact absurd (.inr e.symm) (hends k j hk hj c _ (.inr rfl))
  · have e : endA (ls.getD j z72) = endB (ls.getD k z72) := by
      unfold endA endB; rw [show (ls.getD j z72).f0.toNat = (ls.getD k z72).f2.toNat from a, show (ls.getD j z72).f1 = (ls.getD k z72).f3 from b]
    rcases Nat.lt_trichotomy j k with c | c | c
    · exact hends j k hj hk c _ (.inl rfl) (.inr e)
    · subst c
      have := L j hj
      unfold LinkOk at this
      have a' : (ls.getD j z72).f0.toNat = (ls.getD j z72).f2.toNat := a
      omega
    · exact hends k j hk hj c _ (.inr rfl) (.inl e.symm)
end
theorem better_f (a b : S36) : kissgateref10_Better.f a.f0 a.f1 a.f2 a.f3 b.f0 b.f1 b.f2 b.f3 = some (decide (Lt a b)) := by
  unfold kissgateref10_Better.f
  split
  · split
    · split
      · exact congrArg some (decide_eq_decide.2 (by unfold Lt; omega))
      · exact congrArg some (decide_eq_decide.2 (by unfold Lt; omega))
    · exact congrArg some (decide_eq_decide.2 (by unfold Lt; omega))
  · exact congrArg some (decide_eq_decide.2 (by unfold Lt; omega))
def bet (mine : S36) (id : Int) (th : S36) (other port cost : Int) : S36 := if th.f0 < id ∧ Lt ⟨th.f0, th.f1 + cost, other, port⟩ mine then ⟨th.f0, th.f1 + cost, other, port⟩ else mine
theorem bet_f (mine : S36) (id : Int) (th : S36) (other port cost : Int) (hne : id ≠ other) (hw : -9223372036854775808 ≤ th.f1 + cost ∧ th.f1 + cost ≤ 9223372036854775807) :
    kissgateref12_better.f mine.f0 mine.f1 mine.f2 mine.f3 id th.f0 th.f1 th.f2 th.f3 other port cost = some ((bet mine id th other port cost).f0, (bet mine id th other port cost).f1, (bet mine id th other port cost).f2, (bet mine id th other port cost).f3) := by
  unfold kissgateref12_better.f bet
  rw [IntWalk.wrap64_in _ hw]
  by_cases h1 : th.f0 < id
  · rw [if_pos h1, if_neg hne]
    rw [better_f ⟨th.f0, th.f1 + cost, other, port⟩ mine, Option.bind_some]
    by_cases h2 : Lt ⟨th.f0, th.f1 + cost, other, port⟩ mine
    · rw [if_pos (decide_eq_true h2), if_pos ⟨h1, h2⟩]
    · rw [if_neg (by rw [decide_eq_false h2]; decide), if_neg (fun h => h2 h.2)]
  · rw [if_neg h1, if_neg (fun h => h1 h.1)]
def Rep (n : Nat) (H : List S36) (f : Nat → S36) : Prop := H.length = n ∧ ∀ x, x < n → H.getD x z36 = f x
def Bdd (n : Nat) (f : Nat → S36) (b : Int) : Prop := ∀ x, x < n → 0 ≤ (f x).f1 ∧ (f x).f1 ≤ b
theorem getD_set {α : Type} (l : List α) (i j : Nat) (v d : α) (hi : i < l.length) : (l.set i v).getD j d = if j = i then v else l.getD j d := by
  rw [List.getD_eq_getElem?_getD, List.getD_eq_getElem?_getD, List.getElem?_set]
  by_cases e : i = j
  · subst e
    rw [if_pos rfl, if_pos hi, if_pos rfl]
    rfl
  · rw [if_neg e, if_neg (fun h => e h.symm)]
theorem bdd_relax {g : Gr} (h : g.Ok) {f : Nat → S36} {b : Int} (hb : Bdd g.n f b) {k : Nat} (hk : k < g.m) (s : Bool) (hc : g.cost k s ≤ 1048576) : Bdd g.n (g.relax f k s) (b + 1048576) := by
  have hcp := Gr.cost_pos h hk s
  have hs := hb _ (Gr.src_lt h hk s)
  intro x hx
  have hx2 := hb x hx
  unfold Gr.relax
  split
  · unfold Gr.upd
    split
    · show 0 ≤ (f (g.src k s)).f1 + g.cost k s ∧ (f (g.src k s)).f1 + g.cost k s ≤ b + 1048576
      omega
    · omega
  · omega
theorem bdd_pass {g : Gr} (h : g.Ok) (hc : ∀ k s, k < g.m → g.cost k s ≤ 1048576) {f : Nat → S36} {b : Int} (hb : Bdd g.n f b) (k : Nat) (hk : k ≤ g.m) : Bdd g.n (g.pass k f) (b + k * 2097152) := by
  induction k with
  | zero =>
    intro x hx
    have := hb x hx
    show 0 ≤ (f x).f1 ∧ (f x).f1 ≤ _
    omega
  | succ k ih =>
    have := bdd_relax h (bdd_relax h (ih (by omega)) (show k < g.m by omega) false (hc k _ (by omega))) (show k < g.m by omega) true (hc k _ (by omega))
    intro x hx
    have := this x hx
    show 0 ≤ (g.relax (g.relax (g.pass k f) k false) k true x).f1 ∧ (g.relax (g.relax (g.pass k f) k false) k true x).f1 ≤ _
    omega
theorem bdd_hold {g : Gr} (h : g.Ok) (hm : g.m ≤ 16) (hc : ∀ k s, k < g.m → g.cost k s ≤ 1048576) (t : Nat) : Bdd g.n (g.hold t) (t * 33554432) := by
  induction t with
  | zero => intro x hx; exact ⟨Int.le_refl _, by show (0 : Int) ≤ _; omega⟩
  | succ t ih =>
    intro x hx
    have := bdd_pass h hc ih g.m (Nat.le_refl _) x hx
    show 0 ≤ (g.pass g.m (g.hold t) x).f1 ∧ (g.pass g.m (g.hold t) x).f1 ≤ _
    omega
theorem rep_relax {g : Gr} (hg : g.Ok) {H : List S36} {f : Nat → S36} (hr : Rep g.n H f) {k : Nat} (hk : k < g.m) (s : Bool) : Rep g.n (H.set (g.dst k s) (bet (H.getD (g.dst k s) z36) (g.ids (g.dst k s)) (H.getD (g.src k s) z36) (g.ids (g.src k s)) (g.port k s) (g.cost k s))) (g.relax f k s) := by
  have hd := Gr.dst_lt hg hk s
  have hs := Gr.src_lt hg hk s
  refine ⟨by rw [List.length_set]; exact hr.1, fun x hx => ?_⟩
  rw [getD_set _ _ _ _ _ (by rw [hr.1]; exact hd), hr.2 _ hd, hr.2 _ hs]
  unfold Gr.relax bet
  show (if x = g.dst k s then (if (f (g.src k s)).f0 < g.ids (g.dst k s) ∧ Lt (g.cand f k s) (f (g.dst k s)) then g.cand f k s else f (g.dst k s)) else H.getD x z36) = _
  by_cases hc : (f (g.src k s)).f0 < g.ids (g.dst k s) ∧ Lt (g.cand f k s) (f (g.dst k s))
  · rw [if_pos hc, if_pos hc]
    unfold Gr.upd
    by_cases e : x = g.dst k s
    · rw [if_pos e, if_pos e]
    · rw [if_neg e, if_neg e]
      exact hr.2 x hx
  · rw [if_neg hc, if_neg hc]
    by_cases e : x = g.dst k s
    · rw [if_pos e, e]
    · rw [if_neg e]
      exact hr.2 x hx
theorem ws (i : Nat) (h : i < 1000000) : wrap64 ((i : Int) + 1) = ((i + 1 : Nat) : Int) := nat_step i h
theorem rd72 (xs : List S72) (k : Nat) : rd_T72 xs (k : Int) = xs.getD k z72 := by unfold rd_T72; rw [Int.toNat_natCast]
section
variable {ids : List Int} {ls : List S72} (h : FitsP ids ls)
include h
theorem cost_le (k : Nat) (s : Bool) (hk : k < ls.length) : (gr ids ls).cost k s ≤ 1048576 := by
  have := link_ok h hk
  unfold LinkOk at this
  cases s
  · show (ls.getD k z72).f5 ≤ 1048576; omega
  · show (ls.getD k z72).f4 ≤ 1048576; omega
theorem l3_step (H : List S36) (f : Nat → S36) (hr : Rep ids.length H f) (hb : Bdd ids.length f 4611686018427387904) (x24 x25 x28 x29 : Int) (k : Nat) (hk : k < ls.length) :
    ∃ H', Rep ids.length H' ((gr ids ls).relax ((gr ids ls).relax f k false) k true) ∧ ∀ kk, kissgateref12_Hold.l3 (kk + 1) ids ls H x24 x25 x28 x29 ls (ls.length : Int) (k : Int) = kissgateref12_Hold.l3 kk ids ls H' x24 x25 x28 x29 ls (ls.length : Int) ((k + 1 : Nat) : Int) := by
  have hg := gr_ok h
  have hl := link_ok h hk
  have hm := h.2.2.1
  unfold LinkOk at hl
  obtain ⟨a1, a2, b1, b2, hne, p1, p2, q1, q2, ca1, ca2, cb1, cb2⟩ := hl
  have hr1 := rep_relax hg hr hk false
  have hr2 := rep_relax hg hr1 hk true
  have hbA := hb _ (hg.hA k hk)
  have hb1 := bdd_relax hg hb hk false (cost_le h k false hk)
  have hbB := hb1 _ (hg.hB k hk)
  refine ⟨_, hr2, fun kk => ?_⟩
  have hlen := hr.1
  have eA : H.getD ((gr ids ls).A k) z36 = f ((gr ids ls).A k) := hr.2 _ (hg.hA k hk)
  have eB : (H.set ((gr ids ls).dst k false) (bet (H.getD ((gr ids ls).dst k false) z36) ((gr ids ls).ids ((gr ids ls).dst k false)) (H.getD ((gr ids ls).src k false) z36) ((gr ids ls).ids ((gr ids ls).src k false)) ((gr ids ls).port k false) ((gr ids ls).cost k false))).getD ((gr ids ls).B k) z36 = (gr ids ls).relax f k false ((gr ids ls).B k) := hr1.2 _ (hg.hB k hk)
  have hidne : (gr ids ls).ids ((gr ids ls).B k) ≠ (gr ids ls).ids ((gr ids ls).A k) := fun e => hg.hAB k hk (hg.inj _ _ (hg.hA k hk) (hg.hB k hk) e.symm)
  have f1 := bet_f (H.getD ((gr ids ls).dst k false) z36) ((gr ids ls).ids ((gr ids ls).dst k false)) (H.getD ((gr ids ls).src k false) z36) ((gr ids ls).ids ((gr ids ls).src k false)) ((gr ids ls).port k false) ((gr ids ls).cost k false) hidne (by
    show _ ≤ (H.getD ((gr ids ls).A k) z36).f1 + (ls.getD k z72).f5 ∧ (H.getD ((gr ids ls).A k) z36).f1 + (ls.getD k z72).f5 ≤ _
    rw [eA]
    omega)
  have f2 := bet_f ((H.set ((gr ids ls).dst k false) (bet (H.getD ((gr ids ls).dst k false) z36) ((gr ids ls).ids ((gr ids ls).dst k false)) (H.getD ((gr ids ls).src k false) z36) ((gr ids ls).ids ((gr ids ls).src k false)) ((gr ids ls).port k false) ((gr ids ls).cost k false))).getD ((gr ids ls).dst k true) z36) ((gr ids ls).ids ((gr ids ls).dst k true)) ((H.set ((gr ids ls).dst k false) (bet (H.getD ((gr ids ls).dst k false) z36) ((gr ids ls).ids ((gr ids ls).dst k false)) (H.getD ((gr ids ls).src k false) z36) ((gr ids ls).ids ((gr ids ls).src k false)) ((gr ids ls).port k false) ((gr ids ls).cost k false))).getD ((gr ids ls).src k true) z36) ((gr ids ls).ids ((gr ids ls).src k true)) ((gr ids ls).port k true) ((gr ids ls).cost k true) (fun e => hidne e.symm) (by
    show _ ≤ ((H.set ((gr ids ls).dst k false) (bet (H.getD ((gr ids ls).dst k false) z36) ((gr ids ls).ids ((gr ids ls).dst k false)) (H.getD ((gr ids ls).src k false) z36) ((gr ids ls).ids ((gr ids ls).src k false)) ((gr ids ls).port k false) ((gr ids ls).cost k false))).getD ((gr ids ls).B k) z36).f1 + (ls.getD k z72).f4 ∧ ((H.set ((gr ids ls).dst k false) (bet (H.getD ((gr ids ls).dst k false) z36) ((gr ids ls).ids ((gr ids ls).dst k false)) (H.getD ((gr ids ls).src k false) z36) ((gr ids ls).ids ((gr ids ls).src k false)) ((gr ids ls).port k false) ((gr ids ls).cost k false))).getD ((gr ids ls).B k) z36).f1 + (ls.getD k z72).f4 ≤ _
    rw [eB]
    omega)
  simp only [kissgateref12_Hold.l3]
  rw [rd72, if_pos (by omega), if_pos (by omega), if_pos (by omega), if_pos b1, if_pos (by omega), if_pos b2, if_pos a1, if_pos (by omega), if_pos a2, ws k (by omega)]
  refine (congrArg (fun o => Option.bind o _) f1).trans ?_
  rw [Option.bind_some, Option.bind_some]
  refine (congrArg (fun o => Option.bind o _) f2).trans ?_
  rw [Option.bind_some]
  rfl
theorem l3_ev (t : Nat) (ht : t ≤ 128) (x24 x25 x28 x29 : Int) (Q : List S36 → Prop)
    (hn : ∀ H, Rep ids.length H ((gr ids ls).hold (t + 1)) → ∃ r, Q r ∧ Ev (fun kk => kissgateref12_Hold.l2 kk ids ls H x24 x25 x28 (wrap64 (x29 + 1))) r) :
    ∀ (d k : Nat), k + d = ls.length → ∀ H, Rep ids.length H ((gr ids ls).pass k ((gr ids ls).hold t)) → ∃ r, Q r ∧ Ev (fun kk => kissgateref12_Hold.l3 kk ids ls H x24 x25 x28 x29 ls (ls.length : Int) (k : Int)) r := by
  intro d
  induction d with
  | zero =>
    intro k hk H hr
    have hk : k = ls.length := by omega
    subst hk
    obtain ⟨r, hq, he⟩ := hn H hr
    exact ⟨r, hq, he.step (fun kk => by simp only [kissgateref12_Hold.l3]; rw [if_neg (by omega)])⟩
  | succ d ih =>
    intro k hk H hr
    have hm := h.2.2.1
    have hb := bdd_pass (gr_ok h) (fun k s hk => cost_le h k s hk) (bdd_hold (gr_ok h) hm (fun k s hk => cost_le h k s hk) t) k (show k ≤ ls.length by omega)
    obtain ⟨H', hr', e⟩ := l3_step h H _ hr (fun x hx => by have := hb x hx; omega) x24 x25 x28 x29 k (by omega)
    obtain ⟨r, hq, he⟩ := ih (k + 1) (by omega) H' hr'
    exact ⟨r, hq, he.step e⟩
theorem l2_ev (x24 x25 : Int) (Q : List S36 → Prop) :
    ∀ (d q t : Nat), q + d = ls.length → t + d ≤ 128 → (∀ H, Rep ids.length H ((gr ids ls).hold (t + d)) → ∃ r, Q r ∧ Ev (fun kk => kissgateref12_Hold.l1 kk ids ls H x24 (wrap64 (x25 + 1))) r) →
      ∀ H, Rep ids.length H ((gr ids ls).hold t) → ∃ r, Q r ∧ Ev (fun kk => kissgateref12_Hold.l2 kk ids ls H x24 x25 (ls.length : Int) (q : Int)) r := by
  intro d
  induction d with
  | zero =>
    intro q t hq ht hn H hr
    obtain ⟨r, hq2, he⟩ := hn H hr
    exact ⟨r, hq2, he.step (fun kk => by simp only [kissgateref12_Hold.l2]; rw [if_neg (by omega)])⟩
  | succ d ih =>
    intro q t hq ht hn H hr
    have hm := h.2.2.1
    obtain ⟨r, hq2, he⟩ := l3_ev h t (by omega) x24 x25 (ls.length : Int) (q : Int) Q (fun H hr => by
      rw [ws q (by omega)]
      exact ih (q + 1) (t + 1) (by omega) (by omega) (fun H hr => hn H (by rw [show t + (d + 1) = t + 1 + d by omega]; exact hr)) H hr) ls.length 0 (by omega) H hr
    exact ⟨r, hq2, he.step (fun kk => by simp only [kissgateref12_Hold.l2]; rw [if_pos (by omega)]; rfl)⟩
theorem l1_ev : ∀ (d p t : Nat), p + d = ids.length → t + d * ls.length ≤ 128 → ∀ H, Rep ids.length H ((gr ids ls).hold t) → ∃ r, Rep ids.length r ((gr ids ls).hold (t + d * ls.length)) ∧ Ev (fun kk => kissgateref12_Hold.l1 kk ids ls H (ids.length : Int) (p : Int)) r := by
  intro d
  induction d with
  | zero =>
    intro p t hp ht H hr
    refine ⟨H, by rw [Nat.zero_mul, Nat.add_zero]; exact hr, (Ev.now H).step (fun kk => by simp only [kissgateref12_Hold.l1]; rw [if_neg (by omega)])⟩
  | succ d ih =>
    intro p t hp ht H hr
    have e : t + (d + 1) * ls.length = t + ls.length + d * ls.length := by rw [Nat.succ_mul]; omega
    rw [e] at ht ⊢
    have h8 := h.2.1
    obtain ⟨r, hq, he⟩ := l2_ev h (ids.length : Int) (p : Int) (fun r => Rep ids.length r ((gr ids ls).hold (t + ls.length + d * ls.length))) ls.length 0 t (by omega) (by omega) (fun H hr => by
      rw [ws p (by omega)]
      exact ih (p + 1) (t + ls.length) (by omega) ht H hr) H hr
    exact ⟨r, hq, he.step (fun kk => by simp only [kissgateref12_Hold.l1]; rw [if_pos (by omega)]; rfl)⟩
theorem nm_le : ids.length * ls.length ≤ 128 := Nat.le_trans (Nat.mul_le_mul h.2.1 h.2.2.1) (by decide)
theorem l0_ev : ∀ (d i : Nat), i + d = ids.length → ∀ H : List S36, (H.length = i ∧ ∀ x, x < i → H.getD x z36 = (gr ids ls).own x) → ∃ r, Rep ids.length r ((gr ids ls).hold (ids.length * ls.length)) ∧ Ev (fun kk => kissgateref12_Hold.l0 kk ids ls H ids (ids.length : Int) (i : Int)) r := by
  intro d
  induction d with
  | zero =>
    intro i hi H hr
    have hi : i = ids.length := by omega
    subst hi
    obtain ⟨r, hq, he⟩ := l1_ev h ids.length 0 0 (by omega) (by rw [Nat.zero_add]; exact nm_le h) H hr
    rw [Nat.zero_add] at hq
    exact ⟨r, hq, he.step (fun kk => by simp only [kissgateref12_Hold.l0]; rw [if_neg (by omega)]; rfl)⟩
  | succ d ih =>
    intro i hi H hr
    have h8 := h.2.1
    obtain ⟨r, hq, he⟩ := ih (i + 1) (by omega) (H ++ [⟨rd ids (i : Int), 0, rd ids (i : Int), 0⟩]) ⟨by rw [List.length_append, hr.1]; rfl, fun x hx => by
      rcases Nat.lt_succ_iff_lt_or_eq.1 hx with hx | hx
      · rw [List.getD_eq_getElem?_getD, List.getElem?_append_left (by rw [hr.1]; exact hx), ← List.getD_eq_getElem?_getD]
        exact hr.2 x hx
      · subst hx
        rw [List.getD_eq_getElem?_getD, List.getElem?_append_right (by rw [hr.1]; exact Nat.le_refl _), hr.1, Nat.sub_self]
        show (⟨rd ids (x : Int), 0, rd ids (x : Int), 0⟩ : S36) = ⟨ids.getD x 0, 0, ids.getD x 0, 0⟩
        rw [show rd ids (x : Int) = ids.getD x 0 by unfold rd; rw [Int.toNat_natCast]]⟩
    exact ⟨r, hq, he.step (fun kk => by
      simp only [kissgateref12_Hold.l0]
      rw [if_pos (by omega), if_pos (by omega), if_pos (by omega), if_pos (by rw [hr.1]; omega), ws i (by omega)])⟩
theorem hold_ev : ∃ r, Rep ids.length r ((gr ids ls).hold (ids.length * ls.length)) ∧ Ev (fun kk => kissgateref12_Hold.f kk ids ls) r := by
  obtain ⟨r, hq, he⟩ := l0_ev h ids.length 0 (by omega) [] ⟨rfl, fun x hx => absurd hx (Nat.not_lt_zero _)⟩
  exact ⟨r, hq, he⟩
end
end Go.Proofs.YtfimhaodgekkgaaDoor.Spn
namespace Go.Proofs.YtfimhaodgekkgaaDoor.Spn
open Go.RowKit Go.Proofs.YtfimhaodgekkgaaDoorW.PrintWords Go.Proofs.YtfimhaodgekkgaaDoorW.PrintLast Go.Proofs.YtfimhaodgekkgaaDoorW.PrintMore
open Go.Proofs.YtfimhaodgekkgaaDoor.QSpn
set_option linter.unusedVariables false
set_option linter.unusedSimpArgs false
theorem rd36 (xs : List S36) (x : Int) : rd_T36 xs x = xs.getD x.toNat z36 := rfl
theorem leads_l0 (a pa b pb : Int) (ls : List S72) (hm : ls.length ≤ 16)
    (n1 : ∀ j, j < ls.length → ¬ ((ls.getD j z72).f0 = a ∧ (ls.getD j z72).f2 = b ∧ (ls.getD j z72).f3 = pb ∧ (ls.getD j z72).f1 < pa))
    (n2 : ∀ j, j < ls.length → ¬ ((ls.getD j z72).f2 = a ∧ (ls.getD j z72).f0 = b ∧ (ls.getD j z72).f1 = pb ∧ (ls.getD j z72).f3 < pa)) :
    ∀ (d i : Nat), i + d = ls.length → Ev (fun k => kissgateref12_leads.l0 k a pa b pb ls (ls.length : Int) (i : Int)) true := by
  intro d
  induction d with
  | zero => intro i hi; exact (Ev.now true).step (fun k => by simp only [kissgateref12_leads.l0]; rw [if_neg (by omega)])
  | succ d ih =>
    intro i hi
    refine (ih (i + 1) (by omega)).step (fun k => ?_)
    have h1 := n1 i (by omega)
    have h2 := n2 i (by omega)
    simp only [kissgateref12_leads.l0]
    rw [if_pos (by omega), if_pos (by omega), if_pos (by omega), rd72, ws i (by omega)]
    repeat' split
    all_goals first
      | rfl
      | exact absurd ⟨‹_›, ‹_›, ‹_›, ‹_›⟩ h1
      | exact absurd ⟨‹_›, ‹_›, ‹_›, ‹_›⟩ h2
open Classical in
noncomputable def isT (ids : List Int) (ls : List S72) (k : Nat) : Bool := decide ((gr ids ls).tree ((gr ids ls).hold (ids.length * ls.length)) k)
theorem isT_iff {ids : List Int} {ls : List S72} (k : Nat) : isT ids ls k = true ↔ (gr ids ls).tree ((gr ids ls).hold (ids.length * ls.length)) k := by
  unfold isT
  exact @decide_eq_true_iff _ (Classical.propDecidable _)
section
variable {ids : List Int} {ls : List S72} (h : FitsP ids ls)
include h
open Classical in
theorem leads_ev {H : List S36} {F : Nat → S36} (hr : Rep ids.length H F) (hb : Bdd ids.length F 4611686018427387904) (k : Nat) (hk : k < ls.length) (s : Bool) (a pa c b pb : Int)
    (ea : a = ((gr ids ls).dst k s : Nat)) (eb : b = ((gr ids ls).src k s : Nat)) (ec : c = (gr ids ls).cost k s) (epb : pb = (gr ids ls).port k s) (epa : pa = (gr ids ls).port k (!s)) :
    Ev (fun kk => kissgateref12_leads.f kk ids ls H a pa c b pb) (decide ((gr ids ls).lead F k s)) := by
  have hg := gr_ok h
  have hm := h.2.2.1
  have hd := Gr.dst_lt hg hk s
  have hs := Gr.src_lt hg hk s
  have hne := Gr.src_ne hg hk s
  have hcp := Gr.cost_pos hg hk s
  have hcl := cost_le h k s hk
  have hd2 : (gr ids ls).dst k s < ids.length := hd
  have hs2 : (gr ids ls).src k s < ids.length := hs
  have hbs := hb _ hs
  have hlen := hr.1
  have rA : rd_T36 H a = F ((gr ids ls).dst k s) := by rw [rd36, ea, Int.toNat_natCast]; exact hr.2 _ hd
  have rB : rd_T36 H b = F ((gr ids ls).src k s) := by rw [rd36, eb, Int.toNat_natCast]; exact hr.2 _ hs
  have iA : rd ids a = (gr ids ls).ids ((gr ids ls).dst k s) := by unfold rd; rw [ea, Int.toNat_natCast]
  have iB : rd ids b = (gr ids ls).ids ((gr ids ls).src k s) := by unfold rd; rw [eb, Int.toNat_natCast]
  have hj0 : ∀ kk, kissgateref12_leads.j0 (kk + 1) ls a pa b pb true = some false := fun kk => by simp [kissgateref12_leads.j0]
  unfold kissgateref12_leads.f
  simp only [rA, rB, iA, iB]
  rw [IntWalk.wrap64_in _ (by rw [ec]; omega)]
  simp only [if_pos (show 0 ≤ b by omega), if_pos (show b < (H.length : Int) by omega), if_pos (show b < (ids.length : Int) by omega), if_neg (show ¬ a = b by omega), if_pos (show 0 ≤ a by omega), if_pos (show a < (H.length : Int) by omega), if_pos (show a < (ids.length : Int) by omega)]
  by_cases hc : F ((gr ids ls).dst k s) = (gr ids ls).cand F k s
  · have e0 : (F ((gr ids ls).dst k s)).f0 = (F ((gr ids ls).src k s)).f0 := by rw [hc]; rfl
    have e1 : (F ((gr ids ls).dst k s)).f1 = (F ((gr ids ls).src k s)).f1 + c := by rw [hc, ec]; rfl
    have e2 : (F ((gr ids ls).dst k s)).f2 = (gr ids ls).ids ((gr ids ls).src k s) := by rw [hc]; rfl
    have e3 : (F ((gr ids ls).dst k s)).f3 = pb := by rw [hc, epb]; rfl
    rw [e0, e1, e2, e3]
    simp only [beq_self_eq_true, Bool.not_true, Bool.or_self, Bool.false_eq_true, if_false]
    by_cases hl : (F ((gr ids ls).src k s)).f0 < (gr ids ls).ids ((gr ids ls).dst k s)
    · rw [decide_eq_true (show (gr ids ls).lead F k s from ⟨hc, hl⟩), decide_eq_false (show ¬ ((F ((gr ids ls).src k s)).f0 ≥ (gr ids ls).ids ((gr ids ls).dst k s)) by omega)]
      have n1 : ∀ j, j < ls.length → ¬ ((ls.getD j z72).f0 = a ∧ (ls.getD j z72).f2 = b ∧ (ls.getD j z72).f3 = pb ∧ (ls.getD j z72).f1 < pa) := by
        rintro j hj ⟨q1, q2, q3, q4⟩
        obtain ⟨r1, r2⟩ := Gr.end_inj hg hj hk (s := true) (u := s) (by show (ls.getD j z72).f2.toNat = _; rw [q2, eb, Int.toNat_natCast]) (by show (ls.getD j z72).f3 = _; rw [q3, epb])
        subst r1
        subst r2
        have : pa = (ls.getD j z72).f1 := epa
        omega
      have n2 : ∀ j, j < ls.length → ¬ ((ls.getD j z72).f2 = a ∧ (ls.getD j z72).f0 = b ∧ (ls.getD j z72).f1 = pb ∧ (ls.getD j z72).f3 < pa) := by
        rintro j hj ⟨q1, q2, q3, q4⟩
        obtain ⟨r1, r2⟩ := Gr.end_inj hg hj hk (s := false) (u := s) (by show (ls.getD j z72).f0.toNat = _; rw [q2, eb, Int.toNat_natCast]) (by show (ls.getD j z72).f1 = _; rw [q3, epb])
        subst r1
        subst r2
        have : pa = (ls.getD j z72).f3 := epa
        omega
      refine (leads_l0 a pa b pb ls hm n1 n2 ls.length 0 (by omega)).step (fun kk => ?_)
      simp only [kissgateref12_leads.j0]
      rw [if_neg (by decide)]
      rfl
    · rw [decide_eq_false (show ¬ (gr ids ls).lead F k s from fun hh => hl hh.2), decide_eq_true (show (F ((gr ids ls).src k s)).f0 ≥ (gr ids ls).ids ((gr ids ls).dst k s) by omega)]
      exact (Ev.now false).step hj0
  · rw [decide_eq_false (show ¬ (gr ids ls).lead F k s from fun hh => hc hh.1)]
    refine Ev.congr (f := fun kk => kissgateref12_leads.j0 kk ls a pa b pb true) (fun kk => if_pos ?_) ((Ev.now false).step hj0)
    · refine Classical.byContradiction fun hn => hc ?_
      simp only [Bool.not_eq_true, Bool.or_eq_false_iff, Bool.not_eq_false', beq_iff_eq] at hn
      obtain ⟨q0, q1, q2, q3⟩ := hn
      unfold Gr.cand
      have q2' : (F ((gr ids ls).dst k s)).f2 = (gr ids ls).ids ((gr ids ls).src k s) := q2
      rw [← ec, ← epb, ← q0, ← q1, ← q2', ← q3]
theorem bdd_last : Bdd ids.length ((gr ids ls).hold (ids.length * ls.length)) 4611686018427387904 := by
  intro x hx
  have := bdd_hold (gr_ok h) h.2.2.1 (fun k s hk => cost_le h k s hk) (ids.length * ls.length) x hx
  have := nm_le h
  omega
open Classical in
theorem stands_l0 (H : List S36) (hr : Rep ids.length H ((gr ids ls).hold (ids.length * ls.length))) :
    ∀ (d i : Nat), i + d = ls.length → Ev (fun kk => kissgateref12_Stands.l0 kk ids ls H ((List.range i).map (isT ids ls)) ls (ls.length : Int) (i : Int)) ((List.range ls.length).map (isT ids ls)) := by
  intro d
  induction d with
  | zero =>
    intro i hi
    have hi : i = ls.length := by omega
    subst hi
    exact (Ev.now _).step (fun k => by simp only [kissgateref12_Stands.l0]; rw [if_neg (by omega)])
  | succ d ih =>
    intro i hi
    have hm := h.2.2.1
    have hk : i < ls.length := by omega
    have hl := link_ok h hk
    unfold LinkOk at hl
    have hF := Gr.fin_hold (gr_ok h)
    have l1 := leads_ev h hr (bdd_last h) i hk true (ls.getD i z72).f0 (ls.getD i z72).f1 (ls.getD i z72).f4 (ls.getD i z72).f2 (ls.getD i z72).f3 (by show _ = (((ls.getD i z72).f0.toNat : Nat) : Int); omega) (by show _ = (((ls.getD i z72).f2.toNat : Nat) : Int); omega) rfl rfl rfl
    have l2 := leads_ev h hr (bdd_last h) i hk false (ls.getD i z72).f2 (ls.getD i z72).f3 (ls.getD i z72).f5 (ls.getD i z72).f0 (ls.getD i z72).f1 (by show _ = (((ls.getD i z72).f2.toNat : Nat) : Int); omega) (by show _ = (((ls.getD i z72).f0.toNat : Nat) : Int); omega) rfl rfl rfl
    have e : (List.range (i + 1)).map (isT ids ls) = (List.range i).map (isT ids ls) ++ [isT ids ls i] := by rw [List.range_succ, List.map_append]; rfl
    have hlen : ((List.range i).map (isT ids ls)).length < 140737488355328 := by rw [List.length_map, List.length_range]; omega
    have key : Ev (fun kk => (kissgateref12_leads.f kk ids ls H (ls.getD i z72).f0 (ls.getD i z72).f1 (ls.getD i z72).f4 (ls.getD i z72).f2 (ls.getD i z72).f3).bind fun t145 => if t145 = true then (if ((List.range i).map (isT ids ls)).length < 140737488355328 then kissgateref12_Stands.l0 kk ids ls H ((List.range i).map (isT ids ls) ++ [true]) ls (ls.length : Int) ((i + 1 : Nat) : Int) else none) else ((kissgateref12_leads.f kk ids ls H (ls.getD i z72).f2 (ls.getD i z72).f3 (ls.getD i z72).f5 (ls.getD i z72).f0 (ls.getD i z72).f1).bind fun t149 => if ((List.range i).map (isT ids ls)).length < 140737488355328 then kissgateref12_Stands.l0 kk ids ls H ((List.range i).map (isT ids ls) ++ [t149]) ls (ls.length : Int) ((i + 1 : Nat) : Int) else none)) ((List.range ls.length).map (isT ids ls)) := by
      refine Ev.bind l1 ?_
      by_cases a : (gr ids ls).lead ((gr ids ls).hold (ids.length * ls.length)) i true
      · have t : isT ids ls i = true := (isT_iff i).2 (.inl a)
        simp only [decide_eq_true a, if_true, if_pos hlen]
        rw [t] at e
        rw [← e]
        exact ih (i + 1) (by omega)
      · simp only [decide_eq_false a, Bool.false_eq_true, if_false]
        refine Ev.bind l2 ?_
        simp only [if_pos hlen]
        have t : isT ids ls i = @decide ((gr ids ls).lead ((gr ids ls).hold (ids.length * ls.length)) i false) (Classical.propDecidable _) := by
          by_cases b : (gr ids ls).lead ((gr ids ls).hold (ids.length * ls.length)) i false
          · rw [decide_eq_true b]
            exact (isT_iff i).2 (.inr b)
          · rw [decide_eq_false b, ← Bool.not_eq_true]
            intro hh
            rcases (isT_iff i).1 hh with x | x
            · exact a x
            · exact b x
        rw [t] at e
        rw [← e]
        exact ih (i + 1) (by omega)
    refine key.step (fun kk => ?_)
    simp only [kissgateref12_Stands.l0]
    rw [if_pos (by omega), if_pos (by omega), if_pos (by omega), rd72, ws i (by omega)]
theorem stands_ev : Ev (fun kk => kissgateref12_Stands.f kk ids ls) ((List.range ls.length).map (isT ids ls)) := by
  obtain ⟨H, hr, he⟩ := hold_ev h
  unfold kissgateref12_Stands.f
  exact Ev.bind he (stands_l0 h H hr ls.length 0 (by omega))
end
def RepI (n : Nat) (l : List Int) (o : Nat → Int) : Prop := l.length = n ∧ ∀ x, x < n → l.getD x 0 = o x
section
variable {ids : List Int} {ls : List S72} (h : FitsP ids ls)
def onP (sm : List Bool) (k : Nat) : Prop := sm = [] ∨ sm.getD k false = true
instance (sm : List Bool) : DecidablePred (onP sm) := fun k => by unfold onP; exact inferInstance
include h
theorem pin_rep (sm : List Bool) (k : Nat) (hk : k ≤ ls.length) {l : List Int} {o : Nat → Int} (hr : RepI ids.length l o) : RepI ids.length (pin ls sm k l) (Gr.lpass (gr ids ls) (onP sm) k o) := by
  induction k with
  | zero => exact hr
  | succ k ih =>
    have ih := ih (by omega)
    have hA := (gr_ok h).hA k (show k < ls.length by omega)
    have hB := (gr_ok h).hB k (show k < ls.length by omega)
    show RepI ids.length (if sm = [] ∨ sm.getD k false = true then pstep (pin ls sm k l) (ls.getD k z72) else pin ls sm k l) (Gr.lstep (gr ids ls) (onP sm) (Gr.lpass (gr ids ls) (onP sm) k o) k)
    unfold Gr.lstep
    by_cases hc : onP sm k
    · rw [if_pos hc, if_pos (show sm = [] ∨ sm.getD k false = true from hc)]
      generalize Gr.lpass (gr ids ls) (onP sm) k o = f at ih
      generalize pin ls sm k l = q at ih
      refine ⟨by rw [pstep_len]; exact ih.1, fun x hx => ?_⟩
      have a := ih.2 _ hA
      have b := ih.2 _ hB
      have a' : q.getD (ls.getD k z72).f0.toNat 0 = f ((gr ids ls).A k) := a
      have b' : q.getD (ls.getD k z72).f2.toNat 0 = f ((gr ids ls).B k) := b
      unfold pstep
      rw [a', b']
      have em : mn (f ((gr ids ls).A k)) (f ((gr ids ls).B k)) = min (f ((gr ids ls).A k)) (f ((gr ids ls).B k)) := by
        unfold mn
        split <;> omega
      rw [em, getD_set _ _ _ _ _ (by rw [List.length_set, ih.1]; exact hB), getD_set _ _ _ _ _ (by rw [ih.1]; exact hA)]
      unfold Gr.upd
      by_cases e1 : x = (ls.getD k z72).f2.toNat
      · rw [if_pos e1, if_pos (show x = (gr ids ls).B k from e1)]
      · rw [if_neg e1, if_neg (show ¬ x = (gr ids ls).B k from e1)]
        by_cases e2 : x = (ls.getD k z72).f0.toNat
        · rw [if_pos e2, if_pos (show x = (gr ids ls).A k from e2)]
        · rw [if_neg e2, if_neg (show ¬ x = (gr ids ls).A k from e2)]
          exact ih.2 x hx
    · rw [if_neg hc, if_neg (show ¬ (sm = [] ∨ sm.getD k false = true) from hc)]
      exact ih
theorem pout_rep (sm : List Bool) (t : Nat) : RepI ids.length (pout ids.length ls sm t) (Gr.labs (gr ids ls) (onP sm) t) := by
  induction t with
  | zero =>
    refine ⟨base0_len _, fun x hx => ?_⟩
    show (base0 ids.length).getD x 0 = (x : Int)
    simp [base0, hx]
  | succ t ih => exact pin_rep h sm ls.length (Nat.le_refl _) ih
theorem parts_some (sm : List Bool) (hs : sm = [] ∨ sm.length = ls.length) : kissgatelaw12_parts.f (ids.length : Int) ls sm = some (pout ids.length ls sm ids.length) := by
  unfold kissgatelaw12_parts.f
  have h1 := h.1
  have h8 := h.2.1
  have hm := h.2.2.1
  rw [if_pos, Int.toNat_natCast]
  refine ⟨by omega, by omega, hm, fun k hk => ?_, hs⟩
  have := link_ok h hk
  unfold LinkOk at this
  rw [Int.toNat_natCast]
  omega
end
theorem range_filter_succ (p : Nat → Bool) (i : Nat) : ((List.range (i + 1)).filter p).length = ((List.range i).filter p).length + if p i then 1 else 0 := by
  rw [List.range_succ, List.filter_append, List.length_append]
  congr 1
  by_cases hp : p i = true
  · rw [List.filter_cons_of_pos hp, if_pos hp]; rfl
  · rw [List.filter_cons_of_neg hp, if_neg hp]; rfl
theorem rdx (xs : List Int) (x : Nat) : rd xs (x : Int) = xs.getD x 0 := by unfold rd; rw [Int.toNat_natCast]
section
variable {ids : List Int} {ls : List S72} (h : FitsP ids ls)
include h
theorem law_l1 (al so : List Int) (ha : al.length = ids.length) (hs : so.length = ids.length) (he : ∀ x, x < ids.length → al.getD x 0 = so.getD x 0) (c : Int)
    (hc : c = (ids.length : Int) - ((List.range ids.length).filter fun x => al.getD x 0 == (x : Int)).length) :
    ∀ (d i : Nat), i + d = ids.length → Ev (fun kk => kissgatelaw12_TreeSpans.l1 kk ids al so c (((List.range i).filter fun x => al.getD x 0 == (x : Int)).length : Int) (al.length : Int) (i : Int)) true := by
  intro d
  have h8 := h.2.1
  induction d with
  | zero =>
    intro i hi
    have hi : i = ids.length := by omega
    subst hi
    have hle := List.length_filter_le (fun x => al.getD x 0 == (x : Int)) (List.range ids.length)
    rw [List.length_range] at hle
    refine (Ev.now true).step (fun k => ?_)
    simp only [kissgatelaw12_TreeSpans.l1]
    rw [if_neg (by omega), if_pos (by rw [IntWalk.wrap64_in _ (by omega)]; exact hc)]
    unfold tree_Bound.f
    rw [Option.bind_some, show mx (ids.length : Int) 0 = (ids.length : Int) by unfold mx; rw [if_neg (by omega)], beq_self_eq_true]
  | succ d ih =>
    intro i hi
    have hi2 : i < ids.length := by omega
    have e := range_filter_succ (fun x => al.getD x 0 == (x : Int)) i
    refine (ih (i + 1) (by omega)).step (fun k => ?_)
    simp only [kissgatelaw12_TreeSpans.l1]
    rw [if_pos (by omega), if_pos (by omega), if_pos (by omega), rdx, rdx, ws i (by omega), e]
    by_cases hx : al.getD i 0 = (i : Int)
    · rw [if_pos hx, if_pos (by omega), if_pos (he i hi2), if_pos (beq_iff_eq.2 hx), ws _ (by
        have := List.length_filter_le (fun x => al.getD x 0 == (x : Int)) (List.range i)
        rw [List.length_range] at this
        omega)]
    · rw [if_neg hx, if_pos (by omega), if_pos (he i hi2), if_neg (fun hh => hx (beq_iff_eq.1 hh))]
      rfl
theorem law_l0 (is : Nat → Bool) (al so : List Int) (r : Bool) (hn : Ev (fun kk => kissgatelaw12_TreeSpans.l1 kk ids al so (((List.range ls.length).filter is).length : Int) 0 (al.length : Int) 0) r) :
    ∀ (d i : Nat), i + d = ls.length → Ev (fun kk => kissgatelaw12_TreeSpans.l0 kk ids ((List.range ls.length).map is) al so (((List.range i).filter is).length : Int) (((List.range ls.length).map is).length : Int) (i : Int)) r := by
  intro d
  have hm := h.2.2.1
  have hl : ((List.range ls.length).map is).length = ls.length := by rw [List.length_map, List.length_range]
  induction d with
  | zero =>
    intro i hi
    have hi : i = ls.length := by omega
    subst hi
    refine hn.step (fun k => ?_)
    simp only [kissgatelaw12_TreeSpans.l0]
    rw [if_neg (by omega)]
  | succ d ih =>
    intro i hi
    have e := range_filter_succ is i
    refine (ih (i + 1) (by omega)).step (fun k => ?_)
    simp only [kissgatelaw12_TreeSpans.l0]
    have hi2 : i < ls.length := by omega
    have er : rdOf false ((List.range ls.length).map is) (i : Int) = is i := by
      unfold rdOf
      rw [Int.toNat_natCast, List.getD_eq_getElem?_getD]
      simp [hi2]
    rw [if_pos (by omega), if_pos (by omega), if_pos (by omega), er, ws i (by omega), e]
    have hle := List.length_filter_le is (List.range i)
    rw [List.length_range] at hle
    by_cases hx : is i = true
    · rw [if_pos hx, if_pos hx, ws _ (by omega)]
    · rw [if_neg hx, if_neg hx]
      rfl
theorem law_fits : Ev (fun kk => (kissgateref12_Stands.f kk ids ls).bind fun t155 => (kissgatelaw12_parts.f (ids.length : Int) ls ([] : List Bool)).bind fun t158 => (kissgatelaw12_parts.f (ids.length : Int) ls t155).bind fun t161 => kissgatelaw12_TreeSpans.l0 kk ids t155 t158 t161 0 (t155.length : Int) 0) true := by
  refine Ev.bind (stands_ev h) ?_
  rw [parts_some h [] (.inl rfl), parts_some h _ (.inr (by rw [List.length_map, List.length_range]))]
  simp only [Option.bind_some]
  have hg := gr_ok h
  have hF := Gr.fin_hold hg
  have hT : ∀ k, k < ls.length → (onP ((List.range ls.length).map (isT ids ls)) k ↔ (gr ids ls).tree ((gr ids ls).hold (ids.length * ls.length)) k) := by
    intro k hk
    rw [← isT_iff k]
    unfold onP
    have hne : (List.range ls.length).map (isT ids ls) ≠ [] := by
      intro e
      have := congrArg List.length e
      rw [List.length_map, List.length_range] at this
      have : ls.length = 0 := this
      omega
    have e : ((List.range ls.length).map (isT ids ls)).getD k false = isT ids ls k := by
      rw [List.getD_eq_getElem?_getD]
      simp [hk]
    rw [e]
    exact ⟨fun hh => hh.resolve_left hne, .inr⟩
  have pa := pout_rep h [] ids.length
  have ps := pout_rep h ((List.range ls.length).map (isT ids ls)) ids.length
  have heq : ∀ x, x < ids.length → (pout ids.length ls [] ids.length).getD x 0 = (pout ids.length ls ((List.range ls.length).map (isT ids ls)) ids.length).getD x 0 := by
    intro x hx
    rw [pa.2 x hx, ps.2 x hx]
    exact Gr.labs_eq hg (fun x y hc => Gr.Conn.mono (fun k hk _ => Gr.Conn.mono (fun j hj ht => Gr.Conn.ab j hj ((hT j hj).2 ht) (Gr.Conn.refl _)) (Gr.tree_conn hg hF hk)) hc)
      (fun x y hc => Gr.Conn.mono (fun k hk _ => Gr.Conn.ab k hk (.inl rfl) (Gr.Conn.refl _)) hc) x hx
  have lok := Gr.labs_ok (E := onP []) hg ids.length
  have hlab : ∀ x, x < ids.length → ((Gr.labs (gr ids ls) (onP []) ids.length x).toNat : Int) = Gr.labs (gr ids ls) (onP []) ids.length x ∧ Gr.Conn (gr ids ls) (onP []) x (Gr.labs (gr ids ls) (onP []) ids.length x).toNat := by
    intro x hx
    obtain ⟨z, e, c⟩ := lok x hx
    rw [e, Int.toNat_natCast]
    exact ⟨rfl, c⟩
  have hcount := Gr.count_tree hg hF (isT ids ls) (fun k _ => isT_iff k) (fun x => (Gr.labs (gr ids ls) (onP []) ids.length x).toNat) (onP []) (fun x hx => (hlab x hx).2) (fun x y hx hy e => by
    have c : Gr.Conn (gr ids ls) (onP []) x y := by
      obtain ⟨z, hz, _, c1, r1⟩ := Gr.to_root hg hF _ x hx rfl
      obtain ⟨u, hu, _, c2, r2⟩ := Gr.to_root hg hF _ y hy rfl
      have : z = u := hg.inj z u hz hu (by rw [← r1, ← r2]; exact e)
      subst this
      exact Gr.Conn.mono (fun k hk _ => Gr.Conn.ab k hk (.inl rfl) (Gr.Conn.refl _)) (c1.trans c2.symm)
    obtain ⟨a, ea, ca⟩ := lok x hx
    obtain ⟨b, eb, cb⟩ := lok y hy
    have h1 := Gr.labs_le (E := onP []) hg a (Gr.Conn.lt hg hx ca) y hy (ca.symm.trans c)
    have h2 := Gr.labs_le (E := onP []) hg b (Gr.Conn.lt hg hy cb) x hx (cb.symm.trans c.symm)
    show (Gr.labs (gr ids ls) (onP []) ids.length x).toNat = (Gr.labs (gr ids ls) (onP []) ids.length y).toNat
    have h1' : Gr.labs (gr ids ls) (onP []) ids.length y ≤ a := h1
    have h2' : Gr.labs (gr ids ls) (onP []) ids.length x ≤ b := h2
    omega)
  have hfil : ((List.range ids.length).filter fun x => (pout ids.length ls [] ids.length).getD x 0 == (x : Int)) = (List.range ids.length).filter fun x => (Gr.labs (gr ids ls) (onP []) ids.length x).toNat == x := by
    apply List.filter_congr
    intro x hx
    have hx := List.mem_range.1 hx
    rw [pa.2 x hx]
    have := (hlab x hx).1
    by_cases e : Gr.labs (gr ids ls) (onP []) ids.length x = (x : Int)
    · rw [beq_iff_eq.2 e, e, Int.toNat_natCast, beq_self_eq_true]
    · have e2 : ¬ ((Gr.labs (gr ids ls) (onP []) ids.length x).toNat = x) := by omega
      rw [beq_eq_false_iff_ne.2 e, beq_eq_false_iff_ne.2 e2]
  refine law_l0 h (isT ids ls) _ _ true ?_ ls.length 0 (by omega)
  refine law_l1 h _ _ pa.1 ps.1 heq _ ?_ ids.length 0 (by omega)
  rw [hfil]
  have hc' : ((List.range ls.length).filter (isT ids ls)).length + ((List.range ids.length).filter fun x => (Gr.labs (gr ids ls) (onP []) ids.length x).toNat == x).length = ids.length := hcount
  omega
end
theorem law (ids : List Int) (ls : List S72) : Ev (fun kk => kissgatelaw12_TreeSpans.f kk ids ls) true := by
  unfold kissgatelaw12_TreeSpans.f kissgatelaw12_alive.f kissgatelaw12_fits.f
  simp only [Option.bind_some, if_true]
  by_cases h : FitsP ids ls
  · simp only [fitsB_true.2 h, if_true]
    exact law_fits h
  · simp only [fitsB_false h, Bool.false_eq_true, if_false]
    exact Ev.now true
end Go.Proofs.YtfimhaodgekkgaaDoor.Spn
namespace Go.Proofs.YtfimhaodgekkgaaDoor.treeSpans
open Go.RowKit Go.Proofs.YtfimhaodgekkgaaDoorW.PrintWords Go.Proofs.YtfimhaodgekkgaaDoorW.PrintLast Go.Proofs.YtfimhaodgekkgaaDoorW.PrintMore Go.Proofs.YtfimhaodgekkgaaDoor.QSpn
theorem pure : Pure := fun x0 x1 _ _ => (Spn.law x0 x1).rounds
end Go.Proofs.YtfimhaodgekkgaaDoor.treeSpans
namespace Go.Proofs.YtfimhaodgekkgaaDoor.QTre
open Go.ChangeShapes Go.WideShapes Go.ChangeAt Go.RowKit
set_option linter.unusedVariables false
set_option linter.unusedSimpArgs false
abbrev laid1 : List (String × DataW Unit) := [("kissgate/tree.none", Rows.laid_kissgate_tree_none)]
theorem gNone : Tryd.prog.globalNamed "kissgate/tree.none" = some 0 := by kernel_rfl
theorem tNone : (Tryd.prog.globals[0]?).map (·.type) = some 80 := by kernel_rfl
theorem door_met (os : Os) (args : Array Value) : laidMetH Tryd.prog laid1 ((World.doorLaid Tryd.prog 400 os).forCall (fun _ _ => 0) ⟨#[], args, []⟩).memory :=
  laidMetH_of_parts3 (fuel := 8) (laidMet_of_run' 8 (by kernel_rfl) (by kernel_rfl)) (by kernel_rfl) (by kernel_rfl)
theorem list4 {α : Type} : ∀ {l : List α}, l.length = 4 → ∃ a b c d, l = [a, b, c, d]
  | [a, b, c, d], _ => ⟨a, b, c, d, rfl⟩
  | [], h => by simp at h
  | [_], h => by simp at h
  | [_, _], h => by simp at h
  | [_, _, _], h => by simp at h
  | _ :: _ :: _ :: _ :: _ :: _, h => by simp at h
theorem list7 {α : Type} {l : List α} (h : l.length = 7) : ∃ a b c d e f g, l = [a, b, c, d, e, f, g] := by
  obtain ⟨a, b, c, d, h4⟩ := list4 (l := l.take 4) (by simp; omega)
  have h3 : (l.drop 4).length = 3 := by simp; omega
  match hd : l.drop 4, h3 with
  | [e, f, g], _ => exact ⟨a, b, c, d, e, f, g, by rw [← List.take_append_drop 4 l, h4, hd]; rfl⟩
theorem of_laid {W : World} (h : laidMetH Tryd.prog laid1 W) : NG W ∧ 0 < W.heap.size := by
  rw [MakeChecks.laidMetH_plain _ _ _ (by kernel_rfl)] at h
  obtain ⟨ps, ⟨g0, t0, cs0, f0, p0, q0, hg0, ht0, hv0, hd0, _, _⟩, _, _⟩ := h
  obtain rfl := Option.some.inj (gNone.symm.trans hg0)
  obtain rfl := Option.some.inj (tNone.symm.trans ht0)
  have hc := fun i => World.var?_cell hg0 hv0 i
  obtain ⟨xs, n, _, hx, hl, hxl, hel⟩ := DataW.trod_struct Tryd.underlying80 hd0
  have c80 : Tryd.prog.cellsOf 80 = 7 := by kernel_rfl
  have c36 : Tryd.prog.cellsOf 36 = 4 := by kernel_rfl
  have c3 : Tryd.prog.cellsOf 3 = 1 := by kernel_rfl
  have c4 : Tryd.prog.cellsOf 4 = 1 := by kernel_rfl
  rw [c80] at hl
  obtain ⟨v0, v1, v2, v3, v4, v5, v6, hcs⟩ := list7 hl
  obtain ⟨x0, x1, x2, x3, rfl⟩ := list4 hxl
  simp only [Prod.mk.injEq, List.map_cons, List.map_nil, Rows.laid_kissgate_tree_none, DataW.agg.injEq, List.cons.injEq, and_true] at hx
  obtain ⟨⟨e0, e1, e2, e3⟩, _⟩ := hx
  have h0 : DataW.trod (fun x => ()) Tryd.prog W 0 (fun x => true) false n 36 (List.take (Tryd.prog.cellsOf 36) (List.drop 0 cs0.toList)) = some x0 := hel 0 _ rfl
  rw [hcs, c36] at h0
  have h1 : DataW.trod (fun x => ()) Tryd.prog W 0 (fun x => true) false n 3 (List.take (Tryd.prog.cellsOf 3) (List.drop 4 cs0.toList)) = some x1 := hel 1 _ rfl
  rw [hcs, c3] at h1
  have h2 : DataW.trod (fun x => ()) Tryd.prog W 0 (fun x => true) false n 3 (List.take (Tryd.prog.cellsOf 3) (List.drop 5 cs0.toList)) = some x2 := hel 2 _ rfl
  rw [hcs, c3] at h2
  have h3 : DataW.trod (fun x => ()) Tryd.prog W 0 (fun x => true) false n 4 (List.take (Tryd.prog.cellsOf 4) (List.drop 6 cs0.toList)) = some x3 := hel 3 _ rfl
  rw [hcs, c4] at h3
  obtain ⟨k1, a1, b1, _⟩ := DataW.trod_int Tryd.underlying3 h1
  obtain ⟨k2, a2, b2, _⟩ := DataW.trod_int Tryd.underlying3 h2
  obtain ⟨k3, a3, b3⟩ := DataW.trod_bool Tryd.underlying4 h3
  obtain ⟨ys, m, _, hy, hyl, hyn, hye⟩ := DataW.trod_struct Tryd.underlying36 h0
  obtain ⟨y0, y1, y2, y3, rfl⟩ := list4 hyn
  rw [hy] at e0
  simp only [List.map_cons, List.map_nil, DataW.agg.injEq, List.cons.injEq, and_true] at e0
  obtain ⟨f0', f1', f2', f3'⟩ := e0
  have g0 : DataW.trod (fun x => ()) Tryd.prog W 0 (fun x => true) false m 3 (List.take (Tryd.prog.cellsOf 3) (List.drop 0 (List.take 4 (List.drop 0 [v0, v1, v2, v3, v4, v5, v6])))) = some y0 := hye 0 _ rfl
  rw [c3] at g0
  obtain ⟨m0, r0, s0, _⟩ := DataW.trod_int Tryd.underlying3 g0
  have g1 : DataW.trod (fun x => ()) Tryd.prog W 0 (fun x => true) false m 3 (List.take (Tryd.prog.cellsOf 3) (List.drop 1 (List.take 4 (List.drop 0 [v0, v1, v2, v3, v4, v5, v6])))) = some y1 := hye 1 _ rfl
  rw [c3] at g1
  obtain ⟨m1, r1, s1, _⟩ := DataW.trod_int Tryd.underlying3 g1
  have g2 : DataW.trod (fun x => ()) Tryd.prog W 0 (fun x => true) false m 3 (List.take (Tryd.prog.cellsOf 3) (List.drop 2 (List.take 4 (List.drop 0 [v0, v1, v2, v3, v4, v5, v6])))) = some y2 := hye 2 _ rfl
  rw [c3] at g2
  obtain ⟨m2, r2, s2, _⟩ := DataW.trod_int Tryd.underlying3 g2
  have g3 : DataW.trod (fun x => ()) Tryd.prog W 0 (fun x => true) false m 3 (List.take (Tryd.prog.cellsOf 3) (List.drop 3 (List.take 4 (List.drop 0 [v0, v1, v2, v3, v4, v5, v6])))) = some y3 := hye 3 _ rfl
  rw [c3] at g3
  obtain ⟨m3, r3, s3, _⟩ := DataW.trod_int Tryd.underlying3 g3
  rw [s0] at f0'
  rw [s1] at f1'
  rw [s2] at f2'
  rw [s3] at f3'
  rw [b1] at e1
  rw [b2] at e2
  rw [b3] at e3
  injection f0' with q0; injection q0 with _ q0
  injection f1' with q1; injection q1 with _ q1
  injection f2' with q2; injection q2 with _ q2
  injection f3' with q3; injection q3 with _ q3
  injection e1 with q4; injection q4 with _ q4
  injection e2 with q5; injection q5 with _ q5
  injection e3 with q6; injection q6 with q6
  subst q0 q1 q2 q3 q4 q5 q6
  have w0 : v0 = .int .i64 0 := (List.cons.inj r0).1
  have w1 : v1 = .int .i64 0 := (List.cons.inj r1).1
  have w2 : v2 = .int .i64 0 := (List.cons.inj r2).1
  have w3 : v3 = .int .i64 0 := (List.cons.inj r3).1
  have w4 : v4 = .int .i64 0 := (List.cons.inj a1).1
  have w5 : v5 = .int .i64 0 := (List.cons.inj a2).1
  have w6 : v6 = .bool true := (List.cons.inj a3).1
  have hj : ∀ j v, [v0, v1, v2, v3, v4, v5, v6][j]? = some v → W.cell? ⟨0, j, none⟩ = some v := by
    intro j v h
    rw [hc j, ← h, ← hcs, Array.getElem?_toList]
  subst w0 w1 w2 w3 w4 w5 w6
  exact ⟨⟨hj 0 _ rfl, hj 1 _ rfl, hj 2 _ rfl, hj 3 _ rfl, hj 4 _ rfl, hj 5 _ rfl, hj 6 _ rfl⟩, World.block_lt_of_cell? W _ (hj 0 _ rfl)⟩
end Go.Proofs.YtfimhaodgekkgaaDoor.QTre
