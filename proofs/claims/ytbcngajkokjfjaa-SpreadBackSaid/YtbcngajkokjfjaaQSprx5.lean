/- Functions of the program as plain Lean functions, and what the calls do, out of the kit's print, mended. Conditions: each theorem's own. -/
import Derived.Test.YtbcngajkokjfjaaQSprx0
import Derived.Test.YtbcngajkokjfjaaQSprx2
import Derived.Test.YtbcngajkokjfjaaQSprx3
namespace Go.Proofs.Ytbcngajkokjfjaa.QSpr
open Go.RowKit Go.Proofs.YtbcngajkokjfjaaW.PrintWords Go.Proofs.YtbcngajkokjfjaaW.PrintLast Go.Proofs.YtbcngajkokjfjaaW.PrintMore
attribute [local go_sem] max2_int min2_int max_two min_two max_three min_three max_four min_four   -- for this text's walks alone
set_option linter.unusedVariables false
set_option linter.unusedSimpArgs false

/-! ### kissgatelaw17_SpreadBack: function 6 -/
mutual
def kissgatelaw17_SpreadBack.l0 : Nat → List (S49) → Int → Int → Int → List (S47) → Int → Int → Int → Int → Option (Bool)
  | 0, _, _, _, _, _, _, _, _, _ => none
  | k + 1, x0, x2, x9, x10, x26, x27, x28, x167000, x167001 => if x28 < x27 then (if 0 ≤ x28 then (if x28 < (x26.length : Int) then ((kissgateref17_Born.f k ((rd_T47 x26 x28).f0) ((rd_T47 x26 x28).f1) ((rd_T47 x26 x28).f2) x167000 x167001).bind fun t174 => (if t174 ≥ 0 then (kissgatelaw17_SpreadBack.l0 k x0 x2 (wrap64 (x9 + 1)) x28 x26 x27 (wrap64 (x28 + 1)) x167000 x167001) else (kissgatelaw17_SpreadBack.l0 k x0 x2 x9 x10 x26 x27 (wrap64 (x28 + 1)) x167000 x167001))) else (none)) else (none)) else ((spread_Wants.f k x0 x167000 x167001 x2).bind fun t175 => (kissgatelaw17_SpreadBack.l1 k x0 x2 x9 x10 t175 (t175.length : Int) 0))
def kissgatelaw17_SpreadBack.l1 : Nat → List (S49) → Int → Int → Int → List Int → Int → Int → Option (Bool)
  | 0, _, _, _, _, _, _, _ => none
  | k + 1, x0, x2, x9, x10, x13, x46, x47 => if x47 < x46 then (if 0 ≤ x47 then (if x47 < (x13.length : Int) then (if x47 < (x0.length : Int) then (if (rd_T49 x0 x47).f0 = true then (if x2 ≥ 0 then (if ((decide ((rd x13 x47) ≥ 0)) != true) = true then (some false) else (kissgatelaw17_SpreadBack.l1 k x0 x2 x9 x10 x13 x46 (wrap64 (x47 + 1)))) else (if x9 ≥ 2 then (if ((decide ((rd x13 x47) ≥ 0)) != true) = true then (some false) else (kissgatelaw17_SpreadBack.l1 k x0 x2 x9 x10 x13 x46 (wrap64 (x47 + 1)))) else (if x9 = 1 then (if ((decide ((rd x13 x47) ≥ 0)) != (x47 != x10)) = true then (some false) else (kissgatelaw17_SpreadBack.l1 k x0 x2 x9 x10 x13 x46 (wrap64 (x47 + 1)))) else (if ((decide ((rd x13 x47) ≥ 0)) != false) = true then (some false) else (kissgatelaw17_SpreadBack.l1 k x0 x2 x9 x10 x13 x46 (wrap64 (x47 + 1))))))) else (if ((decide ((rd x13 x47) ≥ 0)) != false) = true then (some false) else (kissgatelaw17_SpreadBack.l1 k x0 x2 x9 x10 x13 x46 (wrap64 (x47 + 1))))) else (none)) else (none)) else (none)) else (some true)
end
def kissgatelaw17_SpreadBack.f (k : Nat) (l0 : List (S49)) (a1_0 : Int) (a1_1 : Int) (a2 : Int) : Option (Bool) := (kissgatelaw17_alive.f k).bind fun t167 => (if t167 = true then ((kissgatelaw17_plain.f k l0).bind fun bt168 => (if bt168.2 = true then (kissgatelaw17_SpreadBack.l0 k l0 a2 0 (-1) bt168.1 (bt168.1.length : Int) 0 a1_0 a1_1) else (some true))) else (some false))
theorem kissgatelaw17_SpreadBack.mono_l : ∀ k, (∀ y0 y1 y2 y3 y4 y5 y6 y7 y8, LeO (kissgatelaw17_SpreadBack.l0 k y0 y1 y2 y3 y4 y5 y6 y7 y8) (kissgatelaw17_SpreadBack.l0 (k + 1) y0 y1 y2 y3 y4 y5 y6 y7 y8)) ∧ (∀ y0 y1 y2 y3 y4 y5 y6, LeO (kissgatelaw17_SpreadBack.l1 k y0 y1 y2 y3 y4 y5 y6) (kissgatelaw17_SpreadBack.l1 (k + 1) y0 y1 y2 y3 y4 y5 y6))
  | 0 => ⟨fun _ _ _ _ _ _ _ _ _ r h => by simp [kissgatelaw17_SpreadBack.l0] at h, fun _ _ _ _ _ _ _ r h => by simp [kissgatelaw17_SpreadBack.l1] at h⟩
  | k + 1 => by
    obtain ⟨ih0, ih1⟩ := kissgatelaw17_SpreadBack.mono_l k
    refine ⟨?_, ?_⟩
    · intro y0 y1 y2 y3 y4 y5 y6 y7 y8
      unfold kissgatelaw17_SpreadBack.l0
      repeat' first
      | (with_reducible exact ih0 _ _ _ _ _ _ _ _ _)
      | (with_reducible exact ih1 _ _ _ _ _ _ _)
      | (with_reducible exact kissgatelaw17_alive.mono _)
      | (with_reducible exact kissgatelaw17_plain.mono _ _)
      | (with_reducible exact kissgateref17_Born.mono _ _ _ _ _ _)
      | (with_reducible exact spread_Wants.mono _ _ _ _ _)
      | (with_reducible exact LeO.refl _)
      | (with_reducible exact LeO.none _)
      | (with_reducible refine LeO.ite ?_ ?_)
      | (with_reducible refine LeO.bind ?_ (fun _ => ?_))
      | exact ih0 _ _ _ _ _ _ _ _ _
      | exact ih1 _ _ _ _ _ _ _
      | exact kissgatelaw17_alive.mono _
      | exact kissgatelaw17_plain.mono _ _
      | exact kissgateref17_Born.mono _ _ _ _ _ _
      | exact spread_Wants.mono _ _ _ _ _
      | exact LeO.none _
      | refine LeO.ite ?_ ?_
      | refine LeO.bind ?_ (fun _ => ?_)
    · intro y0 y1 y2 y3 y4 y5 y6
      unfold kissgatelaw17_SpreadBack.l1
      repeat' first
      | (with_reducible exact ih0 _ _ _ _ _ _ _ _ _)
      | (with_reducible exact ih1 _ _ _ _ _ _ _)
      | (with_reducible exact kissgatelaw17_alive.mono _)
      | (with_reducible exact kissgatelaw17_plain.mono _ _)
      | (with_reducible exact kissgateref17_Born.mono _ _ _ _ _ _)
      | (with_reducible exact spread_Wants.mono _ _ _ _ _)
      | (with_reducible exact LeO.refl _)
      | (with_reducible exact LeO.none _)
      | (with_reducible refine LeO.ite ?_ ?_)
      | (with_reducible refine LeO.bind ?_ (fun _ => ?_))
      | exact ih0 _ _ _ _ _ _ _ _ _
      | exact ih1 _ _ _ _ _ _ _
      | exact kissgatelaw17_alive.mono _
      | exact kissgatelaw17_plain.mono _ _
      | exact kissgateref17_Born.mono _ _ _ _ _ _
      | exact spread_Wants.mono _ _ _ _ _
      | exact LeO.none _
      | refine LeO.ite ?_ ?_
      | refine LeO.bind ?_ (fun _ => ?_)
theorem kissgatelaw17_SpreadBack.mono : ∀ a0 a1 a2 a3 k, LeO (kissgatelaw17_SpreadBack.f k a0 a1 a2 a3) (kissgatelaw17_SpreadBack.f (k + 1) a0 a1 a2 a3) := by
  intro a0 a1 a2 a3 k
  obtain ⟨ih0, ih1⟩ := kissgatelaw17_SpreadBack.mono_l k
  unfold kissgatelaw17_SpreadBack.f
  repeat' first
      | (with_reducible exact ih0 _ _ _ _ _ _ _ _ _)
      | (with_reducible exact ih1 _ _ _ _ _ _ _)
      | (with_reducible exact kissgatelaw17_alive.mono _)
      | (with_reducible exact kissgatelaw17_plain.mono _ _)
      | (with_reducible exact kissgateref17_Born.mono _ _ _ _ _ _)
      | (with_reducible exact spread_Wants.mono _ _ _ _ _)
      | (with_reducible exact LeO.refl _)
      | (with_reducible exact LeO.none _)
      | (with_reducible refine LeO.ite ?_ ?_)
      | (with_reducible refine LeO.bind ?_ (fun _ => ?_))
      | exact ih0 _ _ _ _ _ _ _ _ _
      | exact ih1 _ _ _ _ _ _ _
      | exact kissgatelaw17_alive.mono _
      | exact kissgatelaw17_plain.mono _ _
      | exact kissgateref17_Born.mono _ _ _ _ _ _
      | exact spread_Wants.mono _ _ _ _ _
      | exact LeO.none _
      | refine LeO.ite ?_ ?_
      | refine LeO.bind ?_ (fun _ => ?_)
set_option maxHeartbeats 8000000 in
set_option maxRecDepth 100000 in
theorem kissgatelaw17_SpreadBack.calls (k : Nat) (A0 : Option Addr) (c0 : Nat) (l0 : List (S49)) (a1_0 : Int) (a1_1 : Int) (a2 : Int) (r : Bool) (w : World) (hr0 : Kd.C k49 w A0 l0.length l0) (hc0 : l0.length ≤ c0) (h : kissgatelaw17_SpreadBack.f k l0 a1_0 a1_1 a2 = some r) :
    Calls Try.prog 6 #[.slice A0 l0.length c0, .agg #[.int .i64 a1_0, .int .i64 a1_1], .int .i64 a2] w fun e w' => e = .returned (.bool r) ∧ Below w.heap.size w w' := by
  have hu38 := Try.underlying38
  have hu47 := Try.underlying47
  have HR0 := Aside0.mk hr0
  have HC0 := Aside0.mk hc0
  clear hr0 hc0
  have HB := Aside0.mk (Below.refl w.heap.size w)
  have H : ((kissgatelaw17_alive.f k).bind fun t167 => (if t167 = true then ((kissgatelaw17_plain.f k l0).bind fun bt168 => (if bt168.2 = true then (kissgatelaw17_SpreadBack.l0 k l0 a2 0 (-1) bt168.1 (bt168.1.length : Int) 0 a1_0 a1_1) else (some true))) else (some false))) = some r := h
  clear h
  replace H := Option.bind_eq_some_iff.mp H
  obtain ⟨t167, A40, H⟩ := H
  replace H : (if t167 = true then ((kissgatelaw17_plain.f k l0).bind fun bt168 => (if bt168.2 = true then (kissgatelaw17_SpreadBack.l0 k l0 a2 0 (-1) bt168.1 (bt168.1.length : Int) 0 a1_0 a1_1) else (some true))) else (some false)) = some r := H
  have A4 := Aside0.mk A40
  clear A40
  by_cases c5 : t167 = true
  · subst c5
    have H1 : ((kissgatelaw17_plain.f k l0).bind fun bt168 => (if bt168.2 = true then (kissgatelaw17_SpreadBack.l0 k l0 a2 0 (-1) bt168.1 (bt168.1.length : Int) 0 a1_0 a1_1) else (some true))) = some r := by rw [if_pos rfl] at H; exact H
    clear H
    have H := H1
    clear H1
    replace H := Option.bind_eq_some_iff.mp H
    obtain ⟨⟨t168, t171⟩, A60, H⟩ := H
    replace H : (if t171 = true then (kissgatelaw17_SpreadBack.l0 k l0 a2 0 (-1) t168 (t168.length : Int) 0 a1_0 a1_1) else (some true)) = some r := H
    have A6 := Aside0.mk A60
    clear A60
    by_cases c7 : t171 = true
    · subst c7
      have H1 : (kissgatelaw17_SpreadBack.l0 k l0 a2 0 (-1) t168 (t168.length : Int) 0 a1_0 a1_1) = some r := by rw [if_pos rfl] at H; exact H
      clear H
      have H := H1
      clear H1
      have H' := Aside0.mk H
      clear H
      go_enter Try.func6, Try.ntmps6
      go_wp2_with (first | ((with_reducible refine gate_dst (N := 4) rfl ?_); refine box_event ?hg (N := 4) ?hd (cs := #[.int .i64 a1_0, .int .i64 a1_1]) (t := 38) ?hr ?_; (case hd => rfl); (case hg => rfl); (case hr => first | (go_simp; done) | (go_simp; rfl)); intro gb166 hg w8 hbox hb; have n0_ := Aside0.mk (below_step (by repeat (first | (with_reducible first | exact HB.out | apply below_alloc | apply pw_below_drewN | apply below_drew1) | exact HB.out)) hb); have n1_ := Aside0.mk (hbox); have n2_ := Aside0.mk ((by rw [hg]; exact (below_size (by repeat (first | (with_reducible first | exact HB.out | apply below_alloc | apply pw_below_drewN | apply below_drew1) | exact HB.out))) : w.heap.size ≤ gb166)); have n3_ := Aside0.mk ((by rw [hg]; exact (below_size (by repeat (first | (with_reducible first | exact HB.out | apply below_alloc | apply pw_below_drewN | apply below_drew1) | exact HB.out))) : w.heap.size ≤ gb166)); clear HB; have HB := n0_; have BK166 := n1_; have GW166 := n2_; have GE166 := n3_; clear n0_ n1_ n2_ n3_; clear hb hbox hg) | ((with_reducible refine gate_callee (f := 19) rfl ?_); refine goesL_ (some 17) rfl rfl Try.func19 (by kernel_rfl) rfl #[] rfl (by (try simp only [List.map_toArray, List.map_cons, List.map_nil]); first | done | rfl | (simp only [List.length_drop, List.length_take]; rfl)) ?_; (with_reducible refine (kissgatelaw17_alive.calls k  true _ A4.out).mono ?_); rintro e w9 ⟨rfl, hb⟩; refine ⟨_, rfl, ?_⟩; have n0_ := Aside0.mk (blk_below (g := gb166) (o := .cells #[.int .i64 a1_0, .int .i64 a1_1] 38 (0, 0)) (by (with_reducible repeat (first | refine blk_drewN ?_ _ | refine blk_drew ?_ | refine blk_alloc ?_ _)); exact BK166.out) hb); have n1_ := Aside0.mk (below_step (by repeat (first | (with_reducible first | exact HB.out | apply below_alloc | apply pw_below_drewN | apply below_drew1 | refine below_set ?_ GE166.out) | exact HB.out)) hb); clear BK166; clear HB; have BK166 := n0_; have HB := n1_; clear n0_ n1_; (try clear hb); (try clear hb2); (try clear hk); (try clear hi)) | ((with_reducible refine gate_callee (f := 20) rfl ?_); refine goesL_ (some 21) rfl rfl Try.func20 (by kernel_rfl) rfl #[.slice A0 l0.length c0] rfl (by (try simp only [List.map_toArray, List.map_cons, List.map_nil]); first | done | rfl | (simp only [List.length_drop, List.length_take]; rfl)) ?_; (with_reducible refine (kissgatelaw17_plain.calls k (fun k_ => k_ < w.heap.size) _ _ l0 t168 true _ ?side1 A6.out).mono ?_); (case side1 => exact Kd.V_mk HC0.out (Kd.F_below (Kd.C_F k49_heap HR0.out) (by repeat (first | (with_reducible first | exact HB.out | apply below_alloc | apply pw_below_drewN | apply below_drew1 | refine below_set ?_ GE166.out) | exact HB.out)))); rintro e w10 ⟨v169, rfl, ho0, hb⟩; refine ⟨_, rfl, ?_⟩; have n0_ := Aside0.mk (Kd.N_lower (Kd.N_mono (ok' := fun k_ => k_ ≠ gb166) ho0 (fun k_ hk_ => Or.elim hk_ (fun hs_ => fun e_ => Nat.not_le.2 hs_ (by rw [e_]; exact GW166.out)) (fun hn_ => (Kd.freshB (g := gb166) (o := .cells #[.int .i64 a1_0, .int .i64 a1_1] 38 (0, 0)) (by (with_reducible repeat (first | refine blk_drewN ?_ _ | refine blk_drew ?_ | refine blk_alloc ?_ _)); exact BK166.out) k_ hn_)))) (below_size (by repeat (first | (with_reducible first | exact HB.out | apply below_alloc | apply pw_below_drewN | apply below_drew1 | refine below_set ?_ GE166.out) | exact HB.out)))); have n1_ := Aside0.mk (blk_below (g := gb166) (o := .cells #[.int .i64 a1_0, .int .i64 a1_1] 38 (0, 0)) (by (with_reducible repeat (first | refine blk_drewN ?_ _ | refine blk_drew ?_ | refine blk_alloc ?_ _)); exact BK166.out) hb); have n2_ := Aside0.mk (below_step (by repeat (first | (with_reducible first | exact HB.out | apply below_alloc | apply pw_below_drewN | apply below_drew1 | refine below_set ?_ GE166.out) | exact HB.out)) hb); clear BK166; clear HB; have HO170 := n0_; have BK166 := n1_; have HB := n2_; clear n0_ n1_ n2_; (try clear hb); (try clear hb2); (try clear hk); (try clear hi); (try clear ho0); obtain ⟨Ao11, co11, eo11⟩ := Kd.N_slice HO170.out; subst eo11))
      go_loopg [9, 10, 28] k (fun kq v9 v10 v28 w' => ∃ (x9_1 : Int) (x10_1 : Int) (x28_1 : Int), v9 = .int .i64 x9_1 ∧ v10 = .int .i64 x10_1 ∧ v28 = .int .i64 x28_1 ∧ Aside0 (kissgatelaw17_SpreadBack.l0 kq l0 a2 x9_1 x10_1 t168 (t168.length : Int) x28_1 a1_0 a1_1 = some r) ∧ Aside0 (kq ≤ k) ∧ Aside0 (Kd.N k47 47 w' w.heap.size (fun k_ => k_ ≠ gb166) (.slice Ao11 t168.length co11) t168) ∧ Aside0 (w'.heap[gb166]? = some (.cells #[.int .i64 a1_0, .int .i64 a1_1] 38 (0, 0))) ∧ Aside0 (Below w.heap.size w w'))
      case atStart => exact ⟨(0), ((-1)), (0), (by first | rfl | (simp; done) | (simp [*]; done)), (by first | rfl | (simp; done) | (simp [*]; done)), (by first | rfl | (simp; done) | (simp [*]; done)), H', ⟨Nat.le_refl _⟩, ⟨by (with_reducible repeat (first | apply Kd.N_alloc | apply Kd.N_drewN | apply Kd.N_drew)); exact HO170.out⟩, ⟨by (with_reducible repeat (first | refine blk_drewN ?_ _ | refine blk_drew ?_ | refine blk_alloc ?_ _)); exact BK166.out⟩, ⟨by repeat (first | (with_reducible first | exact HB.out | apply below_alloc | apply pw_below_drewN | apply below_drew1 | refine below_set ?_ GE166.out) | exact HB.out)⟩⟩
      case round =>
        clear H'
        try clear c1
        try clear c2
        try clear p2
        try clear c5
        try clear c6
        try clear c7
        obtain ⟨x9_1, x10_1, x28_1, rfl, rfl, rfl, HA, HK1, HO_26, BK166, HB⟩ := hrel
        cases gk with
        | zero => exact absurd HA.out (by simp [kissgatelaw17_SpreadBack.l0])
        | succ k1 =>
          have H := HA.out
          clear HA
          simp only [kissgatelaw17_SpreadBack.l0] at H
          by_cases c12 : x28_1 < (t168.length : Int)
          · rw [if_pos c12] at H
            have c12b0 : decide (x28_1 < (t168.length : Int)) = true := decide_eq_true c12
            clear c12
            by_cases c13 : 0 ≤ x28_1
            · rw [if_pos c13] at H
              have c13b0 : decide (0 ≤ x28_1) = true := decide_eq_true c13
              clear c13
              by_cases c14 : x28_1 < (t168.length : Int)
              · rw [if_pos c14] at H
                have c14b0 : decide (x28_1 < (t168.length : Int)) = true := decide_eq_true c14
                clear c14
                replace H := Option.bind_eq_some_iff.mp H
                obtain ⟨t174, A150, H⟩ := H
                replace H : (if t174 ≥ 0 then (kissgatelaw17_SpreadBack.l0 k1 l0 a2 (wrap64 (x9_1 + 1)) x28_1 t168 (t168.length : Int) (wrap64 (x28_1 + 1)) a1_0 a1_1) else (kissgatelaw17_SpreadBack.l0 k1 l0 a2 x9_1 x10_1 t168 (t168.length : Int) (wrap64 (x28_1 + 1)) a1_0 a1_1)) = some r := H
                have A15 := Aside0.mk A150
                clear A150
                by_cases c16 : t174 ≥ 0
                · rw [if_pos c16] at H
                  have c16b0 : decide (0 ≤ t174) = true := decide_eq_true c16
                  clear c16
                  have H' := Aside0.mk H
                  clear H
                  have p172 : 0 ≤ (x28_1 : Int) := of_decide_eq_true (by first | (with_reducible assumption) | assumption)
                  have q172 : x28_1 < (t168.length : Int) := of_decide_eq_true (by first | (with_reducible assumption) | assumption)
                  obtain ⟨ad172, A172_1, c172_1, A172_2, c172_2, e172, hx172_0, hx172_1, hx172_2, hl172_1, hi172_1, hl172_2, hi172_2⟩ := at_T47 (Kd.N_reads' HO_26.out).2.2 x28_1 p172 q172
                  cases e172
                  obtain ⟨ce172, hce172, hMe172, hcc172⟩ := Kd.N_get HO_26.out z47 x28_1 p172 (by first | exact q172 | exact of_decide_eq_true (by first | (with_reducible assumption) | assumption) | (have e_ := (Kd.N_reads' HO_26.out).1; omega))
                  obtain ⟨ua172_1, uc172_1, ua172_2, uc172_2, rfl, ul172_1, ge172_1, ul172_2, ge172_2⟩ := k47_openF hMe172
                  have hv172_1 := hcc172 1 _ rfl
                  rw [add_field _ _ 1 (by omega)] at hv172_1
                  replace hv172_1 := Option.some.inj (hv172_1.symm.trans hx172_1)
                  injection hv172_1 with hva_ hvn_ hvc_
                  rw [hva_] at ge172_1
                  rw [hvc_] at ul172_1
                  have HL172_1 := Aside0.mk (show Kd.V k38 38 _ w.heap.size _ _ ((rd_T47 t168 x28_1).f1) from Kd.V_mk ul172_1 ge172_1)
                  clear hva_ hvn_ hvc_ ge172_1 ul172_1
                  have hv172_2 := hcc172 2 _ rfl
                  rw [add_field _ _ 2 (by omega)] at hv172_2
                  replace hv172_2 := Option.some.inj (hv172_2.symm.trans hx172_2)
                  injection hv172_2 with hva_ hvn_ hvc_
                  rw [hva_] at ge172_2
                  rw [hvc_] at ul172_2
                  have HL172_2 := Aside0.mk (show Kd.V (Kd.int .i64) 3 _ w.heap.size _ _ ((rd_T47 t168 x28_1).f2) from Kd.V_mk ul172_2 ge172_2)
                  clear hva_ hvn_ hvc_ ge172_2 ul172_2
                  clear hcc172 hce172
                  have HR172_1 := Aside0.mk hi172_1
                  have HC172_1 := Aside0.mk hl172_1
                  clear hi172_1 hl172_1
                  have HR172_2 := Aside0.mk hi172_2
                  have HC172_2 := Aside0.mk hl172_2
                  clear hi172_2 hl172_2
                  replace p172 := eq_true p172
                  replace q172 := eq_true q172
                  go_wp2_with (first | ((with_reducible refine gate_dst (N := 12) rfl ?_); refine box_event ?hg (N := 12) ?hd (cs := #[.bool false, .slice none 0 0, .slice none 0 0]) (t := 47) ?hr ?_; (case hd => rfl); (case hg => rfl); (case hr => first | (go_simp; done) | (go_simp; rfl)); intro gb173 hg w17 hbox hb; have n0_ := Aside0.mk (Kd.N_below (Kd.N_elderB (by (with_reducible repeat (first | apply Kd.N_alloc | apply Kd.N_drewN | apply Kd.N_drew)); exact HO_26.out) gb173 (Nat.le_of_eq hg.symm)) hb); have n1_ := Aside0.mk (Kd.V_below (Kd.V_elderB (by (with_reducible repeat (first | apply Kd.V_alloc | apply Kd.V_drewN | apply Kd.V_drew)); exact HL172_1.out) gb173 (Nat.le_of_eq hg.symm)) hb); have n2_ := Aside0.mk (Kd.V_below (Kd.V_elderB (by (with_reducible repeat (first | apply Kd.V_alloc | apply Kd.V_drewN | apply Kd.V_drew)); exact HL172_2.out) gb173 (Nat.le_of_eq hg.symm)) hb); have n3_ := Aside0.mk (blk_below (g := gb166) (o := .cells #[.int .i64 a1_0, .int .i64 a1_1] 38 (0, 0)) (by (with_reducible repeat (first | refine blk_drewN ?_ _ | refine blk_drew ?_ | refine blk_alloc ?_ _)); exact BK166.out) hb); have n4_ := Aside0.mk (Kd.C_below (by repeat (first | (with_reducible exact HR172_1.out) | (with_reducible refine Kd.C_alloc ?_ _) | (with_reducible refine Kd.C_drewN ?_ _) | (with_reducible refine Kd.C_drew ?_) | exact HR172_1.out)) hb); have n5_ := Aside0.mk (Kd.C_below (by repeat (first | (with_reducible exact HR172_2.out) | (with_reducible refine Kd.C_alloc ?_ _) | (with_reducible refine Kd.C_drewN ?_ _) | (with_reducible refine Kd.C_drew ?_) | exact HR172_2.out)) hb); have n6_ := Aside0.mk (below_step (by repeat (first | (with_reducible first | exact HB.out | apply below_alloc | apply pw_below_drewN | apply below_drew1 | refine below_set ?_ GE166.out) | exact HB.out)) hb); have n7_ := Aside0.mk (hbox); have n8_ := Aside0.mk ((by rw [hg]; exact (below_size (by repeat (first | (with_reducible first | exact HB.out | apply below_alloc | apply pw_below_drewN | apply below_drew1 | refine below_set ?_ GE166.out) | exact HB.out))) : w.heap.size ≤ gb173)); have n9_ := Aside0.mk ((by rw [hg]; exact (below_size (by repeat (first | (with_reducible first | exact HB.out | apply below_alloc | apply pw_below_drewN | apply below_drew1 | refine below_set ?_ GE166.out) | exact HB.out))) : w.heap.size ≤ gb173)); have n10_ := Aside0.mk ((by rw [hg]; exact Nat.ne_of_lt (blk_lt (g := gb166) (o := .cells #[.int .i64 a1_0, .int .i64 a1_1] 38 (0, 0)) (by (with_reducible repeat (first | refine blk_drewN ?_ _ | refine blk_drew ?_ | refine blk_alloc ?_ _)); exact BK166.out)) : gb166 ≠ gb173)); have n11_ := Aside0.mk ((by rw [hg]; exact Nat.ne_of_gt (blk_lt (g := gb166) (o := .cells #[.int .i64 a1_0, .int .i64 a1_1] 38 (0, 0)) (by (with_reducible repeat (first | refine blk_drewN ?_ _ | refine blk_drew ?_ | refine blk_alloc ?_ _)); exact BK166.out)) : gb173 ≠ gb166)); clear HO_26; clear HL172_1; clear HL172_2; clear BK166; clear HR172_1; clear HR172_2; clear HB; have HO_26 := n0_; have HL172_1 := n1_; have HL172_2 := n2_; have BK166 := n3_; have HR172_1 := n4_; have HR172_2 := n5_; have HB := n6_; have BK173 := n7_; have GW173 := n8_; have GE173 := n9_; have NB166_173 := n10_; have NB173_166 := n11_; clear n0_ n1_ n2_ n3_ n4_ n5_ n6_ n7_ n8_ n9_ n10_ n11_; clear hb hbox hg; have hnb18 := NB173_166.out; have hnc18 := NB166_173.out; have hcz19_0 : w17.cell? ⟨gb173, 0, none⟩ = some (.bool false) := (blk_cell BK173.out 0).trans rfl; have hcz19_1 : w17.cell? ⟨gb173, 1, none⟩ = some (.slice none 0 0) := (blk_cell BK173.out 1).trans rfl; have hcz19_2 : w17.cell? ⟨gb173, 2, none⟩ = some (.slice none 0 0) := (blk_cell BK173.out 2).trans rfl; have hfz19_0 := blk_frozen BK173.out 0; have hfz19_1 := blk_frozen BK173.out 1; have hfz19_2 := blk_frozen BK173.out 2; have hcz20_0 : w17.cell? ⟨gb166, 0, none⟩ = some (.int .i64 a1_0) := (blk_cell BK166.out 0).trans rfl; have hcz20_1 : w17.cell? ⟨gb166, 1, none⟩ = some (.int .i64 a1_1) := (blk_cell BK166.out 1).trans rfl; have hfz20_0 := blk_frozen BK166.out 0; have hfz20_1 := blk_frozen BK166.out 1) | ((with_reducible refine gate_callee (f := 23) rfl ?_); refine goesL_ (some 35) rfl rfl Try.func23 (by kernel_rfl) rfl #[.agg #[.bool ((rd_T47 t168 x28_1).f0), .slice A172_1 ((rd_T47 t168 x28_1).f1).length c172_1, .slice A172_2 ((rd_T47 t168 x28_1).f2).length c172_2], .agg #[.int .i64 a1_0, .int .i64 a1_1]] rfl (by (try simp only [List.map_toArray, List.map_cons, List.map_nil]); first | done | rfl | (simp only [List.length_drop, List.length_take]; rfl)) ?_; (with_reducible refine (kissgateref17_Born.calls k1 ((rd_T47 t168 x28_1).f0) _ _ ((rd_T47 t168 x28_1).f1) _ _ ((rd_T47 t168 x28_1).f2) a1_0 a1_1 t174 _ ?side1 ?side2 ?side3 ?side4 A15.out).mono ?_); (case side1 => repeat (first | exact ((Kd.V_reads' (by (with_reducible repeat (first | apply Kd.V_alloc | apply Kd.V_drewN | apply Kd.V_drew)); exact (Kd.V_mono (Kd.V_far (p := ⟨gb173, 2, none⟩) (Kd.V_far (p := ⟨gb173, 1, none⟩) (Kd.V_far (p := ⟨gb173, 0, none⟩) (Kd.V_mono HL172_1.out (fun k_ hk => (⟨hk, hk.2⟩ : _ ∧ k_ ≠ gb173))) (fun _ hk => hk.2) (.bool ((rd_T47 t168 x28_1).f0))) (fun _ hk => hk.2) (.slice A172_1 ((rd_T47 t168 x28_1).f1).length c172_1)) (fun _ hk => hk.2) (.slice A172_2 ((rd_T47 t168 x28_1).f2).length c172_2)) (fun _ h_ => h_.1)))).2.2) | (with_reducible refine Kd.C_alloc ?_ _) | (with_reducible refine Kd.C_drewN ?_ _) | (with_reducible refine Kd.C_drew ?_))); (case side2 => exact HC172_1.out); (case side3 => repeat (first | exact ((Kd.V_reads' (by (with_reducible repeat (first | apply Kd.V_alloc | apply Kd.V_drewN | apply Kd.V_drew)); exact (Kd.V_mono (Kd.V_far (p := ⟨gb173, 2, none⟩) (Kd.V_far (p := ⟨gb173, 1, none⟩) (Kd.V_far (p := ⟨gb173, 0, none⟩) (Kd.V_mono HL172_2.out (fun k_ hk => (⟨hk, hk.2⟩ : _ ∧ k_ ≠ gb173))) (fun _ hk => hk.2) (.bool ((rd_T47 t168 x28_1).f0))) (fun _ hk => hk.2) (.slice A172_1 ((rd_T47 t168 x28_1).f1).length c172_1)) (fun _ hk => hk.2) (.slice A172_2 ((rd_T47 t168 x28_1).f2).length c172_2)) (fun _ h_ => h_.1)))).2.2) | (with_reducible refine Kd.C_alloc ?_ _) | (with_reducible refine Kd.C_drewN ?_ _) | (with_reducible refine Kd.C_drew ?_))); (case side4 => exact HC172_2.out); rintro e w21 ⟨rfl, hb⟩; refine ⟨_, rfl, ?_⟩; have n0_ := Aside0.mk (Kd.N_below (by (with_reducible repeat (first | apply Kd.N_alloc | apply Kd.N_drewN | apply Kd.N_drew)); exact (Kd.N_mono (Kd.N_far (p := ⟨gb173, 2, none⟩) (Kd.N_far (p := ⟨gb173, 1, none⟩) (Kd.N_far (p := ⟨gb173, 0, none⟩) (Kd.N_mono HO_26.out (fun k_ hk => (⟨hk, hk.2⟩ : _ ∧ k_ ≠ gb173))) (fun _ hk => hk.2) (.bool ((rd_T47 t168 x28_1).f0))) (fun _ hk => hk.2) (.slice A172_1 ((rd_T47 t168 x28_1).f1).length c172_1)) (fun _ hk => hk.2) (.slice A172_2 ((rd_T47 t168 x28_1).f2).length c172_2)) (fun _ h_ => h_.1))) hb); have n1_ := Aside0.mk (Kd.V_below (by (with_reducible repeat (first | apply Kd.V_alloc | apply Kd.V_drewN | apply Kd.V_drew)); exact (Kd.V_mono (Kd.V_far (p := ⟨gb173, 2, none⟩) (Kd.V_far (p := ⟨gb173, 1, none⟩) (Kd.V_far (p := ⟨gb173, 0, none⟩) (Kd.V_mono HL172_1.out (fun k_ hk => (⟨hk, hk.2⟩ : _ ∧ k_ ≠ gb173))) (fun _ hk => hk.2) (.bool ((rd_T47 t168 x28_1).f0))) (fun _ hk => hk.2) (.slice A172_1 ((rd_T47 t168 x28_1).f1).length c172_1)) (fun _ hk => hk.2) (.slice A172_2 ((rd_T47 t168 x28_1).f2).length c172_2)) (fun _ h_ => h_.1))) hb); have n2_ := Aside0.mk (Kd.V_below (by (with_reducible repeat (first | apply Kd.V_alloc | apply Kd.V_drewN | apply Kd.V_drew)); exact (Kd.V_mono (Kd.V_far (p := ⟨gb173, 2, none⟩) (Kd.V_far (p := ⟨gb173, 1, none⟩) (Kd.V_far (p := ⟨gb173, 0, none⟩) (Kd.V_mono HL172_2.out (fun k_ hk => (⟨hk, hk.2⟩ : _ ∧ k_ ≠ gb173))) (fun _ hk => hk.2) (.bool ((rd_T47 t168 x28_1).f0))) (fun _ hk => hk.2) (.slice A172_1 ((rd_T47 t168 x28_1).f1).length c172_1)) (fun _ hk => hk.2) (.slice A172_2 ((rd_T47 t168 x28_1).f2).length c172_2)) (fun _ h_ => h_.1))) hb); have n3_ := Aside0.mk (blk_below (g := gb166) (o := .cells #[.int .i64 a1_0, .int .i64 a1_1] 38 (0, 0)) (by (with_reducible repeat (first | refine blk_drewN ?_ _ | refine blk_drew ?_ | refine blk_alloc ?_ _)); refine blk_far ?_ NB166_173.out _; (with_reducible repeat (first | refine blk_drewN ?_ _ | refine blk_drew ?_ | refine blk_alloc ?_ _)); refine blk_far ?_ NB166_173.out _; (with_reducible repeat (first | refine blk_drewN ?_ _ | refine blk_drew ?_ | refine blk_alloc ?_ _)); refine blk_far ?_ NB166_173.out _; (with_reducible repeat (first | refine blk_drewN ?_ _ | refine blk_drew ?_ | refine blk_alloc ?_ _)); exact BK166.out) hb); have n4_ := Aside0.mk (Kd.C_below ((Kd.V_reads' (by (with_reducible repeat (first | apply Kd.V_alloc | apply Kd.V_drewN | apply Kd.V_drew)); exact (Kd.V_mono (Kd.V_far (p := ⟨gb173, 2, none⟩) (Kd.V_far (p := ⟨gb173, 1, none⟩) (Kd.V_far (p := ⟨gb173, 0, none⟩) (Kd.V_mono HL172_1.out (fun k_ hk => (⟨hk, hk.2⟩ : _ ∧ k_ ≠ gb173))) (fun _ hk => hk.2) (.bool ((rd_T47 t168 x28_1).f0))) (fun _ hk => hk.2) (.slice A172_1 ((rd_T47 t168 x28_1).f1).length c172_1)) (fun _ hk => hk.2) (.slice A172_2 ((rd_T47 t168 x28_1).f2).length c172_2)) (fun _ h_ => h_.1)))).2.2) hb); have n5_ := Aside0.mk (Kd.C_below ((Kd.V_reads' (by (with_reducible repeat (first | apply Kd.V_alloc | apply Kd.V_drewN | apply Kd.V_drew)); exact (Kd.V_mono (Kd.V_far (p := ⟨gb173, 2, none⟩) (Kd.V_far (p := ⟨gb173, 1, none⟩) (Kd.V_far (p := ⟨gb173, 0, none⟩) (Kd.V_mono HL172_2.out (fun k_ hk => (⟨hk, hk.2⟩ : _ ∧ k_ ≠ gb173))) (fun _ hk => hk.2) (.bool ((rd_T47 t168 x28_1).f0))) (fun _ hk => hk.2) (.slice A172_1 ((rd_T47 t168 x28_1).f1).length c172_1)) (fun _ hk => hk.2) (.slice A172_2 ((rd_T47 t168 x28_1).f2).length c172_2)) (fun _ h_ => h_.1)))).2.2) hb); have n6_ := Aside0.mk (blk_below (g := gb173) (o := .cells #[.bool ((rd_T47 t168 x28_1).f0), .slice A172_1 ((rd_T47 t168 x28_1).f1).length c172_1, .slice A172_2 ((rd_T47 t168 x28_1).f2).length c172_2] 47 (0, 0)) (by (with_reducible repeat (first | refine blk_drewN ?_ _ | refine blk_drew ?_ | refine blk_alloc ?_ _)); refine blk_put (cs := #[.bool ((rd_T47 t168 x28_1).f0), .slice A172_1 ((rd_T47 t168 x28_1).f1).length c172_1, .slice none 0 0]) ?_ 2 _ rfl; (with_reducible repeat (first | refine blk_drewN ?_ _ | refine blk_drew ?_ | refine blk_alloc ?_ _)); refine blk_put (cs := #[.bool ((rd_T47 t168 x28_1).f0), .slice none 0 0, .slice none 0 0]) ?_ 1 _ rfl; (with_reducible repeat (first | refine blk_drewN ?_ _ | refine blk_drew ?_ | refine blk_alloc ?_ _)); refine blk_put (cs := #[.bool false, .slice none 0 0, .slice none 0 0]) ?_ 0 _ rfl; (with_reducible repeat (first | refine blk_drewN ?_ _ | refine blk_drew ?_ | refine blk_alloc ?_ _)); exact BK173.out) hb); have n7_ := Aside0.mk (below_step (by repeat (first | (with_reducible first | exact HB.out | apply below_alloc | apply pw_below_drewN | apply below_drew1 | refine below_set ?_ GE166.out | refine below_set ?_ GE173.out) | exact HB.out)) hb); clear HO_26; clear HL172_1; clear HL172_2; clear BK166; clear HR172_1; clear HR172_2; clear BK173; clear HB; have HO_26 := n0_; have HL172_1 := n1_; have HL172_2 := n2_; have BK166 := n3_; have HR172_1 := n4_; have HR172_2 := n5_; have BK173 := n6_; have HB := n7_; clear n0_ n1_ n2_ n3_ n4_ n5_ n6_ n7_; (try clear hb); (try clear hb2); (try clear hk); (try clear hi)))
                  go_roundg k1
                  case measure => have := HK1.out; omega
                  case rel => exact ⟨(wrap64 (x9_1 + 1)), (x28_1), (wrap64 (x28_1 + 1)), (by first | rfl | (simp; done) | (simp [*]; done)), (by first | rfl | (simp; done) | (simp [*]; done)), (by first | rfl | (simp; done) | (simp [*]; done)), H', ⟨by have := HK1.out; omega⟩, ⟨by (with_reducible repeat (first | apply Kd.N_alloc | apply Kd.N_drewN | apply Kd.N_drew)); exact Kd.N_mono HO_26.out (fun _ hk => hk.1)⟩, ⟨by (with_reducible repeat (first | refine blk_drewN ?_ _ | refine blk_drew ?_ | refine blk_alloc ?_ _)); exact BK166.out⟩, ⟨by repeat (first | (with_reducible first | exact HB.out | apply below_alloc | apply pw_below_drewN | apply below_drew1 | refine below_set ?_ GE166.out | refine below_set ?_ GE173.out) | exact HB.out)⟩⟩
                · rw [if_neg c16] at H
                  have c16b0 : decide (0 ≤ t174) = false := decide_eq_false c16
                  clear c16
                  have H' := Aside0.mk H
                  clear H
                  have p172 : 0 ≤ (x28_1 : Int) := of_decide_eq_true (by first | (with_reducible assumption) | assumption)
                  have q172 : x28_1 < (t168.length : Int) := of_decide_eq_true (by first | (with_reducible assumption) | assumption)
                  obtain ⟨ad172, A172_1, c172_1, A172_2, c172_2, e172, hx172_0, hx172_1, hx172_2, hl172_1, hi172_1, hl172_2, hi172_2⟩ := at_T47 (Kd.N_reads' HO_26.out).2.2 x28_1 p172 q172
                  cases e172
                  obtain ⟨ce172, hce172, hMe172, hcc172⟩ := Kd.N_get HO_26.out z47 x28_1 p172 (by first | exact q172 | exact of_decide_eq_true (by first | (with_reducible assumption) | assumption) | (have e_ := (Kd.N_reads' HO_26.out).1; omega))
                  obtain ⟨ua172_1, uc172_1, ua172_2, uc172_2, rfl, ul172_1, ge172_1, ul172_2, ge172_2⟩ := k47_openF hMe172
                  have hv172_1 := hcc172 1 _ rfl
                  rw [add_field _ _ 1 (by omega)] at hv172_1
                  replace hv172_1 := Option.some.inj (hv172_1.symm.trans hx172_1)
                  injection hv172_1 with hva_ hvn_ hvc_
                  rw [hva_] at ge172_1
                  rw [hvc_] at ul172_1
                  have HL172_1 := Aside0.mk (show Kd.V k38 38 _ w.heap.size _ _ ((rd_T47 t168 x28_1).f1) from Kd.V_mk ul172_1 ge172_1)
                  clear hva_ hvn_ hvc_ ge172_1 ul172_1
                  have hv172_2 := hcc172 2 _ rfl
                  rw [add_field _ _ 2 (by omega)] at hv172_2
                  replace hv172_2 := Option.some.inj (hv172_2.symm.trans hx172_2)
                  injection hv172_2 with hva_ hvn_ hvc_
                  rw [hva_] at ge172_2
                  rw [hvc_] at ul172_2
                  have HL172_2 := Aside0.mk (show Kd.V (Kd.int .i64) 3 _ w.heap.size _ _ ((rd_T47 t168 x28_1).f2) from Kd.V_mk ul172_2 ge172_2)
                  clear hva_ hvn_ hvc_ ge172_2 ul172_2
                  clear hcc172 hce172
                  have HR172_1 := Aside0.mk hi172_1
                  have HC172_1 := Aside0.mk hl172_1
                  clear hi172_1 hl172_1
                  have HR172_2 := Aside0.mk hi172_2
                  have HC172_2 := Aside0.mk hl172_2
                  clear hi172_2 hl172_2
                  replace p172 := eq_true p172
                  replace q172 := eq_true q172
                  go_wp2_with (first | ((with_reducible refine gate_dst (N := 12) rfl ?_); refine box_event ?hg (N := 12) ?hd (cs := #[.bool false, .slice none 0 0, .slice none 0 0]) (t := 47) ?hr ?_; (case hd => rfl); (case hg => rfl); (case hr => first | (go_simp; done) | (go_simp; rfl)); intro gb173 hg w22 hbox hb; have n0_ := Aside0.mk (Kd.N_below (Kd.N_elderB (by (with_reducible repeat (first | apply Kd.N_alloc | apply Kd.N_drewN | apply Kd.N_drew)); exact HO_26.out) gb173 (Nat.le_of_eq hg.symm)) hb); have n1_ := Aside0.mk (Kd.V_below (Kd.V_elderB (by (with_reducible repeat (first | apply Kd.V_alloc | apply Kd.V_drewN | apply Kd.V_drew)); exact HL172_1.out) gb173 (Nat.le_of_eq hg.symm)) hb); have n2_ := Aside0.mk (Kd.V_below (Kd.V_elderB (by (with_reducible repeat (first | apply Kd.V_alloc | apply Kd.V_drewN | apply Kd.V_drew)); exact HL172_2.out) gb173 (Nat.le_of_eq hg.symm)) hb); have n3_ := Aside0.mk (blk_below (g := gb166) (o := .cells #[.int .i64 a1_0, .int .i64 a1_1] 38 (0, 0)) (by (with_reducible repeat (first | refine blk_drewN ?_ _ | refine blk_drew ?_ | refine blk_alloc ?_ _)); exact BK166.out) hb); have n4_ := Aside0.mk (Kd.C_below (by repeat (first | (with_reducible exact HR172_1.out) | (with_reducible refine Kd.C_alloc ?_ _) | (with_reducible refine Kd.C_drewN ?_ _) | (with_reducible refine Kd.C_drew ?_) | exact HR172_1.out)) hb); have n5_ := Aside0.mk (Kd.C_below (by repeat (first | (with_reducible exact HR172_2.out) | (with_reducible refine Kd.C_alloc ?_ _) | (with_reducible refine Kd.C_drewN ?_ _) | (with_reducible refine Kd.C_drew ?_) | exact HR172_2.out)) hb); have n6_ := Aside0.mk (below_step (by repeat (first | (with_reducible first | exact HB.out | apply below_alloc | apply pw_below_drewN | apply below_drew1 | refine below_set ?_ GE166.out) | exact HB.out)) hb); have n7_ := Aside0.mk (hbox); have n8_ := Aside0.mk ((by rw [hg]; exact (below_size (by repeat (first | (with_reducible first | exact HB.out | apply below_alloc | apply pw_below_drewN | apply below_drew1 | refine below_set ?_ GE166.out) | exact HB.out))) : w.heap.size ≤ gb173)); have n9_ := Aside0.mk ((by rw [hg]; exact (below_size (by repeat (first | (with_reducible first | exact HB.out | apply below_alloc | apply pw_below_drewN | apply below_drew1 | refine below_set ?_ GE166.out) | exact HB.out))) : w.heap.size ≤ gb173)); have n10_ := Aside0.mk ((by rw [hg]; exact Nat.ne_of_lt (blk_lt (g := gb166) (o := .cells #[.int .i64 a1_0, .int .i64 a1_1] 38 (0, 0)) (by (with_reducible repeat (first | refine blk_drewN ?_ _ | refine blk_drew ?_ | refine blk_alloc ?_ _)); exact BK166.out)) : gb166 ≠ gb173)); have n11_ := Aside0.mk ((by rw [hg]; exact Nat.ne_of_gt (blk_lt (g := gb166) (o := .cells #[.int .i64 a1_0, .int .i64 a1_1] 38 (0, 0)) (by (with_reducible repeat (first | refine blk_drewN ?_ _ | refine blk_drew ?_ | refine blk_alloc ?_ _)); exact BK166.out)) : gb173 ≠ gb166)); clear HO_26; clear HL172_1; clear HL172_2; clear BK166; clear HR172_1; clear HR172_2; clear HB; have HO_26 := n0_; have HL172_1 := n1_; have HL172_2 := n2_; have BK166 := n3_; have HR172_1 := n4_; have HR172_2 := n5_; have HB := n6_; have BK173 := n7_; have GW173 := n8_; have GE173 := n9_; have NB166_173 := n10_; have NB173_166 := n11_; clear n0_ n1_ n2_ n3_ n4_ n5_ n6_ n7_ n8_ n9_ n10_ n11_; clear hb hbox hg; have hnb23 := NB173_166.out; have hnc23 := NB166_173.out; have hcz24_0 : w22.cell? ⟨gb173, 0, none⟩ = some (.bool false) := (blk_cell BK173.out 0).trans rfl; have hcz24_1 : w22.cell? ⟨gb173, 1, none⟩ = some (.slice none 0 0) := (blk_cell BK173.out 1).trans rfl; have hcz24_2 : w22.cell? ⟨gb173, 2, none⟩ = some (.slice none 0 0) := (blk_cell BK173.out 2).trans rfl; have hfz24_0 := blk_frozen BK173.out 0; have hfz24_1 := blk_frozen BK173.out 1; have hfz24_2 := blk_frozen BK173.out 2; have hcz25_0 : w22.cell? ⟨gb166, 0, none⟩ = some (.int .i64 a1_0) := (blk_cell BK166.out 0).trans rfl; have hcz25_1 : w22.cell? ⟨gb166, 1, none⟩ = some (.int .i64 a1_1) := (blk_cell BK166.out 1).trans rfl; have hfz25_0 := blk_frozen BK166.out 0; have hfz25_1 := blk_frozen BK166.out 1) | ((with_reducible refine gate_callee (f := 23) rfl ?_); refine goesL_ (some 35) rfl rfl Try.func23 (by kernel_rfl) rfl #[.agg #[.bool ((rd_T47 t168 x28_1).f0), .slice A172_1 ((rd_T47 t168 x28_1).f1).length c172_1, .slice A172_2 ((rd_T47 t168 x28_1).f2).length c172_2], .agg #[.int .i64 a1_0, .int .i64 a1_1]] rfl (by (try simp only [List.map_toArray, List.map_cons, List.map_nil]); first | done | rfl | (simp only [List.length_drop, List.length_take]; rfl)) ?_; (with_reducible refine (kissgateref17_Born.calls k1 ((rd_T47 t168 x28_1).f0) _ _ ((rd_T47 t168 x28_1).f1) _ _ ((rd_T47 t168 x28_1).f2) a1_0 a1_1 t174 _ ?side1 ?side2 ?side3 ?side4 A15.out).mono ?_); (case side1 => repeat (first | exact ((Kd.V_reads' (by (with_reducible repeat (first | apply Kd.V_alloc | apply Kd.V_drewN | apply Kd.V_drew)); exact (Kd.V_mono (Kd.V_far (p := ⟨gb173, 2, none⟩) (Kd.V_far (p := ⟨gb173, 1, none⟩) (Kd.V_far (p := ⟨gb173, 0, none⟩) (Kd.V_mono HL172_1.out (fun k_ hk => (⟨hk, hk.2⟩ : _ ∧ k_ ≠ gb173))) (fun _ hk => hk.2) (.bool ((rd_T47 t168 x28_1).f0))) (fun _ hk => hk.2) (.slice A172_1 ((rd_T47 t168 x28_1).f1).length c172_1)) (fun _ hk => hk.2) (.slice A172_2 ((rd_T47 t168 x28_1).f2).length c172_2)) (fun _ h_ => h_.1)))).2.2) | (with_reducible refine Kd.C_alloc ?_ _) | (with_reducible refine Kd.C_drewN ?_ _) | (with_reducible refine Kd.C_drew ?_))); (case side2 => exact HC172_1.out); (case side3 => repeat (first | exact ((Kd.V_reads' (by (with_reducible repeat (first | apply Kd.V_alloc | apply Kd.V_drewN | apply Kd.V_drew)); exact (Kd.V_mono (Kd.V_far (p := ⟨gb173, 2, none⟩) (Kd.V_far (p := ⟨gb173, 1, none⟩) (Kd.V_far (p := ⟨gb173, 0, none⟩) (Kd.V_mono HL172_2.out (fun k_ hk => (⟨hk, hk.2⟩ : _ ∧ k_ ≠ gb173))) (fun _ hk => hk.2) (.bool ((rd_T47 t168 x28_1).f0))) (fun _ hk => hk.2) (.slice A172_1 ((rd_T47 t168 x28_1).f1).length c172_1)) (fun _ hk => hk.2) (.slice A172_2 ((rd_T47 t168 x28_1).f2).length c172_2)) (fun _ h_ => h_.1)))).2.2) | (with_reducible refine Kd.C_alloc ?_ _) | (with_reducible refine Kd.C_drewN ?_ _) | (with_reducible refine Kd.C_drew ?_))); (case side4 => exact HC172_2.out); rintro e w26 ⟨rfl, hb⟩; refine ⟨_, rfl, ?_⟩; have n0_ := Aside0.mk (Kd.N_below (by (with_reducible repeat (first | apply Kd.N_alloc | apply Kd.N_drewN | apply Kd.N_drew)); exact (Kd.N_mono (Kd.N_far (p := ⟨gb173, 2, none⟩) (Kd.N_far (p := ⟨gb173, 1, none⟩) (Kd.N_far (p := ⟨gb173, 0, none⟩) (Kd.N_mono HO_26.out (fun k_ hk => (⟨hk, hk.2⟩ : _ ∧ k_ ≠ gb173))) (fun _ hk => hk.2) (.bool ((rd_T47 t168 x28_1).f0))) (fun _ hk => hk.2) (.slice A172_1 ((rd_T47 t168 x28_1).f1).length c172_1)) (fun _ hk => hk.2) (.slice A172_2 ((rd_T47 t168 x28_1).f2).length c172_2)) (fun _ h_ => h_.1))) hb); have n1_ := Aside0.mk (Kd.V_below (by (with_reducible repeat (first | apply Kd.V_alloc | apply Kd.V_drewN | apply Kd.V_drew)); exact (Kd.V_mono (Kd.V_far (p := ⟨gb173, 2, none⟩) (Kd.V_far (p := ⟨gb173, 1, none⟩) (Kd.V_far (p := ⟨gb173, 0, none⟩) (Kd.V_mono HL172_1.out (fun k_ hk => (⟨hk, hk.2⟩ : _ ∧ k_ ≠ gb173))) (fun _ hk => hk.2) (.bool ((rd_T47 t168 x28_1).f0))) (fun _ hk => hk.2) (.slice A172_1 ((rd_T47 t168 x28_1).f1).length c172_1)) (fun _ hk => hk.2) (.slice A172_2 ((rd_T47 t168 x28_1).f2).length c172_2)) (fun _ h_ => h_.1))) hb); have n2_ := Aside0.mk (Kd.V_below (by (with_reducible repeat (first | apply Kd.V_alloc | apply Kd.V_drewN | apply Kd.V_drew)); exact (Kd.V_mono (Kd.V_far (p := ⟨gb173, 2, none⟩) (Kd.V_far (p := ⟨gb173, 1, none⟩) (Kd.V_far (p := ⟨gb173, 0, none⟩) (Kd.V_mono HL172_2.out (fun k_ hk => (⟨hk, hk.2⟩ : _ ∧ k_ ≠ gb173))) (fun _ hk => hk.2) (.bool ((rd_T47 t168 x28_1).f0))) (fun _ hk => hk.2) (.slice A172_1 ((rd_T47 t168 x28_1).f1).length c172_1)) (fun _ hk => hk.2) (.slice A172_2 ((rd_T47 t168 x28_1).f2).length c172_2)) (fun _ h_ => h_.1))) hb); have n3_ := Aside0.mk (blk_below (g := gb166) (o := .cells #[.int .i64 a1_0, .int .i64 a1_1] 38 (0, 0)) (by (with_reducible repeat (first | refine blk_drewN ?_ _ | refine blk_drew ?_ | refine blk_alloc ?_ _)); refine blk_far ?_ NB166_173.out _; (with_reducible repeat (first | refine blk_drewN ?_ _ | refine blk_drew ?_ | refine blk_alloc ?_ _)); refine blk_far ?_ NB166_173.out _; (with_reducible repeat (first | refine blk_drewN ?_ _ | refine blk_drew ?_ | refine blk_alloc ?_ _)); refine blk_far ?_ NB166_173.out _; (with_reducible repeat (first | refine blk_drewN ?_ _ | refine blk_drew ?_ | refine blk_alloc ?_ _)); exact BK166.out) hb); have n4_ := Aside0.mk (Kd.C_below ((Kd.V_reads' (by (with_reducible repeat (first | apply Kd.V_alloc | apply Kd.V_drewN | apply Kd.V_drew)); exact (Kd.V_mono (Kd.V_far (p := ⟨gb173, 2, none⟩) (Kd.V_far (p := ⟨gb173, 1, none⟩) (Kd.V_far (p := ⟨gb173, 0, none⟩) (Kd.V_mono HL172_1.out (fun k_ hk => (⟨hk, hk.2⟩ : _ ∧ k_ ≠ gb173))) (fun _ hk => hk.2) (.bool ((rd_T47 t168 x28_1).f0))) (fun _ hk => hk.2) (.slice A172_1 ((rd_T47 t168 x28_1).f1).length c172_1)) (fun _ hk => hk.2) (.slice A172_2 ((rd_T47 t168 x28_1).f2).length c172_2)) (fun _ h_ => h_.1)))).2.2) hb); have n5_ := Aside0.mk (Kd.C_below ((Kd.V_reads' (by (with_reducible repeat (first | apply Kd.V_alloc | apply Kd.V_drewN | apply Kd.V_drew)); exact (Kd.V_mono (Kd.V_far (p := ⟨gb173, 2, none⟩) (Kd.V_far (p := ⟨gb173, 1, none⟩) (Kd.V_far (p := ⟨gb173, 0, none⟩) (Kd.V_mono HL172_2.out (fun k_ hk => (⟨hk, hk.2⟩ : _ ∧ k_ ≠ gb173))) (fun _ hk => hk.2) (.bool ((rd_T47 t168 x28_1).f0))) (fun _ hk => hk.2) (.slice A172_1 ((rd_T47 t168 x28_1).f1).length c172_1)) (fun _ hk => hk.2) (.slice A172_2 ((rd_T47 t168 x28_1).f2).length c172_2)) (fun _ h_ => h_.1)))).2.2) hb); have n6_ := Aside0.mk (blk_below (g := gb173) (o := .cells #[.bool ((rd_T47 t168 x28_1).f0), .slice A172_1 ((rd_T47 t168 x28_1).f1).length c172_1, .slice A172_2 ((rd_T47 t168 x28_1).f2).length c172_2] 47 (0, 0)) (by (with_reducible repeat (first | refine blk_drewN ?_ _ | refine blk_drew ?_ | refine blk_alloc ?_ _)); refine blk_put (cs := #[.bool ((rd_T47 t168 x28_1).f0), .slice A172_1 ((rd_T47 t168 x28_1).f1).length c172_1, .slice none 0 0]) ?_ 2 _ rfl; (with_reducible repeat (first | refine blk_drewN ?_ _ | refine blk_drew ?_ | refine blk_alloc ?_ _)); refine blk_put (cs := #[.bool ((rd_T47 t168 x28_1).f0), .slice none 0 0, .slice none 0 0]) ?_ 1 _ rfl; (with_reducible repeat (first | refine blk_drewN ?_ _ | refine blk_drew ?_ | refine blk_alloc ?_ _)); refine blk_put (cs := #[.bool false, .slice none 0 0, .slice none 0 0]) ?_ 0 _ rfl; (with_reducible repeat (first | refine blk_drewN ?_ _ | refine blk_drew ?_ | refine blk_alloc ?_ _)); exact BK173.out) hb); have n7_ := Aside0.mk (below_step (by repeat (first | (with_reducible first | exact HB.out | apply below_alloc | apply pw_below_drewN | apply below_drew1 | refine below_set ?_ GE166.out | refine below_set ?_ GE173.out) | exact HB.out)) hb); clear HO_26; clear HL172_1; clear HL172_2; clear BK166; clear HR172_1; clear HR172_2; clear BK173; clear HB; have HO_26 := n0_; have HL172_1 := n1_; have HL172_2 := n2_; have BK166 := n3_; have HR172_1 := n4_; have HR172_2 := n5_; have BK173 := n6_; have HB := n7_; clear n0_ n1_ n2_ n3_ n4_ n5_ n6_ n7_; (try clear hb); (try clear hb2); (try clear hk); (try clear hi)))
                  go_roundg k1
                  case measure => have := HK1.out; omega
                  case rel => exact ⟨(x9_1), (x10_1), (wrap64 (x28_1 + 1)), (by first | rfl | (simp; done) | (simp [*]; done)), (by first | rfl | (simp; done) | (simp [*]; done)), (by first | rfl | (simp; done) | (simp [*]; done)), H', ⟨by have := HK1.out; omega⟩, ⟨by (with_reducible repeat (first | apply Kd.N_alloc | apply Kd.N_drewN | apply Kd.N_drew)); exact Kd.N_mono HO_26.out (fun _ hk => hk.1)⟩, ⟨by (with_reducible repeat (first | refine blk_drewN ?_ _ | refine blk_drew ?_ | refine blk_alloc ?_ _)); exact BK166.out⟩, ⟨by repeat (first | (with_reducible first | exact HB.out | apply below_alloc | apply pw_below_drewN | apply below_drew1 | refine below_set ?_ GE166.out | refine below_set ?_ GE173.out) | exact HB.out)⟩⟩
              · rw [if_neg c14] at H
                exact absurd H (by simp)
            · rw [if_neg c13] at H
              exact absurd H (by simp)
          · rw [if_neg c12] at H
            have c12b0 : decide (x28_1 < (t168.length : Int)) = false := decide_eq_false c12
            clear c12
            replace H := Option.bind_eq_some_iff.mp H
            obtain ⟨t175, A270, H⟩ := H
            replace H : (kissgatelaw17_SpreadBack.l1 k1 l0 a2 x9_1 x10_1 t175 (t175.length : Int) 0) = some r := H
            have A27 := Aside0.mk A270
            clear A270
            have H' := Aside0.mk H
            clear H
            have hcz28_0 : wr.cell? ⟨gb166, 0, none⟩ = some (.int .i64 a1_0) := (blk_cell BK166.out 0).trans rfl
            have hcz28_1 : wr.cell? ⟨gb166, 1, none⟩ = some (.int .i64 a1_1) := (blk_cell BK166.out 1).trans rfl
            have hfz28_0 := blk_frozen BK166.out 0
            have hfz28_1 := blk_frozen BK166.out 1
            go_wp2_with (first | ((with_reducible refine gate_callee (f := 21) rfl ?_); refine goesL_ (some 44) rfl rfl Try.func21 (by kernel_rfl) rfl #[.slice A0 l0.length c0, .agg #[.int .i64 a1_0, .int .i64 a1_1], .int .i64 a2] rfl (by (try simp only [List.map_toArray, List.map_cons, List.map_nil]); first | done | rfl | (simp only [List.length_drop, List.length_take]; rfl)) ?_; (with_reducible refine (spread_Wants.calls k1 _ _ l0 a1_0 a1_1 a2 t175 _ ?side1 ?side2 A27.out).mono ?_); (case side1 => repeat (first | exact (Kd.C_below HR0.out HB.out) | (with_reducible refine Kd.C_alloc ?_ _) | (with_reducible refine Kd.C_drewN ?_ _) | (with_reducible refine Kd.C_drew ?_))); (case side2 => exact HC0.out); rintro e w29 ⟨v176, rfl, ho0, hb⟩; refine ⟨_, rfl, ?_⟩; have n0_ := Aside0.mk (Kd.N_elder' (by (with_reducible repeat (first | apply Kd.N_alloc | apply Kd.N_drewN | apply Kd.N_drew)); exact HO_26.out) (Kd.R_base ho0) hb); have n1_ := Aside0.mk (Kd.R_lower ho0 (below_size (by repeat (first | (with_reducible first | exact HB.out | apply below_alloc | apply pw_below_drewN | apply below_drew1 | refine below_set ?_ GE166.out) | exact HB.out)))); have n2_ := Aside0.mk (blk_below (g := gb166) (o := .cells #[.int .i64 a1_0, .int .i64 a1_1] 38 (0, 0)) (by (with_reducible repeat (first | refine blk_drewN ?_ _ | refine blk_drew ?_ | refine blk_alloc ?_ _)); exact BK166.out) hb); have n3_ := Aside0.mk (below_step (by repeat (first | (with_reducible first | exact HB.out | apply below_alloc | apply pw_below_drewN | apply below_drew1 | refine below_set ?_ GE166.out) | exact HB.out)) hb); clear HO_26; clear BK166; clear HB; have HO_26 := n0_; have HO177 := n1_; have BK166 := n2_; have HB := n3_; clear n0_ n1_ n2_ n3_; (try clear hb); (try clear hb2); (try clear hk); (try clear hi); (try clear ho0); obtain ⟨Ao30, co30, eo30⟩ := Kd.R_slice HO177.out; subst eo30))
            go_loopg [47] k1 (fun kq v47 w' => ∃ (x47_2 : Int), v47 = .int .i64 x47_2 ∧ Aside0 (kissgatelaw17_SpreadBack.l1 kq l0 a2 x9_1 x10_1 t175 (t175.length : Int) x47_2 = some r) ∧ Aside0 (kq ≤ k1) ∧ Aside0 (Kd.R (Kd.int .i64) 3 w' w.heap.size (fun _ => True) (.slice Ao30 t175.length co30) t175) ∧ Aside0 (w'.heap[gb166]? = some (.cells #[.int .i64 a1_0, .int .i64 a1_1] 38 (0, 0))) ∧ Aside0 (Below w.heap.size w w'))
            case atStart => exact ⟨(0), (by first | rfl | (simp; done) | (simp [*]; done)), H', ⟨Nat.le_refl _⟩, ⟨by (with_reducible repeat (first | apply Kd.R_alloc | apply Kd.R_drewN | apply Kd.R_drew)); exact HO177.out⟩, ⟨by (with_reducible repeat (first | refine blk_drewN ?_ _ | refine blk_drew ?_ | refine blk_alloc ?_ _)); exact BK166.out⟩, ⟨by repeat (first | (with_reducible first | exact HB.out | apply below_alloc | apply pw_below_drewN | apply below_drew1 | refine below_set ?_ GE166.out) | exact HB.out)⟩⟩
            case round =>
              clear H'
              try clear c1
              try clear p1
              try clear q1
              try clear hx1
              try clear c2
              try clear p2
              try clear c5
              try clear c6
              try clear p6
              try clear c7
              try clear c12
              try clear c12b0
              try clear c13
              try clear c13b0
              try clear c14
              try clear c14b0
              try clear c16
              try clear c16b0
              try clear c17
              try clear p17
              try clear q17
              try clear hx17
              try clear c18
              try clear c19
              try clear c20
              try clear c21
              try clear c23
              try clear hcz19_0
              try clear hcz19_1
              try clear hcz19_2
              try clear hcz20_0
              try clear hcz20_1
              try clear hcz24_0
              try clear hcz24_1
              try clear hcz24_2
              try clear hcz25_0
              try clear hcz25_1
              try clear hcz28_0
              try clear hcz28_1
              try clear hfz19_0
              try clear hfz19_1
              try clear hfz19_2
              try clear hfz20_0
              try clear hfz20_1
              try clear hfz24_0
              try clear hfz24_1
              try clear hfz24_2
              try clear hfz25_0
              try clear hfz25_1
              try clear hfz28_0
              try clear hfz28_1
              try clear hx172_0
              try clear hx172_1
              try clear hx172_2
              try clear p172
              try clear p2
              try clear q172
              obtain ⟨x47_2, rfl, HA, HK2, HO_13, BK166, HB⟩ := hrel
              cases gk with
              | zero => exact absurd HA.out (by simp [kissgatelaw17_SpreadBack.l1])
              | succ k2 =>
                have H := HA.out
                clear HA
                simp only [kissgatelaw17_SpreadBack.l1] at H
                by_cases c31 : x47_2 < (t175.length : Int)
                · rw [if_pos c31] at H
                  have c31b0 : decide (x47_2 < (t175.length : Int)) = true := decide_eq_true c31
                  clear c31
                  by_cases c32 : 0 ≤ x47_2
                  · rw [if_pos c32] at H
                    have c32b0 : decide (0 ≤ x47_2) = true := decide_eq_true c32
                    clear c32
                    by_cases c33 : x47_2 < (t175.length : Int)
                    · rw [if_pos c33] at H
                      have c33b0 : decide (x47_2 < (t175.length : Int)) = true := decide_eq_true c33
                      clear c33
                      by_cases c34 : x47_2 < (l0.length : Int)
                      · rw [if_pos c34] at H
                        have c34b0 : decide (x47_2 < (l0.length : Int)) = true := decide_eq_true c34
                        clear c34
                        obtain ⟨bq35, hbq35⟩ : ∃ b_ : Bool, b_ = ((rd_T49 l0 x47_2).f0) := ⟨_, rfl⟩
                        replace H : (if bq35 = true then (if a2 ≥ 0 then (if ((decide ((rd t175 x47_2) ≥ 0)) != true) = true then (some false) else (kissgatelaw17_SpreadBack.l1 k2 l0 a2 x9_1 x10_1 t175 (t175.length : Int) (wrap64 (x47_2 + 1)))) else (if x9_1 ≥ 2 then (if ((decide ((rd t175 x47_2) ≥ 0)) != true) = true then (some false) else (kissgatelaw17_SpreadBack.l1 k2 l0 a2 x9_1 x10_1 t175 (t175.length : Int) (wrap64 (x47_2 + 1)))) else (if x9_1 = 1 then (if ((decide ((rd t175 x47_2) ≥ 0)) != (x47_2 != x10_1)) = true then (some false) else (kissgatelaw17_SpreadBack.l1 k2 l0 a2 x9_1 x10_1 t175 (t175.length : Int) (wrap64 (x47_2 + 1)))) else (if ((decide ((rd t175 x47_2) ≥ 0)) != false) = true then (some false) else (kissgatelaw17_SpreadBack.l1 k2 l0 a2 x9_1 x10_1 t175 (t175.length : Int) (wrap64 (x47_2 + 1))))))) else (if ((decide ((rd t175 x47_2) ≥ 0)) != false) = true then (some false) else (kissgatelaw17_SpreadBack.l1 k2 l0 a2 x9_1 x10_1 t175 (t175.length : Int) (wrap64 (x47_2 + 1))))) = some r := by rw [← hbq35] at H; exact H
                        have Nbq35 := Aside0.mk hbq35
                        clear hbq35
                        by_cases c36 : bq35 = true
                        · subst c36
                          have H1 : (if a2 ≥ 0 then (if ((decide ((rd t175 x47_2) ≥ 0)) != true) = true then (some false) else (kissgatelaw17_SpreadBack.l1 k2 l0 a2 x9_1 x10_1 t175 (t175.length : Int) (wrap64 (x47_2 + 1)))) else (if x9_1 ≥ 2 then (if ((decide ((rd t175 x47_2) ≥ 0)) != true) = true then (some false) else (kissgatelaw17_SpreadBack.l1 k2 l0 a2 x9_1 x10_1 t175 (t175.length : Int) (wrap64 (x47_2 + 1)))) else (if x9_1 = 1 then (if ((decide ((rd t175 x47_2) ≥ 0)) != (x47_2 != x10_1)) = true then (some false) else (kissgatelaw17_SpreadBack.l1 k2 l0 a2 x9_1 x10_1 t175 (t175.length : Int) (wrap64 (x47_2 + 1)))) else (if ((decide ((rd t175 x47_2) ≥ 0)) != false) = true then (some false) else (kissgatelaw17_SpreadBack.l1 k2 l0 a2 x9_1 x10_1 t175 (t175.length : Int) (wrap64 (x47_2 + 1))))))) = some r := by rw [if_pos rfl] at H; exact H
                          clear H
                          have H := H1
                          clear H1
                          by_cases c37 : a2 ≥ 0
                          · rw [if_pos c37] at H
                            have c37b0 : decide (0 ≤ a2) = true := decide_eq_true c37
                            clear c37
                            by_cases c38 : ((decide ((rd t175 x47_2) ≥ 0)) != true) = true
                            · rw [if_pos c38] at H
                              have c38b0 : ((decide ((rd t175 x47_2) ≥ 0)) != true) = true := c38
                              (try (have c38b1 : decide ((decide ((rd t175 x47_2) ≥ 0)) = true) = false := by simpa using c38))
                              (try (have c38b2 : ((decide ((rd t175 x47_2) ≥ 0)) == true) = false := by simpa using c38))
                              (try (have c38b3 : ¬ ((decide ((rd t175 x47_2) ≥ 0)) = true) := by simpa using c38))
                              clear c38
                              obtain rfl := Option.some.inj H
                              have p178 : 0 ≤ (x47_2 : Int) := of_decide_eq_true (by first | (with_reducible assumption) | assumption)
                              have q178 : x47_2 < (t175.length : Int) := of_decide_eq_true (by first | (with_reducible assumption) | assumption)
                              obtain ⟨ad178, e178, hx178_0⟩ := Kd.at_int (Kd.R_reads' HO_13.out).2.2 x47_2 p178 q178
                              cases e178
                              replace p178 := eq_true p178
                              replace q178 := eq_true q178
                              have p179 : 0 ≤ (x47_2 : Int) := of_decide_eq_true (by first | (with_reducible assumption) | assumption)
                              have q179 : x47_2 < (l0.length : Int) := of_decide_eq_true (by first | (with_reducible assumption) | assumption)
                              obtain ⟨ad179, A179_1, c179_1, A179_2, c179_2, e179, hx179_0, hx179_1, hx179_2, hl179_1, hi179_1, hl179_2, hi179_2⟩ := at_T49 HR0.out x47_2 p179 q179
                              (try rw [← Nbq35.out] at hx179_0)
                              cases e179
                              replace hx179_0 := (HB.out.cell (World.block_lt_of_cell? w _ hx179_0)).trans hx179_0
                              replace hx179_1 := (HB.out.cell (World.block_lt_of_cell? w _ hx179_1)).trans hx179_1
                              replace hx179_2 := (HB.out.cell (World.block_lt_of_cell? w _ hx179_2)).trans hx179_2
                              have HR179_1 := Aside0.mk hi179_1
                              have HC179_1 := Aside0.mk hl179_1
                              clear hi179_1 hl179_1
                              have HR179_2 := Aside0.mk hi179_2
                              have HC179_2 := Aside0.mk hl179_2
                              clear hi179_2 hl179_2
                              replace p179 := eq_true p179
                              replace q179 := eq_true q179
                              go_wp2
                              go_ret
                              exact ⟨by first | rfl | (simp [errW_none, errW_some] <;> rfl) | (simp [*, errW_none, errW_some] <;> rfl), by repeat (first | (with_reducible first | exact HB.out | apply below_alloc | apply pw_below_drewN | apply below_drew1 | refine below_set ?_ GE166.out) | exact HB.out)⟩
                            · rw [if_neg c38] at H
                              have c38b0 : ((decide ((rd t175 x47_2) ≥ 0)) != true) = false := by simpa using c38
                              (try (have c38b1 : decide ((decide ((rd t175 x47_2) ≥ 0)) = true) = true := by simpa using c38))
                              (try (have c38b2 : ((decide ((rd t175 x47_2) ≥ 0)) == true) = true := by simpa using c38))
                              clear c38
                              have H' := Aside0.mk H
                              clear H
                              have p178 : 0 ≤ (x47_2 : Int) := of_decide_eq_true (by first | (with_reducible assumption) | assumption)
                              have q178 : x47_2 < (t175.length : Int) := of_decide_eq_true (by first | (with_reducible assumption) | assumption)
                              obtain ⟨ad178, e178, hx178_0⟩ := Kd.at_int (Kd.R_reads' HO_13.out).2.2 x47_2 p178 q178
                              cases e178
                              replace p178 := eq_true p178
                              replace q178 := eq_true q178
                              have p179 : 0 ≤ (x47_2 : Int) := of_decide_eq_true (by first | (with_reducible assumption) | assumption)
                              have q179 : x47_2 < (l0.length : Int) := of_decide_eq_true (by first | (with_reducible assumption) | assumption)
                              obtain ⟨ad179, A179_1, c179_1, A179_2, c179_2, e179, hx179_0, hx179_1, hx179_2, hl179_1, hi179_1, hl179_2, hi179_2⟩ := at_T49 HR0.out x47_2 p179 q179
                              (try rw [← Nbq35.out] at hx179_0)
                              cases e179
                              replace hx179_0 := (HB.out.cell (World.block_lt_of_cell? w _ hx179_0)).trans hx179_0
                              replace hx179_1 := (HB.out.cell (World.block_lt_of_cell? w _ hx179_1)).trans hx179_1
                              replace hx179_2 := (HB.out.cell (World.block_lt_of_cell? w _ hx179_2)).trans hx179_2
                              have HR179_1 := Aside0.mk hi179_1
                              have HC179_1 := Aside0.mk hl179_1
                              clear hi179_1 hl179_1
                              have HR179_2 := Aside0.mk hi179_2
                              have HC179_2 := Aside0.mk hl179_2
                              clear hi179_2 hl179_2
                              replace p179 := eq_true p179
                              replace q179 := eq_true q179
                              go_wp2
                              go_roundg k2
                              case measure => have := HK1.out; have := HK2.out; omega
                              case rel => exact ⟨(wrap64 (x47_2 + 1)), (by first | rfl | (simp; done) | (simp [*]; done)), H', ⟨by have := HK1.out; have := HK2.out; omega⟩, ⟨by (with_reducible repeat (first | apply Kd.R_alloc | apply Kd.R_drewN | apply Kd.R_drew)); exact HO_13.out⟩, ⟨by (with_reducible repeat (first | refine blk_drewN ?_ _ | refine blk_drew ?_ | refine blk_alloc ?_ _)); exact BK166.out⟩, ⟨by repeat (first | (with_reducible first | exact HB.out | apply below_alloc | apply pw_below_drewN | apply below_drew1 | refine below_set ?_ GE166.out) | exact HB.out)⟩⟩
                          · rw [if_neg c37] at H
                            have c37b0 : decide (0 ≤ a2) = false := decide_eq_false c37
                            clear c37
                            by_cases c39 : x9_1 ≥ 2
                            · rw [if_pos c39] at H
                              have c39b0 : decide (2 ≤ x9_1) = true := decide_eq_true c39
                              clear c39
                              by_cases c40 : ((decide ((rd t175 x47_2) ≥ 0)) != true) = true
                              · rw [if_pos c40] at H
                                have c40b0 : ((decide ((rd t175 x47_2) ≥ 0)) != true) = true := c40
                                (try (have c40b1 : decide ((decide ((rd t175 x47_2) ≥ 0)) = true) = false := by simpa using c40))
                                (try (have c40b2 : ((decide ((rd t175 x47_2) ≥ 0)) == true) = false := by simpa using c40))
                                (try (have c40b3 : ¬ ((decide ((rd t175 x47_2) ≥ 0)) = true) := by simpa using c40))
                                clear c40
                                obtain rfl := Option.some.inj H
                                have p178 : 0 ≤ (x47_2 : Int) := of_decide_eq_true (by first | (with_reducible assumption) | assumption)
                                have q178 : x47_2 < (t175.length : Int) := of_decide_eq_true (by first | (with_reducible assumption) | assumption)
                                obtain ⟨ad178, e178, hx178_0⟩ := Kd.at_int (Kd.R_reads' HO_13.out).2.2 x47_2 p178 q178
                                cases e178
                                replace p178 := eq_true p178
                                replace q178 := eq_true q178
                                have p179 : 0 ≤ (x47_2 : Int) := of_decide_eq_true (by first | (with_reducible assumption) | assumption)
                                have q179 : x47_2 < (l0.length : Int) := of_decide_eq_true (by first | (with_reducible assumption) | assumption)
                                obtain ⟨ad179, A179_1, c179_1, A179_2, c179_2, e179, hx179_0, hx179_1, hx179_2, hl179_1, hi179_1, hl179_2, hi179_2⟩ := at_T49 HR0.out x47_2 p179 q179
                                (try rw [← Nbq35.out] at hx179_0)
                                cases e179
                                replace hx179_0 := (HB.out.cell (World.block_lt_of_cell? w _ hx179_0)).trans hx179_0
                                replace hx179_1 := (HB.out.cell (World.block_lt_of_cell? w _ hx179_1)).trans hx179_1
                                replace hx179_2 := (HB.out.cell (World.block_lt_of_cell? w _ hx179_2)).trans hx179_2
                                have HR179_1 := Aside0.mk hi179_1
                                have HC179_1 := Aside0.mk hl179_1
                                clear hi179_1 hl179_1
                                have HR179_2 := Aside0.mk hi179_2
                                have HC179_2 := Aside0.mk hl179_2
                                clear hi179_2 hl179_2
                                replace p179 := eq_true p179
                                replace q179 := eq_true q179
                                go_wp2
                                go_ret
                                exact ⟨by first | rfl | (simp [errW_none, errW_some] <;> rfl) | (simp [*, errW_none, errW_some] <;> rfl), by repeat (first | (with_reducible first | exact HB.out | apply below_alloc | apply pw_below_drewN | apply below_drew1 | refine below_set ?_ GE166.out) | exact HB.out)⟩
                              · rw [if_neg c40] at H
                                have c40b0 : ((decide ((rd t175 x47_2) ≥ 0)) != true) = false := by simpa using c40
                                (try (have c40b1 : decide ((decide ((rd t175 x47_2) ≥ 0)) = true) = true := by simpa using c40))
                                (try (have c40b2 : ((decide ((rd t175 x47_2) ≥ 0)) == true) = true := by simpa using c40))
                                clear c40
                                have H' := Aside0.mk H
                                clear H
                                have p178 : 0 ≤ (x47_2 : Int) := of_decide_eq_true (by first | (with_reducible assumption) | assumption)
                                have q178 : x47_2 < (t175.length : Int) := of_decide_eq_true (by first | (with_reducible assumption) | assumption)
                                obtain ⟨ad178, e178, hx178_0⟩ := Kd.at_int (Kd.R_reads' HO_13.out).2.2 x47_2 p178 q178
                                cases e178
                                replace p178 := eq_true p178
                                replace q178 := eq_true q178
                                have p179 : 0 ≤ (x47_2 : Int) := of_decide_eq_true (by first | (with_reducible assumption) | assumption)
                                have q179 : x47_2 < (l0.length : Int) := of_decide_eq_true (by first | (with_reducible assumption) | assumption)
                                obtain ⟨ad179, A179_1, c179_1, A179_2, c179_2, e179, hx179_0, hx179_1, hx179_2, hl179_1, hi179_1, hl179_2, hi179_2⟩ := at_T49 HR0.out x47_2 p179 q179
                                (try rw [← Nbq35.out] at hx179_0)
                                cases e179
                                replace hx179_0 := (HB.out.cell (World.block_lt_of_cell? w _ hx179_0)).trans hx179_0
                                replace hx179_1 := (HB.out.cell (World.block_lt_of_cell? w _ hx179_1)).trans hx179_1
                                replace hx179_2 := (HB.out.cell (World.block_lt_of_cell? w _ hx179_2)).trans hx179_2
                                have HR179_1 := Aside0.mk hi179_1
                                have HC179_1 := Aside0.mk hl179_1
                                clear hi179_1 hl179_1
                                have HR179_2 := Aside0.mk hi179_2
                                have HC179_2 := Aside0.mk hl179_2
                                clear hi179_2 hl179_2
                                replace p179 := eq_true p179
                                replace q179 := eq_true q179
                                go_wp2
                                go_roundg k2
                                case measure => have := HK1.out; have := HK2.out; omega
                                case rel => exact ⟨(wrap64 (x47_2 + 1)), (by first | rfl | (simp; done) | (simp [*]; done)), H', ⟨by have := HK1.out; have := HK2.out; omega⟩, ⟨by (with_reducible repeat (first | apply Kd.R_alloc | apply Kd.R_drewN | apply Kd.R_drew)); exact HO_13.out⟩, ⟨by (with_reducible repeat (first | refine blk_drewN ?_ _ | refine blk_drew ?_ | refine blk_alloc ?_ _)); exact BK166.out⟩, ⟨by repeat (first | (with_reducible first | exact HB.out | apply below_alloc | apply pw_below_drewN | apply below_drew1 | refine below_set ?_ GE166.out) | exact HB.out)⟩⟩
                            · rw [if_neg c39] at H
                              have c39b0 : decide (2 ≤ x9_1) = false := decide_eq_false c39
                              clear c39
                              by_cases c41 : x9_1 = 1
                              · rw [if_pos c41] at H
                                have c41b0 : (x9_1 == 1) = true := beq_iff_eq.mpr c41
                                have c41b1 : (x9_1 != 1) = false := bne_eq_false_iff_eq.mpr c41
                                clear c41
                                by_cases c42 : ((decide ((rd t175 x47_2) ≥ 0)) != (x47_2 != x10_1)) = true
                                · rw [if_pos c42] at H
                                  have c42b0 : ((decide ((rd t175 x47_2) ≥ 0)) != (x47_2 != x10_1)) = true := c42
                                  (try (have c42b1 : decide ((decide ((rd t175 x47_2) ≥ 0)) = (x47_2 != x10_1)) = false := by simpa using c42))
                                  (try (have c42b2 : ((decide ((rd t175 x47_2) ≥ 0)) == (x47_2 != x10_1)) = false := by simpa using c42))
                                  (try (have c42b3 : ¬ ((decide ((rd t175 x47_2) ≥ 0)) = (x47_2 != x10_1)) := by simpa using c42))
                                  clear c42
                                  obtain rfl := Option.some.inj H
                                  have p178 : 0 ≤ (x47_2 : Int) := of_decide_eq_true (by first | (with_reducible assumption) | assumption)
                                  have q178 : x47_2 < (t175.length : Int) := of_decide_eq_true (by first | (with_reducible assumption) | assumption)
                                  obtain ⟨ad178, e178, hx178_0⟩ := Kd.at_int (Kd.R_reads' HO_13.out).2.2 x47_2 p178 q178
                                  cases e178
                                  replace p178 := eq_true p178
                                  replace q178 := eq_true q178
                                  have p179 : 0 ≤ (x47_2 : Int) := of_decide_eq_true (by first | (with_reducible assumption) | assumption)
                                  have q179 : x47_2 < (l0.length : Int) := of_decide_eq_true (by first | (with_reducible assumption) | assumption)
                                  obtain ⟨ad179, A179_1, c179_1, A179_2, c179_2, e179, hx179_0, hx179_1, hx179_2, hl179_1, hi179_1, hl179_2, hi179_2⟩ := at_T49 HR0.out x47_2 p179 q179
                                  (try rw [← Nbq35.out] at hx179_0)
                                  cases e179
                                  replace hx179_0 := (HB.out.cell (World.block_lt_of_cell? w _ hx179_0)).trans hx179_0
                                  replace hx179_1 := (HB.out.cell (World.block_lt_of_cell? w _ hx179_1)).trans hx179_1
                                  replace hx179_2 := (HB.out.cell (World.block_lt_of_cell? w _ hx179_2)).trans hx179_2
                                  have HR179_1 := Aside0.mk hi179_1
                                  have HC179_1 := Aside0.mk hl179_1
                                  clear hi179_1 hl179_1
                                  have HR179_2 := Aside0.mk hi179_2
                                  have HC179_2 := Aside0.mk hl179_2
                                  clear hi179_2 hl179_2
                                  replace p179 := eq_true p179
                                  replace q179 := eq_true q179
                                  go_wp2
                                  go_ret
                                  exact ⟨by first | rfl | (simp [errW_none, errW_some] <;> rfl) | (simp [*, errW_none, errW_some] <;> rfl), by repeat (first | (with_reducible first | exact HB.out | apply below_alloc | apply pw_below_drewN | apply below_drew1 | refine below_set ?_ GE166.out) | exact HB.out)⟩
                                · rw [if_neg c42] at H
                                  have c42b0 : ((decide ((rd t175 x47_2) ≥ 0)) != (x47_2 != x10_1)) = false := by simpa using c42
                                  (try (have c42b1 : decide ((decide ((rd t175 x47_2) ≥ 0)) = (x47_2 != x10_1)) = true := by simpa using c42))
                                  (try (have c42b2 : ((decide ((rd t175 x47_2) ≥ 0)) == (x47_2 != x10_1)) = true := by simpa using c42))
                                  clear c42
                                  have H' := Aside0.mk H
                                  clear H
                                  have p178 : 0 ≤ (x47_2 : Int) := of_decide_eq_true (by first | (with_reducible assumption) | assumption)
                                  have q178 : x47_2 < (t175.length : Int) := of_decide_eq_true (by first | (with_reducible assumption) | assumption)
                                  obtain ⟨ad178, e178, hx178_0⟩ := Kd.at_int (Kd.R_reads' HO_13.out).2.2 x47_2 p178 q178
                                  cases e178
                                  replace p178 := eq_true p178
                                  replace q178 := eq_true q178
                                  have p179 : 0 ≤ (x47_2 : Int) := of_decide_eq_true (by first | (with_reducible assumption) | assumption)
                                  have q179 : x47_2 < (l0.length : Int) := of_decide_eq_true (by first | (with_reducible assumption) | assumption)
                                  obtain ⟨ad179, A179_1, c179_1, A179_2, c179_2, e179, hx179_0, hx179_1, hx179_2, hl179_1, hi179_1, hl179_2, hi179_2⟩ := at_T49 HR0.out x47_2 p179 q179
                                  (try rw [← Nbq35.out] at hx179_0)
                                  cases e179
                                  replace hx179_0 := (HB.out.cell (World.block_lt_of_cell? w _ hx179_0)).trans hx179_0
                                  replace hx179_1 := (HB.out.cell (World.block_lt_of_cell? w _ hx179_1)).trans hx179_1
                                  replace hx179_2 := (HB.out.cell (World.block_lt_of_cell? w _ hx179_2)).trans hx179_2
                                  have HR179_1 := Aside0.mk hi179_1
                                  have HC179_1 := Aside0.mk hl179_1
                                  clear hi179_1 hl179_1
                                  have HR179_2 := Aside0.mk hi179_2
                                  have HC179_2 := Aside0.mk hl179_2
                                  clear hi179_2 hl179_2
                                  replace p179 := eq_true p179
                                  replace q179 := eq_true q179
                                  go_wp2
                                  go_roundg k2
                                  case measure => have := HK1.out; have := HK2.out; omega
                                  case rel => exact ⟨(wrap64 (x47_2 + 1)), (by first | rfl | (simp; done) | (simp [*]; done)), H', ⟨by have := HK1.out; have := HK2.out; omega⟩, ⟨by (with_reducible repeat (first | apply Kd.R_alloc | apply Kd.R_drewN | apply Kd.R_drew)); exact HO_13.out⟩, ⟨by (with_reducible repeat (first | refine blk_drewN ?_ _ | refine blk_drew ?_ | refine blk_alloc ?_ _)); exact BK166.out⟩, ⟨by repeat (first | (with_reducible first | exact HB.out | apply below_alloc | apply pw_below_drewN | apply below_drew1 | refine below_set ?_ GE166.out) | exact HB.out)⟩⟩
                              · rw [if_neg c41] at H
                                have c41b0 : (x9_1 == 1) = false := beq_eq_false_iff_ne.mpr c41
                                have c41b1 : (x9_1 != 1) = true := bne_iff_ne.mpr c41
                                by_cases c43 : ((decide ((rd t175 x47_2) ≥ 0)) != false) = true
                                · rw [if_pos c43] at H
                                  have c43b0 : ((decide ((rd t175 x47_2) ≥ 0)) != false) = true := c43
                                  (try (have c43b1 : decide ((decide ((rd t175 x47_2) ≥ 0)) = false) = false := by simpa using c43))
                                  (try (have c43b2 : ((decide ((rd t175 x47_2) ≥ 0)) == false) = false := by simpa using c43))
                                  (try (have c43b3 : ¬ ((decide ((rd t175 x47_2) ≥ 0)) = false) := by simpa using c43))
                                  clear c43
                                  obtain rfl := Option.some.inj H
                                  have p178 : 0 ≤ (x47_2 : Int) := of_decide_eq_true (by first | (with_reducible assumption) | assumption)
                                  have q178 : x47_2 < (t175.length : Int) := of_decide_eq_true (by first | (with_reducible assumption) | assumption)
                                  obtain ⟨ad178, e178, hx178_0⟩ := Kd.at_int (Kd.R_reads' HO_13.out).2.2 x47_2 p178 q178
                                  cases e178
                                  replace p178 := eq_true p178
                                  replace q178 := eq_true q178
                                  have p179 : 0 ≤ (x47_2 : Int) := of_decide_eq_true (by first | (with_reducible assumption) | assumption)
                                  have q179 : x47_2 < (l0.length : Int) := of_decide_eq_true (by first | (with_reducible assumption) | assumption)
                                  obtain ⟨ad179, A179_1, c179_1, A179_2, c179_2, e179, hx179_0, hx179_1, hx179_2, hl179_1, hi179_1, hl179_2, hi179_2⟩ := at_T49 HR0.out x47_2 p179 q179
                                  (try rw [← Nbq35.out] at hx179_0)
                                  cases e179
                                  replace hx179_0 := (HB.out.cell (World.block_lt_of_cell? w _ hx179_0)).trans hx179_0
                                  replace hx179_1 := (HB.out.cell (World.block_lt_of_cell? w _ hx179_1)).trans hx179_1
                                  replace hx179_2 := (HB.out.cell (World.block_lt_of_cell? w _ hx179_2)).trans hx179_2
                                  have HR179_1 := Aside0.mk hi179_1
                                  have HC179_1 := Aside0.mk hl179_1
                                  clear hi179_1 hl179_1
                                  have HR179_2 := Aside0.mk hi179_2
                                  have HC179_2 := Aside0.mk hl179_2
                                  clear hi179_2 hl179_2
                                  replace p179 := eq_true p179
                                  replace q179 := eq_true q179
                                  go_wp2
                                  go_ret
                                  exact ⟨by first | rfl | (simp [errW_none, errW_some] <;> rfl) | (simp [*, errW_none, errW_some] <;> rfl), by repeat (first | (with_reducible first | exact HB.out | apply below_alloc | apply pw_below_drewN | apply below_drew1 | refine below_set ?_ GE166.out) | exact HB.out)⟩
                                · rw [if_neg c43] at H
                                  have c43b0 : ((decide ((rd t175 x47_2) ≥ 0)) != false) = false := by simpa using c43
                                  (try (have c43b1 : decide ((decide ((rd t175 x47_2) ≥ 0)) = false) = true := by simpa using c43))
                                  (try (have c43b2 : ((decide ((rd t175 x47_2) ≥ 0)) == false) = true := by simpa using c43))
                                  clear c43
                                  have H' := Aside0.mk H
                                  clear H
                                  have p178 : 0 ≤ (x47_2 : Int) := of_decide_eq_true (by first | (with_reducible assumption) | assumption)
                                  have q178 : x47_2 < (t175.length : Int) := of_decide_eq_true (by first | (with_reducible assumption) | assumption)
                                  obtain ⟨ad178, e178, hx178_0⟩ := Kd.at_int (Kd.R_reads' HO_13.out).2.2 x47_2 p178 q178
                                  cases e178
                                  replace p178 := eq_true p178
                                  replace q178 := eq_true q178
                                  have p179 : 0 ≤ (x47_2 : Int) := of_decide_eq_true (by first | (with_reducible assumption) | assumption)
                                  have q179 : x47_2 < (l0.length : Int) := of_decide_eq_true (by first | (with_reducible assumption) | assumption)
                                  obtain ⟨ad179, A179_1, c179_1, A179_2, c179_2, e179, hx179_0, hx179_1, hx179_2, hl179_1, hi179_1, hl179_2, hi179_2⟩ := at_T49 HR0.out x47_2 p179 q179
                                  (try rw [← Nbq35.out] at hx179_0)
                                  cases e179
                                  replace hx179_0 := (HB.out.cell (World.block_lt_of_cell? w _ hx179_0)).trans hx179_0
                                  replace hx179_1 := (HB.out.cell (World.block_lt_of_cell? w _ hx179_1)).trans hx179_1
                                  replace hx179_2 := (HB.out.cell (World.block_lt_of_cell? w _ hx179_2)).trans hx179_2
                                  have HR179_1 := Aside0.mk hi179_1
                                  have HC179_1 := Aside0.mk hl179_1
                                  clear hi179_1 hl179_1
                                  have HR179_2 := Aside0.mk hi179_2
                                  have HC179_2 := Aside0.mk hl179_2
                                  clear hi179_2 hl179_2
                                  replace p179 := eq_true p179
                                  replace q179 := eq_true q179
                                  go_wp2
                                  go_roundg k2
                                  case measure => have := HK1.out; have := HK2.out; omega
                                  case rel => exact ⟨(wrap64 (x47_2 + 1)), (by first | rfl | (simp; done) | (simp [*]; done)), H', ⟨by have := HK1.out; have := HK2.out; omega⟩, ⟨by (with_reducible repeat (first | apply Kd.R_alloc | apply Kd.R_drewN | apply Kd.R_drew)); exact HO_13.out⟩, ⟨by (with_reducible repeat (first | refine blk_drewN ?_ _ | refine blk_drew ?_ | refine blk_alloc ?_ _)); exact BK166.out⟩, ⟨by repeat (first | (with_reducible first | exact HB.out | apply below_alloc | apply pw_below_drewN | apply below_drew1 | refine below_set ?_ GE166.out) | exact HB.out)⟩⟩
                        · replace c36 := Bool.eq_false_iff.mpr c36
                          subst c36
                          have H1 : (if ((decide ((rd t175 x47_2) ≥ 0)) != false) = true then (some false) else (kissgatelaw17_SpreadBack.l1 k2 l0 a2 x9_1 x10_1 t175 (t175.length : Int) (wrap64 (x47_2 + 1)))) = some r := by rw [if_neg (show ¬ (false = true) by decide)] at H; exact H
                          clear H
                          have H := H1
                          clear H1
                          by_cases c44 : ((decide ((rd t175 x47_2) ≥ 0)) != false) = true
                          · rw [if_pos c44] at H
                            have c44b0 : ((decide ((rd t175 x47_2) ≥ 0)) != false) = true := c44
                            (try (have c44b1 : decide ((decide ((rd t175 x47_2) ≥ 0)) = false) = false := by simpa using c44))
                            (try (have c44b2 : ((decide ((rd t175 x47_2) ≥ 0)) == false) = false := by simpa using c44))
                            (try (have c44b3 : ¬ ((decide ((rd t175 x47_2) ≥ 0)) = false) := by simpa using c44))
                            clear c44
                            obtain rfl := Option.some.inj H
                            have p178 : 0 ≤ (x47_2 : Int) := of_decide_eq_true (by first | (with_reducible assumption) | assumption)
                            have q178 : x47_2 < (t175.length : Int) := of_decide_eq_true (by first | (with_reducible assumption) | assumption)
                            obtain ⟨ad178, e178, hx178_0⟩ := Kd.at_int (Kd.R_reads' HO_13.out).2.2 x47_2 p178 q178
                            cases e178
                            replace p178 := eq_true p178
                            replace q178 := eq_true q178
                            have p179 : 0 ≤ (x47_2 : Int) := of_decide_eq_true (by first | (with_reducible assumption) | assumption)
                            have q179 : x47_2 < (l0.length : Int) := of_decide_eq_true (by first | (with_reducible assumption) | assumption)
                            obtain ⟨ad179, A179_1, c179_1, A179_2, c179_2, e179, hx179_0, hx179_1, hx179_2, hl179_1, hi179_1, hl179_2, hi179_2⟩ := at_T49 HR0.out x47_2 p179 q179
                            (try rw [← Nbq35.out] at hx179_0)
                            cases e179
                            replace hx179_0 := (HB.out.cell (World.block_lt_of_cell? w _ hx179_0)).trans hx179_0
                            replace hx179_1 := (HB.out.cell (World.block_lt_of_cell? w _ hx179_1)).trans hx179_1
                            replace hx179_2 := (HB.out.cell (World.block_lt_of_cell? w _ hx179_2)).trans hx179_2
                            have HR179_1 := Aside0.mk hi179_1
                            have HC179_1 := Aside0.mk hl179_1
                            clear hi179_1 hl179_1
                            have HR179_2 := Aside0.mk hi179_2
                            have HC179_2 := Aside0.mk hl179_2
                            clear hi179_2 hl179_2
                            replace p179 := eq_true p179
                            replace q179 := eq_true q179
                            go_wp2
                            go_ret
                            exact ⟨by first | rfl | (simp [errW_none, errW_some] <;> rfl) | (simp [*, errW_none, errW_some] <;> rfl), by repeat (first | (with_reducible first | exact HB.out | apply below_alloc | apply pw_below_drewN | apply below_drew1 | refine below_set ?_ GE166.out) | exact HB.out)⟩
                          · rw [if_neg c44] at H
                            have c44b0 : ((decide ((rd t175 x47_2) ≥ 0)) != false) = false := by simpa using c44
                            (try (have c44b1 : decide ((decide ((rd t175 x47_2) ≥ 0)) = false) = true := by simpa using c44))
                            (try (have c44b2 : ((decide ((rd t175 x47_2) ≥ 0)) == false) = true := by simpa using c44))
                            clear c44
                            have H' := Aside0.mk H
                            clear H
                            have p178 : 0 ≤ (x47_2 : Int) := of_decide_eq_true (by first | (with_reducible assumption) | assumption)
                            have q178 : x47_2 < (t175.length : Int) := of_decide_eq_true (by first | (with_reducible assumption) | assumption)
                            obtain ⟨ad178, e178, hx178_0⟩ := Kd.at_int (Kd.R_reads' HO_13.out).2.2 x47_2 p178 q178
                            cases e178
                            replace p178 := eq_true p178
                            replace q178 := eq_true q178
                            have p179 : 0 ≤ (x47_2 : Int) := of_decide_eq_true (by first | (with_reducible assumption) | assumption)
                            have q179 : x47_2 < (l0.length : Int) := of_decide_eq_true (by first | (with_reducible assumption) | assumption)
                            obtain ⟨ad179, A179_1, c179_1, A179_2, c179_2, e179, hx179_0, hx179_1, hx179_2, hl179_1, hi179_1, hl179_2, hi179_2⟩ := at_T49 HR0.out x47_2 p179 q179
                            (try rw [← Nbq35.out] at hx179_0)
                            cases e179
                            replace hx179_0 := (HB.out.cell (World.block_lt_of_cell? w _ hx179_0)).trans hx179_0
                            replace hx179_1 := (HB.out.cell (World.block_lt_of_cell? w _ hx179_1)).trans hx179_1
                            replace hx179_2 := (HB.out.cell (World.block_lt_of_cell? w _ hx179_2)).trans hx179_2
                            have HR179_1 := Aside0.mk hi179_1
                            have HC179_1 := Aside0.mk hl179_1
                            clear hi179_1 hl179_1
                            have HR179_2 := Aside0.mk hi179_2
                            have HC179_2 := Aside0.mk hl179_2
                            clear hi179_2 hl179_2
                            replace p179 := eq_true p179
                            replace q179 := eq_true q179
                            go_wp2
                            go_roundg k2
                            case measure => have := HK1.out; have := HK2.out; omega
                            case rel => exact ⟨(wrap64 (x47_2 + 1)), (by first | rfl | (simp; done) | (simp [*]; done)), H', ⟨by have := HK1.out; have := HK2.out; omega⟩, ⟨by (with_reducible repeat (first | apply Kd.R_alloc | apply Kd.R_drewN | apply Kd.R_drew)); exact HO_13.out⟩, ⟨by (with_reducible repeat (first | refine blk_drewN ?_ _ | refine blk_drew ?_ | refine blk_alloc ?_ _)); exact BK166.out⟩, ⟨by repeat (first | (with_reducible first | exact HB.out | apply below_alloc | apply pw_below_drewN | apply below_drew1 | refine below_set ?_ GE166.out) | exact HB.out)⟩⟩
                      · rw [if_neg c34] at H
                        exact absurd H (by simp)
                    · rw [if_neg c33] at H
                      exact absurd H (by simp)
                  · rw [if_neg c32] at H
                    exact absurd H (by simp)
                · rw [if_neg c31] at H
                  have c31b0 : decide (x47_2 < (t175.length : Int)) = false := decide_eq_false c31
                  clear c31
                  obtain rfl := Option.some.inj H
                  go_wp2
                  go_ret
                  exact ⟨by first | rfl | (simp [errW_none, errW_some] <;> rfl) | (simp [*, errW_none, errW_some] <;> rfl), by repeat (first | (with_reducible first | exact HB.out | apply below_alloc | apply pw_below_drewN | apply below_drew1 | refine below_set ?_ GE166.out) | exact HB.out)⟩
    · replace c7 := Bool.eq_false_iff.mpr c7
      subst c7
      have H1 : (some true) = some r := by rw [if_neg (show ¬ (false = true) by decide)] at H; exact H
      clear H
      have H := H1
      clear H1
      obtain rfl := Option.some.inj H
      go_enter Try.func6, Try.ntmps6
      go_wp2_with (first | ((with_reducible refine gate_dst (N := 4) rfl ?_); refine box_event ?hg (N := 4) ?hd (cs := #[.int .i64 a1_0, .int .i64 a1_1]) (t := 38) ?hr ?_; (case hd => rfl); (case hg => rfl); (case hr => first | (go_simp; done) | (go_simp; rfl)); intro gb166 hg w45 hbox hb; have n0_ := Aside0.mk (below_step (by repeat (first | (with_reducible first | exact HB.out | apply below_alloc | apply pw_below_drewN | apply below_drew1) | exact HB.out)) hb); have n1_ := Aside0.mk (hbox); have n2_ := Aside0.mk ((by rw [hg]; exact (below_size (by repeat (first | (with_reducible first | exact HB.out | apply below_alloc | apply pw_below_drewN | apply below_drew1) | exact HB.out))) : w.heap.size ≤ gb166)); have n3_ := Aside0.mk ((by rw [hg]; exact (below_size (by repeat (first | (with_reducible first | exact HB.out | apply below_alloc | apply pw_below_drewN | apply below_drew1) | exact HB.out))) : w.heap.size ≤ gb166)); clear HB; have HB := n0_; have BK166 := n1_; have GW166 := n2_; have GE166 := n3_; clear n0_ n1_ n2_ n3_; clear hb hbox hg) | ((with_reducible refine gate_callee (f := 19) rfl ?_); refine goesL_ (some 17) rfl rfl Try.func19 (by kernel_rfl) rfl #[] rfl (by (try simp only [List.map_toArray, List.map_cons, List.map_nil]); first | done | rfl | (simp only [List.length_drop, List.length_take]; rfl)) ?_; (with_reducible refine (kissgatelaw17_alive.calls k  true _ A4.out).mono ?_); rintro e w46 ⟨rfl, hb⟩; refine ⟨_, rfl, ?_⟩; have n0_ := Aside0.mk (blk_below (g := gb166) (o := .cells #[.int .i64 a1_0, .int .i64 a1_1] 38 (0, 0)) (by (with_reducible repeat (first | refine blk_drewN ?_ _ | refine blk_drew ?_ | refine blk_alloc ?_ _)); exact BK166.out) hb); have n1_ := Aside0.mk (below_step (by repeat (first | (with_reducible first | exact HB.out | apply below_alloc | apply pw_below_drewN | apply below_drew1 | refine below_set ?_ GE166.out) | exact HB.out)) hb); clear BK166; clear HB; have BK166 := n0_; have HB := n1_; clear n0_ n1_; (try clear hb); (try clear hb2); (try clear hk); (try clear hi)) | ((with_reducible refine gate_callee (f := 20) rfl ?_); refine goesL_ (some 21) rfl rfl Try.func20 (by kernel_rfl) rfl #[.slice A0 l0.length c0] rfl (by (try simp only [List.map_toArray, List.map_cons, List.map_nil]); first | done | rfl | (simp only [List.length_drop, List.length_take]; rfl)) ?_; (with_reducible refine (kissgatelaw17_plain.calls k (fun k_ => k_ < w.heap.size) _ _ l0 t168 false _ ?side1 A6.out).mono ?_); (case side1 => exact Kd.V_mk HC0.out (Kd.F_below (Kd.C_F k49_heap HR0.out) (by repeat (first | (with_reducible first | exact HB.out | apply below_alloc | apply pw_below_drewN | apply below_drew1 | refine below_set ?_ GE166.out) | exact HB.out)))); rintro e w47 ⟨v169, rfl, ho0, hb⟩; refine ⟨_, rfl, ?_⟩; have n0_ := Aside0.mk (Kd.N_lower (Kd.N_mono (ok' := fun k_ => k_ ≠ gb166) ho0 (fun k_ hk_ => Or.elim hk_ (fun hs_ => fun e_ => Nat.not_le.2 hs_ (by rw [e_]; exact GW166.out)) (fun hn_ => (Kd.freshB (g := gb166) (o := .cells #[.int .i64 a1_0, .int .i64 a1_1] 38 (0, 0)) (by (with_reducible repeat (first | refine blk_drewN ?_ _ | refine blk_drew ?_ | refine blk_alloc ?_ _)); exact BK166.out) k_ hn_)))) (below_size (by repeat (first | (with_reducible first | exact HB.out | apply below_alloc | apply pw_below_drewN | apply below_drew1 | refine below_set ?_ GE166.out) | exact HB.out)))); have n1_ := Aside0.mk (blk_below (g := gb166) (o := .cells #[.int .i64 a1_0, .int .i64 a1_1] 38 (0, 0)) (by (with_reducible repeat (first | refine blk_drewN ?_ _ | refine blk_drew ?_ | refine blk_alloc ?_ _)); exact BK166.out) hb); have n2_ := Aside0.mk (below_step (by repeat (first | (with_reducible first | exact HB.out | apply below_alloc | apply pw_below_drewN | apply below_drew1 | refine below_set ?_ GE166.out) | exact HB.out)) hb); clear BK166; clear HB; have HO170 := n0_; have BK166 := n1_; have HB := n2_; clear n0_ n1_ n2_; (try clear hb); (try clear hb2); (try clear hk); (try clear hi); (try clear ho0)))
      go_ret
      exact ⟨by first | rfl | (simp [errW_none, errW_some] <;> rfl) | (simp [*, errW_none, errW_some] <;> rfl), by repeat (first | (with_reducible first | exact HB.out | apply below_alloc | apply pw_below_drewN | apply below_drew1 | refine below_set ?_ GE166.out) | exact HB.out)⟩
  · replace c5 := Bool.eq_false_iff.mpr c5
    subst c5
    have H1 : (some false) = some r := by rw [if_neg (show ¬ (false = true) by decide)] at H; exact H
    clear H
    have H := H1
    clear H1
    obtain rfl := Option.some.inj H
    go_enter Try.func6, Try.ntmps6
    go_wp2_with (first | ((with_reducible refine gate_dst (N := 4) rfl ?_); refine box_event ?hg (N := 4) ?hd (cs := #[.int .i64 a1_0, .int .i64 a1_1]) (t := 38) ?hr ?_; (case hd => rfl); (case hg => rfl); (case hr => first | (go_simp; done) | (go_simp; rfl)); intro gb166 hg w48 hbox hb; have n0_ := Aside0.mk (below_step (by repeat (first | (with_reducible first | exact HB.out | apply below_alloc | apply pw_below_drewN | apply below_drew1) | exact HB.out)) hb); have n1_ := Aside0.mk (hbox); have n2_ := Aside0.mk ((by rw [hg]; exact (below_size (by repeat (first | (with_reducible first | exact HB.out | apply below_alloc | apply pw_below_drewN | apply below_drew1) | exact HB.out))) : w.heap.size ≤ gb166)); have n3_ := Aside0.mk ((by rw [hg]; exact (below_size (by repeat (first | (with_reducible first | exact HB.out | apply below_alloc | apply pw_below_drewN | apply below_drew1) | exact HB.out))) : w.heap.size ≤ gb166)); clear HB; have HB := n0_; have BK166 := n1_; have GW166 := n2_; have GE166 := n3_; clear n0_ n1_ n2_ n3_; clear hb hbox hg) | ((with_reducible refine gate_callee (f := 19) rfl ?_); refine goesL_ (some 17) rfl rfl Try.func19 (by kernel_rfl) rfl #[] rfl (by (try simp only [List.map_toArray, List.map_cons, List.map_nil]); first | done | rfl | (simp only [List.length_drop, List.length_take]; rfl)) ?_; (with_reducible refine (kissgatelaw17_alive.calls k  false _ A4.out).mono ?_); rintro e w49 ⟨rfl, hb⟩; refine ⟨_, rfl, ?_⟩; have n0_ := Aside0.mk (blk_below (g := gb166) (o := .cells #[.int .i64 a1_0, .int .i64 a1_1] 38 (0, 0)) (by (with_reducible repeat (first | refine blk_drewN ?_ _ | refine blk_drew ?_ | refine blk_alloc ?_ _)); exact BK166.out) hb); have n1_ := Aside0.mk (below_step (by repeat (first | (with_reducible first | exact HB.out | apply below_alloc | apply pw_below_drewN | apply below_drew1 | refine below_set ?_ GE166.out) | exact HB.out)) hb); clear BK166; clear HB; have BK166 := n0_; have HB := n1_; clear n0_ n1_; (try clear hb); (try clear hb2); (try clear hk); (try clear hi)))
    go_ret
    exact ⟨by first | rfl | (simp [errW_none, errW_some] <;> rfl) | (simp [*, errW_none, errW_some] <;> rfl), by repeat (first | (with_reducible first | exact HB.out | apply below_alloc | apply pw_below_drewN | apply below_drew1 | refine below_set ?_ GE166.out) | exact HB.out)⟩

-- NOT PRINTED: function 7 (kissgatelaw17_SpreadClosed)

-- NOT PRINTED: function 8 (kissgatelaw17_SpreadUp)

end Go.Proofs.Ytbcngajkokjfjaa.QSpr
