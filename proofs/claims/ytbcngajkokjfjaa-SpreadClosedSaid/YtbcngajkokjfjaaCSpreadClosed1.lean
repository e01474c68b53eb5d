/- Functions of the program as plain Lean functions, what their calls do, and what follows of it. Conditions: each theorem's own. -/
import Derived.Test.YtbcngajkokjfjaaCSpreadClosed0
namespace Go.Proofs.Ytbcngajkokjfjaa.QSps
open Go.RowKit Go.Proofs.YtbcngajkokjfjaaW.PrintWords Go.Proofs.YtbcngajkokjfjaaW.PrintLast Go.Proofs.YtbcngajkokjfjaaW.PrintMore
attribute [local go_sem] max2_int min2_int max_two min_two max_three min_three max_four min_four
set_option linter.unusedVariables false
set_option linter.unusedSimpArgs false
def kissgatelaw17_SpreadClosed.j0 : Nat → List (S49) → Int → Int → Bool → Int → Int → Option (Bool)
  | 0, _, _, _, _, _, _ => none
  | k + 1, x0, x2, x3, x38, x181000, x181001 => if x38 = true then (some true) else ((spread_Wants.f k x0 x181000 x181001 x2).bind fun t187 => ((some (([] : List (S49)) : List (S49))).bind fun y190 => (if 0 ≤ x3 then (if x3 ≤ (x0.length : Int) then ((some (x0.take (x3 : Int).toNat : List (S49))).bind fun y193 => (if y190.length + y193.length < 2513169434916 then ((some (y190 ++ y193 : List (S49))).bind fun y198 => (if 0 ≤ (wrap64 (x3 + 1)) then (if (wrap64 (x3 + 1)) ≤ (x0.length : Int) then ((some (x0.drop ((wrap64 (x3 + 1)) : Int).toNat : List (S49))).bind fun y201 => (if y198.length + y201.length < 2513169434916 then ((spread_Wants.f k (y198 ++ y201) x181000 x181001 x2).bind fun t209 => (if x3 < (t187.length : Int) then (if (rd t187 x3) = (-1) then ((some (([] : List Int) : List Int)).bind fun y213 => (if x3 ≤ (t187.length : Int) then ((some (t187.take (x3 : Int).toNat : List Int)).bind fun y216 => (if y213.length + y216.length < 17592186044416 then ((some (y213 ++ y216 : List Int)).bind fun y221 => (if (wrap64 (x3 + 1)) ≤ (t187.length : Int) then ((some (t187.drop ((wrap64 (x3 + 1)) : Int).toNat : List Int)).bind fun y224 => (if y221.length + y224.length < 17592186044416 then ((kissgateref06_Same.f k (y221 ++ y224) t209).bind fun t232 => (some t232)) else (none))) else (none))) else (none))) else (none))) else (some false)) else (none))) else (none))) else (none)) else (none))) else (none))) else (none)) else (none))))
def kissgatelaw17_SpreadClosed.f (k : Nat) (l0 : List (S49)) (a1_0 : Int) (a1_1 : Int) (a2 : Int) (a3 : Int) : Option (Bool) := (kissgatelaw17_alive.f k).bind fun t181 => (if t181 = true then ((kissgatelaw17_plain.f k l0).bind fun bt182 => (if bt182.2 = true then (if a3 < 0 then (kissgatelaw17_SpreadClosed.j0 k l0 a2 a3 true a1_0 a1_1) else (if a3 ≥ (l0.length : Int) then (kissgatelaw17_SpreadClosed.j0 k l0 a2 a3 true a1_0 a1_1) else (if 0 ≤ a3 then (if a3 < (l0.length : Int) then (kissgatelaw17_SpreadClosed.j0 k l0 a2 a3 ((rd_T49 l0 a3).f0) a1_0 a1_1) else (none)) else (none)))) else (kissgatelaw17_SpreadClosed.j0 k l0 a2 a3 true a1_0 a1_1))) else (some false))
def kissgatelaw17_SpreadClosed.T7 : Bool × List (List Nat × List Nat) := (true, [([], []), ([], []), ([], []), ([1, 2], [1, 2]), ([0, 3], [0, 3]), ([], []), ([], []), ([6], [6]), ([5, 7], [5, 7]), ([4, 8, 4], [4, 8]), ([], []), ([], []), ([9, 10, 11, 9], [9, 10, 11]), ([12, 12, 0, 1, 2, 3, 4, 5, 6, 7, 8, 9, 10, 11, 12], [12])])
def kissgatelaw17_SpreadClosed.B7 : List Nat := [0, 0, 0, 6, 15, 0, 0, 64, 224, 511, 0, 0, 4095, 8191]
theorem kissgatelaw17_SpreadClosed.tab7 : rtab .any (opsOf Try.f7 7) = kissgatelaw17_SpreadClosed.T7 := by kernel_rfl
theorem kissgatelaw17_SpreadClosed.bits7 : waitsOk kissgatelaw17_SpreadClosed.T7.2 kissgatelaw17_SpreadClosed.B7 = true := by kernel_rfl
def kissgatelaw17_SpreadClosed.T8 : Bool × List (List Nat × List Nat) := (true, [([], []), ([], []), ([0, 1], [0, 1]), ([2], [2]), ([3], [3]), ([4], [4]), ([5], [5]), ([5], [5]), ([5], [5]), ([7, 8, 5], [5, 7, 8]), ([6, 9, 5, 5], [5, 6, 9]), ([5], [5]), ([5], [5]), ([12, 5], [5, 12]), ([11, 13, 5], [5, 11, 13]), ([10, 14, 10, 5], [5, 10, 14]), ([5], [5]), ([15, 16, 15, 5], [5, 15, 16]), ([5, 17], [5, 17]), ([18, 17, 0, 1, 2, 3, 4, 5, 6, 7, 8, 9, 10, 11, 12, 13, 14, 15, 16, 17, 18], [18])])
def kissgatelaw17_SpreadClosed.B8 : List Nat := [0, 0, 3, 7, 15, 31, 63, 63, 63, 447, 1023, 63, 63, 4159, 14399, 32767, 63, 131071, 262143, 524287]
theorem kissgatelaw17_SpreadClosed.tab8 : rtab .any (opsOf Try.f7 8) = kissgatelaw17_SpreadClosed.T8 := by kernel_rfl
theorem kissgatelaw17_SpreadClosed.bits8 : waitsOk kissgatelaw17_SpreadClosed.T8.2 kissgatelaw17_SpreadClosed.B8 = true := by kernel_rfl
set_option maxHeartbeats 8000000 in
set_option maxRecDepth 100000 in
theorem kissgatelaw17_SpreadClosed.calls (k : Nat) (P0_ : Nat → Prop) (A0 : Option Addr) (c0 : Nat) (l0 : List (S49)) (a1_0 : Int) (a1_1 : Int) (a2 : Int) (a3 : Int) (r : Bool) (w : World) (hs0 : Kd.V k49 49 w w.heap.size (fun k_ => P0_ k_) (.slice A0 l0.length c0) l0) (h : kissgatelaw17_SpreadClosed.f k l0 a1_0 a1_1 a2 a3 = some r) :
    Calls Try.prog 7 #[.slice A0 l0.length c0, .agg #[.int .i64 a1_0, .int .i64 a1_1], .int .i64 a2, .int .i64 a3] w fun e w' => e = .returned (.bool r) ∧ Below w.heap.size w w' := by
  have hu38 := Try.underlying38
  have HO0 := Aside0.mk (show Kd.V k49 49 w w.heap.size (fun k_ => (P0_ k_ ∨ w.heap.size ≤ k_)) (.slice A0 l0.length c0) l0 from Kd.V_mono hs0 (fun k_ hk => .inl hk))
  have HB := Aside0.mk (Below.refl w.heap.size w)
  have H : ((kissgatelaw17_alive.f k).bind fun t181 => (if t181 = true then ((kissgatelaw17_plain.f k l0).bind fun bt182 => (if bt182.2 = true then (if a3 < 0 then (kissgatelaw17_SpreadClosed.j0 k l0 a2 a3 true a1_0 a1_1) else (if a3 ≥ (l0.length : Int) then (kissgatelaw17_SpreadClosed.j0 k l0 a2 a3 true a1_0 a1_1) else (if 0 ≤ a3 then (if a3 < (l0.length : Int) then (kissgatelaw17_SpreadClosed.j0 k l0 a2 a3 ((rd_T49 l0 a3).f0) a1_0 a1_1) else (none)) else (none)))) else (kissgatelaw17_SpreadClosed.j0 k l0 a2 a3 true a1_0 a1_1))) else (some false))) = some r := h
  clear h
  replace H := Option.bind_eq_some_iff.mp H
  obtain ⟨t181, A50, H⟩ := H
  replace H : (if t181 = true then ((kissgatelaw17_plain.f k l0).bind fun bt182 => (if bt182.2 = true then (if a3 < 0 then (kissgatelaw17_SpreadClosed.j0 k l0 a2 a3 true a1_0 a1_1) else (if a3 ≥ (l0.length : Int) then (kissgatelaw17_SpreadClosed.j0 k l0 a2 a3 true a1_0 a1_1) else (if 0 ≤ a3 then (if a3 < (l0.length : Int) then (kissgatelaw17_SpreadClosed.j0 k l0 a2 a3 ((rd_T49 l0 a3).f0) a1_0 a1_1) else (none)) else (none)))) else (kissgatelaw17_SpreadClosed.j0 k l0 a2 a3 true a1_0 a1_1))) else (some false)) = some r := H
  have A5 := Aside0.mk A50
  clear A50
  by_cases c6 : t181 = true
  · subst c6
    have H1 : ((kissgatelaw17_plain.f k l0).bind fun bt182 => (if bt182.2 = true then (if a3 < 0 then (kissgatelaw17_SpreadClosed.j0 k l0 a2 a3 true a1_0 a1_1) else (if a3 ≥ (l0.length : Int) then (kissgatelaw17_SpreadClosed.j0 k l0 a2 a3 true a1_0 a1_1) else (if 0 ≤ a3 then (if a3 < (l0.length : Int) then (kissgatelaw17_SpreadClosed.j0 k l0 a2 a3 ((rd_T49 l0 a3).f0) a1_0 a1_1) else (none)) else (none)))) else (kissgatelaw17_SpreadClosed.j0 k l0 a2 a3 true a1_0 a1_1))) = some r := by rw [if_pos rfl] at H; exact H
    clear H
    have H := H1
    clear H1
    replace H := Option.bind_eq_some_iff.mp H
    obtain ⟨⟨t182, t185⟩, A70, H⟩ := H
    replace H : (if t185 = true then (if a3 < 0 then (kissgatelaw17_SpreadClosed.j0 k l0 a2 a3 true a1_0 a1_1) else (if a3 ≥ (l0.length : Int) then (kissgatelaw17_SpreadClosed.j0 k l0 a2 a3 true a1_0 a1_1) else (if 0 ≤ a3 then (if a3 < (l0.length : Int) then (kissgatelaw17_SpreadClosed.j0 k l0 a2 a3 ((rd_T49 l0 a3).f0) a1_0 a1_1) else (none)) else (none)))) else (kissgatelaw17_SpreadClosed.j0 k l0 a2 a3 true a1_0 a1_1)) = some r := H
    have A7 := Aside0.mk A70
    clear A70
    have HC8 := Aside0.mk H
    clear H
    go_enter Try.func7, Try.ntmps7
    go_upto_region 4 with (first | ((with_reducible refine gate_dst (N := 5) rfl ?_); (try (refine gate_guard (by rfl) ?_; dsimp only)); refine box_event ?hg (N := 5) ?hd (cs := #[.int .i64 a1_0, .int .i64 a1_1]) (t := 38) ?hr ?_; (case hd => rfl); (case hg => rfl); (case hr => first | (go_simp; done) | (go_simp; rfl)); intro gb180 hg w9 hbox hb; have n0_ := Aside0.mk (Kd.V_below (Kd.V_elderB (by (with_reducible repeat (first | apply Kd.V_alloc | apply Kd.V_drewN | apply Kd.V_drew)); exact HO0.out) gb180 (Nat.le_of_eq hg.symm)) hb); have n1_ := Aside0.mk (below_step (by repeat (first | (with_reducible first | exact HB.out | apply below_alloc | apply pw_below_drewN | apply below_drew1) | exact HB.out)) hb); have n2_ := Aside0.mk (hbox); have n3_ := Aside0.mk ((by rw [hg]; exact (below_size (by repeat (first | (with_reducible first | exact HB.out | apply below_alloc | apply pw_below_drewN | apply below_drew1) | exact HB.out))) : w.heap.size ≤ gb180)); have n4_ := Aside0.mk ((by rw [hg]; exact (below_size (by repeat (first | (with_reducible first | exact HB.out | apply below_alloc | apply pw_below_drewN | apply below_drew1) | exact HB.out))) : w.heap.size ≤ gb180)); clear HO0; clear HB; have HO0 := n0_; have HB := n1_; have BK180 := n2_; have GW180 := n3_; have GE180 := n4_; clear n0_ n1_ n2_ n3_ n4_; clear hb hbox hg) | ((with_reducible refine gate_callee (f := 19) rfl ?_); refine goesL_ (some 13) rfl rfl Try.func19 (by kernel_rfl) rfl #[] rfl (by (try simp only [List.map_toArray, List.map_cons, List.map_nil]); first | done | rfl | (simp only [List.length_drop, List.length_take]; rfl)) ?_; (with_reducible refine (kissgatelaw17_alive.calls k  true _ A5.out).mono ?_); rintro e w10 ⟨rfl, hb⟩; refine ⟨_, rfl, ?_⟩; have n0_ := Aside0.mk (Kd.V_below (by (with_reducible repeat (first | apply Kd.V_alloc | apply Kd.V_drewN | apply Kd.V_drew)); exact HO0.out) hb); have n1_ := Aside0.mk (blk_below (g := gb180) (o := .cells #[.int .i64 a1_0, .int .i64 a1_1] 38 (0, 0)) (by (with_reducible repeat (first | refine blk_drewN ?_ _ | refine blk_drew ?_ | refine blk_alloc ?_ _)); exact BK180.out) hb); have n2_ := Aside0.mk (below_step (by repeat (first | (with_reducible first | exact HB.out | apply below_alloc | apply pw_below_drewN | apply below_drew1 | refine below_set ?_ GE180.out) | exact HB.out)) hb); clear HO0; clear BK180; clear HB; have HO0 := n0_; have BK180 := n1_; have HB := n2_; clear n0_ n1_ n2_; (try clear hb); (try clear hb2); (try clear hk); (try clear hi)) | ((with_reducible refine gate_callee (f := 20) rfl ?_); refine goesL_ (some 17) rfl rfl Try.func20 (by kernel_rfl) rfl #[.slice A0 l0.length c0] rfl (by (try simp only [List.map_toArray, List.map_cons, List.map_nil]); first | done | rfl | (simp only [List.length_drop, List.length_take]; rfl)) ?_; (with_reducible refine (kissgatelaw17_plain.calls k (fun k_ => ((P0_ k_ ∨ w.heap.size ≤ k_) ∧ k_ ≠ gb180)) _ _ l0 t182 t185 _ ?side1 A7.out).mono ?_); (case side1 => exact HO0.out); rintro e w11 ⟨v183, rfl, ho0, hb⟩; refine ⟨_, rfl, ?_⟩; have n0_ := Aside0.mk (Kd.V_elder' (by (with_reducible repeat (first | apply Kd.V_alloc | apply Kd.V_drewN | apply Kd.V_drew)); exact HO0.out) (Kd.N_base ho0) hb); have n1_ := Aside0.mk (Kd.N_lower (Kd.N_mono (ok' := fun k_ => (P0_ k_ ∨ w.heap.size ≤ k_) ∧ k_ ≠ gb180) ho0 (fun k_ hk_ => ⟨Or.elim hk_ (fun hs_ => hs_.1) (fun hn_ => (.inr (Nat.le_trans (below_size (by repeat (first | (with_reducible first | exact HB.out | apply below_alloc | apply pw_below_drewN | apply below_drew1 | refine below_set ?_ GE180.out) | exact HB.out))) hn_))), Or.elim hk_ (fun hs_ => hs_.2) (fun hn_ => (Kd.freshB (g := gb180) (o := .cells #[.int .i64 a1_0, .int .i64 a1_1] 38 (0, 0)) (by (with_reducible repeat (first | refine blk_drewN ?_ _ | refine blk_drew ?_ | refine blk_alloc ?_ _)); exact BK180.out) k_ hn_))⟩)) (below_size (by repeat (first | (with_reducible first | exact HB.out | apply below_alloc | apply pw_below_drewN | apply below_drew1 | refine below_set ?_ GE180.out) | exact HB.out)))); have n2_ := Aside0.mk (blk_below (g := gb180) (o := .cells #[.int .i64 a1_0, .int .i64 a1_1] 38 (0, 0)) (by (with_reducible repeat (first | refine blk_drewN ?_ _ | refine blk_drew ?_ | refine blk_alloc ?_ _)); exact BK180.out) hb); have n3_ := Aside0.mk (below_step (by repeat (first | (with_reducible first | exact HB.out | apply below_alloc | apply pw_below_drewN | apply below_drew1 | refine below_set ?_ GE180.out) | exact HB.out)) hb); clear HO0; clear BK180; clear HB; have HO0 := n0_; have HO184 := n1_; have BK180 := n2_; have HB := n3_; clear n0_ n1_ n2_ n3_; (try clear hb); (try clear hb2); (try clear hk); (try clear hi); (try clear ho0)))
    (try simp only [Act.put, List.setIfInBounds_toArray, List.set_cons_zero, List.set_cons_succ])
    go_cut [38] (fun v38 wc => ∃ (kq : Nat) (x38_7 : Bool), v38 = .bool x38_7 ∧ Aside0 (kissgatelaw17_SpreadClosed.j0 kq l0 a2 a3 x38_7 a1_0 a1_1 = some r) ∧ Aside0 (kq ≤ k) ∧ Aside0 (Kd.V k49 49 wc w.heap.size (fun k_ => (P0_ k_ ∨ w.heap.size ≤ k_) ∧ k_ ≠ gb180) (.slice A0 l0.length c0) l0) ∧ Aside0 (wc.heap[gb180]? = some (.cells #[.int .i64 a1_0, .int .i64 a1_1] 38 (0, 0))) ∧ Aside0 (Below w.heap.size w wc))
    case first =>
      have H := HC8.out
      clear HC8
      by_cases c12 : t185 = true
      · subst c12
        have H1 : (if a3 < 0 then (kissgatelaw17_SpreadClosed.j0 k l0 a2 a3 true a1_0 a1_1) else (if a3 ≥ (l0.length : Int) then (kissgatelaw17_SpreadClosed.j0 k l0 a2 a3 true a1_0 a1_1) else (if 0 ≤ a3 then (if a3 < (l0.length : Int) then (kissgatelaw17_SpreadClosed.j0 k l0 a2 a3 ((rd_T49 l0 a3).f0) a1_0 a1_1) else (none)) else (none)))) = some r := by rw [if_pos rfl] at H; exact H
        clear H
        have H := H1
        clear H1
        by_cases c13 : a3 < 0
        · rw [if_pos c13] at H
          have c13b0 : decide (a3 < 0) = true := decide_eq_true c13
          clear c13
          (first | rw [c13b0] | (simp only [i64_w, i32_w]; rw [c13b0]) | skip)
          have H' := Aside0.mk H
          clear H
          go_wp2
          go_meet
          case rel => exact ⟨_, (true), (by first | rfl | (simp; done) | (simp [*]; done)), H', ⟨by first | omega | exact Nat.le_refl _⟩, ⟨by (with_reducible repeat (first | apply Kd.V_alloc | apply Kd.V_drewN | apply Kd.V_drew)); exact Kd.V_mono HO0.out (fun _ hk => ⟨hk.1.1, hk.1.2⟩)⟩, ⟨by (with_reducible repeat (first | refine blk_drewN ?_ _ | refine blk_drew ?_ | refine blk_alloc ?_ _)); exact BK180.out⟩, ⟨by repeat (first | (with_reducible first | exact HB.out | apply below_alloc | apply pw_below_drewN | apply below_drew1 | refine below_set ?_ GE180.out) | exact HB.out)⟩⟩
        · rw [if_neg c13] at H
          have c13b0 : decide (a3 < 0) = false := decide_eq_false c13
          clear c13
          (first | rw [c13b0] | (simp only [i64_w, i32_w]; rw [c13b0]) | skip)
          by_cases c14 : a3 ≥ (l0.length : Int)
          · rw [if_pos c14] at H
            have c14b0 : decide ((l0.length : Int) ≤ a3) = true := decide_eq_true c14
            clear c14
            have H' := Aside0.mk H
            clear H
            go_wp2
            go_meet
            case rel => exact ⟨_, (true), (by first | rfl | (simp; done) | (simp [*]; done)), H', ⟨by first | omega | exact Nat.le_refl _⟩, ⟨by (with_reducible repeat (first | apply Kd.V_alloc | apply Kd.V_drewN | apply Kd.V_drew)); exact Kd.V_mono HO0.out (fun _ hk => ⟨hk.1.1, hk.1.2⟩)⟩, ⟨by (with_reducible repeat (first | refine blk_drewN ?_ _ | refine blk_drew ?_ | refine blk_alloc ?_ _)); exact BK180.out⟩, ⟨by repeat (first | (with_reducible first | exact HB.out | apply below_alloc | apply pw_below_drewN | apply below_drew1 | refine below_set ?_ GE180.out) | exact HB.out)⟩⟩
          · rw [if_neg c14] at H
            have c14b0 : decide ((l0.length : Int) ≤ a3) = false := decide_eq_false c14
            clear c14
            by_cases c15 : 0 ≤ a3
            · rw [if_pos c15] at H
              have c15b0 : decide (0 ≤ a3) = true := decide_eq_true c15
              clear c15
              by_cases c16 : a3 < (l0.length : Int)
              · rw [if_pos c16] at H
                have c16b0 : decide (a3 < (l0.length : Int)) = true := decide_eq_true c16
                clear c16
                have H' := Aside0.mk H
                clear H
                have p186 : 0 ≤ (a3 : Int) := of_decide_eq_true (by first | (with_reducible assumption) | assumption)
                have q186 : a3 < (l0.length : Int) := of_decide_eq_true (by first | (with_reducible assumption) | assumption)
                obtain ⟨ad186, A186_1, c186_1, A186_2, c186_2, e186, hx186_0, hx186_1, hx186_2, hl186_1, hi186_1, hl186_2, hi186_2⟩ := at_T49 (Kd.V_reads' HO0.out).2.2 a3 p186 q186
                cases e186
                obtain ⟨ce186, hce186, hMe186, hcc186⟩ := Kd.V_get HO0.out z49 a3 p186 (by first | exact q186 | exact of_decide_eq_true (by first | (with_reducible assumption) | assumption) | (have e_ := (Kd.V_reads' HO0.out).1; omega))
                obtain ⟨ua186_1, uc186_1, ua186_2, uc186_2, rfl, ul186_1, ge186_1, ul186_2, ge186_2⟩ := k49_openF hMe186
                have hv186_1 := hcc186 1 _ rfl
                rw [add_field _ _ 1 (by omega)] at hv186_1
                replace hv186_1 := Option.some.inj (hv186_1.symm.trans hx186_1)
                injection hv186_1 with hva_ hvn_ hvc_
                rw [hva_] at ge186_1
                rw [hvc_] at ul186_1
                have HL186_1 := Aside0.mk (show Kd.V k38 38 _ w.heap.size _ _ ((rd_T49 l0 a3).f1) from Kd.V_mk ul186_1 ge186_1)
                clear hva_ hvn_ hvc_ ge186_1 ul186_1
                have hv186_2 := hcc186 2 _ rfl
                rw [add_field _ _ 2 (by omega)] at hv186_2
                replace hv186_2 := Option.some.inj (hv186_2.symm.trans hx186_2)
                injection hv186_2 with hva_ hvn_ hvc_
                rw [hva_] at ge186_2
                rw [hvc_] at ul186_2
                have HL186_2 := Aside0.mk (show Kd.V (Kd.int .i64) 3 _ w.heap.size _ _ ((rd_T49 l0 a3).f2) from Kd.V_mk ul186_2 ge186_2)
                clear hva_ hvn_ hvc_ ge186_2 ul186_2
                clear hcc186 hce186
                have HR186_1 := Aside0.mk hi186_1
                have HC186_1 := Aside0.mk hl186_1
                clear hi186_1 hl186_1
                have HR186_2 := Aside0.mk hi186_2
                have HC186_2 := Aside0.mk hl186_2
                clear hi186_2 hl186_2
                replace p186 := eq_true p186
                replace q186 := eq_true q186
                go_wp2
                go_meet
                case rel => exact ⟨_, ((rd_T49 l0 a3).f0), (by first | rfl | (simp; done) | (simp [*]; done)), H', ⟨by first | omega | exact Nat.le_refl _⟩, ⟨by (with_reducible repeat (first | apply Kd.V_alloc | apply Kd.V_drewN | apply Kd.V_drew)); exact Kd.V_mono HO0.out (fun _ hk => ⟨hk.1.1, hk.1.2⟩)⟩, ⟨by (with_reducible repeat (first | refine blk_drewN ?_ _ | refine blk_drew ?_ | refine blk_alloc ?_ _)); exact BK180.out⟩, ⟨by repeat (first | (with_reducible first | exact HB.out | apply below_alloc | apply pw_below_drewN | apply below_drew1 | refine below_set ?_ GE180.out) | exact HB.out)⟩⟩
              · rw [if_neg c16] at H
                exact absurd H (by simp)
            · rw [if_neg c15] at H
              exact absurd H (by simp)
      · replace c12 := Bool.eq_false_iff.mpr c12
        subst c12
        have H1 : (kissgatelaw17_SpreadClosed.j0 k l0 a2 a3 true a1_0 a1_1) = some r := by rw [if_neg (show ¬ (false = true) by decide)] at H; exact H
        clear H
        have H := H1
        clear H1
        have H' := Aside0.mk H
        clear H
        go_wp2
        go_meet
        case rel => exact ⟨_, (true), (by first | rfl | (simp; done) | (simp [*]; done)), H', ⟨by first | omega | exact Nat.le_refl _⟩, ⟨by (with_reducible repeat (first | apply Kd.V_alloc | apply Kd.V_drewN | apply Kd.V_drew)); exact Kd.V_mono HO0.out (fun _ hk => ⟨hk.1.1, hk.1.2⟩)⟩, ⟨by (with_reducible repeat (first | refine blk_drewN ?_ _ | refine blk_drew ?_ | refine blk_alloc ?_ _)); exact BK180.out⟩, ⟨by repeat (first | (with_reducible first | exact HB.out | apply below_alloc | apply pw_below_drewN | apply below_drew1 | refine below_set ?_ GE180.out) | exact HB.out)⟩⟩
    case rest =>
      clear HC8
      try clear c1
      try clear p1
      try clear q1
      try clear hx1
      try clear c2
      try clear p2
      try clear c6
      try clear c7
      try clear c12
      try clear c13
      try clear c13b0
      try clear c14
      try clear c14b0
      try clear c15
      try clear c15b0
      try clear c16
      try clear c16b0
      try clear hx186_0
      try clear hx186_1
      try clear hx186_2
      try clear p186
      try clear q186
      obtain ⟨kq, x38_7, rfl, HA, HJ7, HO_0, BK180, HB⟩ := hcut
      cases kq with
      | zero => exact absurd HA.out (by simp [kissgatelaw17_SpreadClosed.j0])
      | succ kj7 =>
        have H := HA.out
        clear HA
        simp only [kissgatelaw17_SpreadClosed.j0] at H
        by_cases c17 : x38_7 = true
        · subst c17
          have H1 : (some true) = some r := by rw [if_pos rfl] at H; exact H
          clear H
          have H := H1
          clear H1
          obtain rfl := Option.some.inj H
          go_wp2
          go_ret
          exact ⟨by first | rfl | (simp [errW_none, errW_some] <;> rfl) | (simp [*, errW_none, errW_some] <;> rfl), by repeat (first | (with_reducible first | exact HB.out | apply below_alloc | apply pw_below_drewN | apply below_drew1 | refine below_set ?_ GE180.out) | exact HB.out)⟩
        · replace c17 := Bool.eq_false_iff.mpr c17
          subst c17
          have H1 : ((spread_Wants.f kj7 l0 a1_0 a1_1 a2).bind fun t187 => ((some (([] : List (S49)) : List (S49))).bind fun y190 => (if 0 ≤ a3 then (if a3 ≤ (l0.length : Int) then ((some (l0.take (a3 : Int).toNat : List (S49))).bind fun y193 => (if y190.length + y193.length < 2513169434916 then ((some (y190 ++ y193 : List (S49))).bind fun y198 => (if 0 ≤ (wrap64 (a3 + 1)) then (if (wrap64 (a3 + 1)) ≤ (l0.length : Int) then ((some (l0.drop ((wrap64 (a3 + 1)) : Int).toNat : List (S49))).bind fun y201 => (if y198.length + y201.length < 2513169434916 then ((spread_Wants.f kj7 (y198 ++ y201) a1_0 a1_1 a2).bind fun t209 => (if a3 < (t187.length : Int) then (if (rd t187 a3) = (-1) then ((some (([] : List Int) : List Int)).bind fun y213 => (if a3 ≤ (t187.length : Int) then ((some (t187.take (a3 : Int).toNat : List Int)).bind fun y216 => (if y213.length + y216.length < 17592186044416 then ((some (y213 ++ y216 : List Int)).bind fun y221 => (if (wrap64 (a3 + 1)) ≤ (t187.length : Int) then ((some (t187.drop ((wrap64 (a3 + 1)) : Int).toNat : List Int)).bind fun y224 => (if y221.length + y224.length < 17592186044416 then ((kissgateref06_Same.f kj7 (y221 ++ y224) t209).bind fun t232 => (some t232)) else (none))) else (none))) else (none))) else (none))) else (some false)) else (none))) else (none))) else (none)) else (none))) else (none))) else (none)) else (none)))) = some r := by rw [if_neg (show ¬ (false = true) by decide)] at H; exact H
          clear H
          have H := H1
          clear H1
          replace H := Option.bind_eq_some_iff.mp H
          obtain ⟨t187, A180, H⟩ := H
          replace H : ((some (([] : List (S49)) : List (S49))).bind fun y190 => (if 0 ≤ a3 then (if a3 ≤ (l0.length : Int) then ((some (l0.take (a3 : Int).toNat : List (S49))).bind fun y193 => (if y190.length + y193.length < 2513169434916 then ((some (y190 ++ y193 : List (S49))).bind fun y198 => (if 0 ≤ (wrap64 (a3 + 1)) then (if (wrap64 (a3 + 1)) ≤ (l0.length : Int) then ((some (l0.drop ((wrap64 (a3 + 1)) : Int).toNat : List (S49))).bind fun y201 => (if y198.length + y201.length < 2513169434916 then ((spread_Wants.f kj7 (y198 ++ y201) a1_0 a1_1 a2).bind fun t209 => (if a3 < (t187.length : Int) then (if (rd t187 a3) = (-1) then ((some (([] : List Int) : List Int)).bind fun y213 => (if a3 ≤ (t187.length : Int) then ((some (t187.take (a3 : Int).toNat : List Int)).bind fun y216 => (if y213.length + y216.length < 17592186044416 then ((some (y213 ++ y216 : List Int)).bind fun y221 => (if (wrap64 (a3 + 1)) ≤ (t187.length : Int) then ((some (t187.drop ((wrap64 (a3 + 1)) : Int).toNat : List Int)).bind fun y224 => (if y221.length + y224.length < 17592186044416 then ((kissgateref06_Same.f kj7 (y221 ++ y224) t209).bind fun t232 => (some t232)) else (none))) else (none))) else (none))) else (none))) else (some false)) else (none))) else (none))) else (none)) else (none))) else (none))) else (none)) else (none))) = some r := H
          have A18 := Aside0.mk A180
          clear A180
          obtain ⟨y190, hy190⟩ : ∃ y_ : List (S49), y_ = (([] : List (S49))) := ⟨_, rfl⟩
          replace H : (if 0 ≤ a3 then (if a3 ≤ (l0.length : Int) then ((some (l0.take (a3 : Int).toNat : List (S49))).bind fun y193 => (if y190.length + y193.length < 2513169434916 then ((some (y190 ++ y193 : List (S49))).bind fun y198 => (if 0 ≤ (wrap64 (a3 + 1)) then (if (wrap64 (a3 + 1)) ≤ (l0.length : Int) then ((some (l0.drop ((wrap64 (a3 + 1)) : Int).toNat : List (S49))).bind fun y201 => (if y198.length + y201.length < 2513169434916 then ((spread_Wants.f kj7 (y198 ++ y201) a1_0 a1_1 a2).bind fun t209 => (if a3 < (t187.length : Int) then (if (rd t187 a3) = (-1) then ((some (([] : List Int) : List Int)).bind fun y213 => (if a3 ≤ (t187.length : Int) then ((some (t187.take (a3 : Int).toNat : List Int)).bind fun y216 => (if y213.length + y216.length < 17592186044416 then ((some (y213 ++ y216 : List Int)).bind fun y221 => (if (wrap64 (a3 + 1)) ≤ (t187.length : Int) then ((some (t187.drop ((wrap64 (a3 + 1)) : Int).toNat : List Int)).bind fun y224 => (if y221.length + y224.length < 17592186044416 then ((kissgateref06_Same.f kj7 (y221 ++ y224) t209).bind fun t232 => (some t232)) else (none))) else (none))) else (none))) else (none))) else (some false)) else (none))) else (none))) else (none)) else (none))) else (none))) else (none)) else (none)) = some r := by first | (rw [hy190]; with_reducible exact H) | (have H2_ := (Option.bind_some _ _).symm.trans H; rw [hy190]; with_reducible exact H2_) | (have H2_ := (Option.bind_some _ _).symm.trans H; with_reducible exact H2_) | with_reducible exact H | (rw [hy190]; exact H) | exact H
          have Ny190 := Aside0.mk hy190
          clear hy190
          by_cases c19 : 0 ≤ a3
          · rw [if_pos c19] at H
            have c19b0 := eq_true c19
            have c19b1 : decide (0 ≤ a3) = true := decide_eq_true c19
            clear c19
            by_cases c20 : a3 ≤ (l0.length : Int)
            · rw [if_pos c20] at H
              have c20b0 := eq_true c20
              have c20b1 : decide (a3 ≤ (l0.length : Int)) = true := decide_eq_true c20
              clear c20
              obtain ⟨y193, hy193⟩ : ∃ y_ : List (S49), y_ = (l0.take (a3 : Int).toNat) := ⟨_, rfl⟩
              replace H : (if y190.length + y193.length < 2513169434916 then ((some (y190 ++ y193 : List (S49))).bind fun y198 => (if 0 ≤ (wrap64 (a3 + 1)) then (if (wrap64 (a3 + 1)) ≤ (l0.length : Int) then ((some (l0.drop ((wrap64 (a3 + 1)) : Int).toNat : List (S49))).bind fun y201 => (if y198.length + y201.length < 2513169434916 then ((spread_Wants.f kj7 (y198 ++ y201) a1_0 a1_1 a2).bind fun t209 => (if a3 < (t187.length : Int) then (if (rd t187 a3) = (-1) then ((some (([] : List Int) : List Int)).bind fun y213 => (if a3 ≤ (t187.length : Int) then ((some (t187.take (a3 : Int).toNat : List Int)).bind fun y216 => (if y213.length + y216.length < 17592186044416 then ((some (y213 ++ y216 : List Int)).bind fun y221 => (if (wrap64 (a3 + 1)) ≤ (t187.length : Int) then ((some (t187.drop ((wrap64 (a3 + 1)) : Int).toNat : List Int)).bind fun y224 => (if y221.length + y224.length < 17592186044416 then ((kissgateref06_Same.f kj7 (y221 ++ y224) t209).bind fun t232 => (some t232)) else (none))) else (none))) else (none))) else (none))) else (some false)) else (none))) else (none))) else (none)) else (none))) else (none)) = some r := by first | (rw [hy193]; with_reducible exact H) | (have H2_ := (Option.bind_some _ _).symm.trans H; rw [hy193]; with_reducible exact H2_) | (have H2_ := (Option.bind_some _ _).symm.trans H; with_reducible exact H2_) | with_reducible exact H | (rw [hy193]; exact H) | exact H
              have Ny193 := Aside0.mk hy193
              clear hy193
              by_cases c21 : y190.length + y193.length < 2513169434916
              · rw [if_pos c21] at H
                have LMc21 := Aside0.mk c21
                clear c21
                obtain ⟨y198, hy198⟩ : ∃ y_ : List (S49), y_ = (y190 ++ y193) := ⟨_, rfl⟩
                replace H : (if 0 ≤ (wrap64 (a3 + 1)) then (if (wrap64 (a3 + 1)) ≤ (l0.length : Int) then ((some (l0.drop ((wrap64 (a3 + 1)) : Int).toNat : List (S49))).bind fun y201 => (if y198.length + y201.length < 2513169434916 then ((spread_Wants.f kj7 (y198 ++ y201) a1_0 a1_1 a2).bind fun t209 => (if a3 < (t187.length : Int) then (if (rd t187 a3) = (-1) then ((some (([] : List Int) : List Int)).bind fun y213 => (if a3 ≤ (t187.length : Int) then ((some (t187.take (a3 : Int).toNat : List Int)).bind fun y216 => (if y213.length + y216.length < 17592186044416 then ((some (y213 ++ y216 : List Int)).bind fun y221 => (if (wrap64 (a3 + 1)) ≤ (t187.length : Int) then ((some (t187.drop ((wrap64 (a3 + 1)) : Int).toNat : List Int)).bind fun y224 => (if y221.length + y224.length < 17592186044416 then ((kissgateref06_Same.f kj7 (y221 ++ y224) t209).bind fun t232 => (some t232)) else (none))) else (none))) else (none))) else (none))) else (some false)) else (none))) else (none))) else (none)) else (none)) = some r := by first | (rw [hy198]; with_reducible exact H) | (have H2_ := (Option.bind_some _ _).symm.trans H; rw [hy198]; with_reducible exact H2_) | (have H2_ := (Option.bind_some _ _).symm.trans H; with_reducible exact H2_) | with_reducible exact H | (rw [hy198]; exact H) | exact H
                have Ny198 := Aside0.mk hy198
                clear hy198
                obtain ⟨ji22, hji22⟩ : ∃ j_ : Int, (wrap64 (a3 + 1)) = j_ := ⟨_, rfl⟩
                replace H : (if 0 ≤ (ji22) then (if (ji22) ≤ (l0.length : Int) then ((some (l0.drop ((ji22) : Int).toNat : List (S49))).bind fun y201 => (if y198.length + y201.length < 2513169434916 then ((spread_Wants.f kj7 (y198 ++ y201) a1_0 a1_1 a2).bind fun t209 => (if a3 < (t187.length : Int) then (if (rd t187 a3) = (-1) then ((some (([] : List Int) : List Int)).bind fun y213 => (if a3 ≤ (t187.length : Int) then ((some (t187.take (a3 : Int).toNat : List Int)).bind fun y216 => (if y213.length + y216.length < 17592186044416 then ((some (y213 ++ y216 : List Int)).bind fun y221 => (if (ji22) ≤ (t187.length : Int) then ((some (t187.drop ((ji22) : Int).toNat : List Int)).bind fun y224 => (if y221.length + y224.length < 17592186044416 then ((kissgateref06_Same.f kj7 (y221 ++ y224) t209).bind fun t232 => (some t232)) else (none))) else (none))) else (none))) else (none))) else (some false)) else (none))) else (none))) else (none)) else (none)) = some r := by first | (rw [hji22] at H; exact H) | (simp only [hji22] at H ⊢; exact H)
                (try rw [hji22] at A18)
                have hji22w : (IntKind.i64.wrap (a3 + 1)) = ji22 := (i64_w _).trans hji22
                by_cases c23 : 0 ≤ (ji22)
                · rw [if_pos c23] at H
                  have c23b0 := eq_true c23
                  have c23b1 : decide (0 ≤ (ji22)) = true := decide_eq_true c23
                  clear c23
                  by_cases c24 : (ji22) ≤ (l0.length : Int)
                  · rw [if_pos c24] at H
                    have c24b0 := eq_true c24
                    have c24b1 : decide ((ji22) ≤ (l0.length : Int)) = true := decide_eq_true c24
                    clear c24
                    obtain ⟨y201, hy201⟩ : ∃ y_ : List (S49), y_ = (l0.drop ((ji22) : Int).toNat) := ⟨_, rfl⟩
                    replace H : (if y198.length + y201.length < 2513169434916 then ((spread_Wants.f kj7 (y198 ++ y201) a1_0 a1_1 a2).bind fun t209 => (if a3 < (t187.length : Int) then (if (rd t187 a3) = (-1) then ((some (([] : List Int) : List Int)).bind fun y213 => (if a3 ≤ (t187.length : Int) then ((some (t187.take (a3 : Int).toNat : List Int)).bind fun y216 => (if y213.length + y216.length < 17592186044416 then ((some (y213 ++ y216 : List Int)).bind fun y221 => (if (ji22) ≤ (t187.length : Int) then ((some (t187.drop ((ji22) : Int).toNat : List Int)).bind fun y224 => (if y221.length + y224.length < 17592186044416 then ((kissgateref06_Same.f kj7 (y221 ++ y224) t209).bind fun t232 => (some t232)) else (none))) else (none))) else (none))) else (none))) else (some false)) else (none))) else (none)) = some r := by first | (rw [hy201]; with_reducible exact H) | (have H2_ := (Option.bind_some _ _).symm.trans H; rw [hy201]; with_reducible exact H2_) | (have H2_ := (Option.bind_some _ _).symm.trans H; with_reducible exact H2_) | with_reducible exact H | (rw [hy201]; exact H) | exact H
                    have Ny201 := Aside0.mk hy201
                    clear hy201
                    by_cases c25 : y198.length + y201.length < 2513169434916
                    · rw [if_pos c25] at H
                      have LMc25 := Aside0.mk c25
                      clear c25
                      obtain ⟨y206, hy206⟩ : ∃ y_ : List (S49), y_ = (y198 ++ y201) := ⟨_, rfl⟩
                      replace H : ((spread_Wants.f kj7 y206 a1_0 a1_1 a2).bind fun t209 => (if a3 < (t187.length : Int) then (if (rd t187 a3) = (-1) then ((some (([] : List Int) : List Int)).bind fun y213 => (if a3 ≤ (t187.length : Int) then ((some (t187.take (a3 : Int).toNat : List Int)).bind fun y216 => (if y213.length + y216.length < 17592186044416 then ((some (y213 ++ y216 : List Int)).bind fun y221 => (if (ji22) ≤ (t187.length : Int) then ((some (t187.drop ((ji22) : Int).toNat : List Int)).bind fun y224 => (if y221.length + y224.length < 17592186044416 then ((kissgateref06_Same.f kj7 (y221 ++ y224) t209).bind fun t232 => (some t232)) else (none))) else (none))) else (none))) else (none))) else (some false)) else (none))) = some r := by first | (rw [hy206]; with_reducible exact H) | (have H2_ := (Option.bind_some _ _).symm.trans H; rw [hy206]; with_reducible exact H2_) | (have H2_ := (Option.bind_some _ _).symm.trans H; with_reducible exact H2_) | with_reducible exact H | (rw [hy206]; exact H) | exact H
                      have Ny206 := Aside0.mk hy206
                      clear hy206
                      replace H := Option.bind_eq_some_iff.mp H
                      obtain ⟨t209, A260, H⟩ := H
                      replace H : (if a3 < (t187.length : Int) then (if (rd t187 a3) = (-1) then ((some (([] : List Int) : List Int)).bind fun y213 => (if a3 ≤ (t187.length : Int) then ((some (t187.take (a3 : Int).toNat : List Int)).bind fun y216 => (if y213.length + y216.length < 17592186044416 then ((some (y213 ++ y216 : List Int)).bind fun y221 => (if (ji22) ≤ (t187.length : Int) then ((some (t187.drop ((ji22) : Int).toNat : List Int)).bind fun y224 => (if y221.length + y224.length < 17592186044416 then ((kissgateref06_Same.f kj7 (y221 ++ y224) t209).bind fun t232 => (some t232)) else (none))) else (none))) else (none))) else (none))) else (some false)) else (none)) = some r := H
                      have A26 := Aside0.mk A260
                      clear A260
                      by_cases c27 : a3 < (t187.length : Int)
                      · rw [if_pos c27] at H
                        have c27b0 : decide (a3 < (t187.length : Int)) = true := decide_eq_true c27
                        clear c27
                        by_cases c28 : (rd t187 a3) = (-1)
                        · rw [if_pos c28] at H
                          have c28b0 : ((rd t187 a3) == (-1)) = true := beq_iff_eq.mpr c28
                          have c28b1 : ((rd t187 a3) != (-1)) = false := bne_eq_false_iff_eq.mpr c28
                          clear c28
                          obtain ⟨y213, hy213⟩ : ∃ y_ : List Int, y_ = (([] : List Int)) := ⟨_, rfl⟩
                          replace H : (if a3 ≤ (t187.length : Int) then ((some (t187.take (a3 : Int).toNat : List Int)).bind fun y216 => (if y213.length + y216.length < 17592186044416 then ((some (y213 ++ y216 : List Int)).bind fun y221 => (if (ji22) ≤ (t187.length : Int) then ((some (t187.drop ((ji22) : Int).toNat : List Int)).bind fun y224 => (if y221.length + y224.length < 17592186044416 then ((kissgateref06_Same.f kj7 (y221 ++ y224) t209).bind fun t232 => (some t232)) else (none))) else (none))) else (none))) else (none)) = some r := by first | (rw [hy213]; with_reducible exact H) | (have H2_ := (Option.bind_some _ _).symm.trans H; rw [hy213]; with_reducible exact H2_) | (have H2_ := (Option.bind_some _ _).symm.trans H; with_reducible exact H2_) | with_reducible exact H | (rw [hy213]; exact H) | exact H
                          have Ny213 := Aside0.mk hy213
                          clear hy213
                          have c29b0 := eq_true (of_decide_eq_true (by first | (with_reducible assumption) | assumption) : 0 ≤ a3)
                          by_cases c30 : a3 ≤ (t187.length : Int)
                          · rw [if_pos c30] at H
                            have c30b0 := eq_true c30
                            have c30b1 : decide (a3 ≤ (t187.length : Int)) = true := decide_eq_true c30
                            clear c30
                            obtain ⟨y216, hy216⟩ : ∃ y_ : List Int, y_ = (t187.take (a3 : Int).toNat) := ⟨_, rfl⟩
                            replace H : (if y213.length + y216.length < 17592186044416 then ((some (y213 ++ y216 : List Int)).bind fun y221 => (if (ji22) ≤ (t187.length : Int) then ((some (t187.drop ((ji22) : Int).toNat : List Int)).bind fun y224 => (if y221.length + y224.length < 17592186044416 then ((kissgateref06_Same.f kj7 (y221 ++ y224) t209).bind fun t232 => (some t232)) else (none))) else (none))) else (none)) = some r := by first | (rw [hy216]; with_reducible exact H) | (have H2_ := (Option.bind_some _ _).symm.trans H; rw [hy216]; with_reducible exact H2_) | (have H2_ := (Option.bind_some _ _).symm.trans H; with_reducible exact H2_) | with_reducible exact H | (rw [hy216]; exact H) | exact H
                            have Ny216 := Aside0.mk hy216
                            clear hy216
                            by_cases c31 : y213.length + y216.length < 17592186044416
                            · rw [if_pos c31] at H
                              have LMc31 := Aside0.mk c31
                              clear c31
                              obtain ⟨y221, hy221⟩ : ∃ y_ : List Int, y_ = (y213 ++ y216) := ⟨_, rfl⟩
                              replace H : (if (ji22) ≤ (t187.length : Int) then ((some (t187.drop ((ji22) : Int).toNat : List Int)).bind fun y224 => (if y221.length + y224.length < 17592186044416 then ((kissgateref06_Same.f kj7 (y221 ++ y224) t209).bind fun t232 => (some t232)) else (none))) else (none)) = some r := by first | (rw [hy221]; with_reducible exact H) | (have H2_ := (Option.bind_some _ _).symm.trans H; rw [hy221]; with_reducible exact H2_) | (have H2_ := (Option.bind_some _ _).symm.trans H; with_reducible exact H2_) | with_reducible exact H | (rw [hy221]; exact H) | exact H
                              have Ny221 := Aside0.mk hy221
                              clear hy221
                              have c32b0 := eq_true (of_decide_eq_true (by first | (with_reducible assumption) | assumption) : 0 ≤ (ji22))
                              by_cases c33 : (ji22) ≤ (t187.length : Int)
                              · rw [if_pos c33] at H
                                have c33b0 := eq_true c33
                                have c33b1 : decide ((ji22) ≤ (t187.length : Int)) = true := decide_eq_true c33
                                clear c33
                                obtain ⟨y224, hy224⟩ : ∃ y_ : List Int, y_ = (t187.drop ((ji22) : Int).toNat) := ⟨_, rfl⟩
                                replace H : (if y221.length + y224.length < 17592186044416 then ((kissgateref06_Same.f kj7 (y221 ++ y224) t209).bind fun t232 => (some t232)) else (none)) = some r := by first | (rw [hy224]; with_reducible exact H) | (have H2_ := (Option.bind_some _ _).symm.trans H; rw [hy224]; with_reducible exact H2_) | (have H2_ := (Option.bind_some _ _).symm.trans H; with_reducible exact H2_) | with_reducible exact H | (rw [hy224]; exact H) | exact H
                                have Ny224 := Aside0.mk hy224
                                clear hy224
                                by_cases c34 : y221.length + y224.length < 17592186044416
                                · rw [if_pos c34] at H
                                  have LMc34 := Aside0.mk c34
                                  clear c34
                                  obtain ⟨y229, hy229⟩ : ∃ y_ : List Int, y_ = (y221 ++ y224) := ⟨_, rfl⟩
                                  replace H : ((kissgateref06_Same.f kj7 y229 t209).bind fun t232 => (some t232)) = some r := by first | (rw [hy229]; with_reducible exact H) | (have H2_ := (Option.bind_some _ _).symm.trans H; rw [hy229]; with_reducible exact H2_) | (have H2_ := (Option.bind_some _ _).symm.trans H; with_reducible exact H2_) | with_reducible exact H | (rw [hy229]; exact H) | exact H
                                  have Ny229 := Aside0.mk hy229
                                  clear hy229
                                  replace H := Option.bind_eq_some_iff.mp H
                                  obtain ⟨t232, A350, H⟩ := H
                                  replace H : (some t232) = some r := H
                                  have A35 := Aside0.mk A350
                                  clear A350
                                  obtain rfl := Option.some.inj H
                                  have hcz36_0 : wc.cell? ⟨gb180, 0, none⟩ = some (.int .i64 a1_0) := (blk_cell BK180.out 0).trans rfl
                                  have hcz36_1 : wc.cell? ⟨gb180, 1, none⟩ = some (.int .i64 a1_1) := (blk_cell BK180.out 1).trans rfl
                                  have hfz36_0 := blk_frozen BK180.out 0
                                  have hfz36_1 := blk_frozen BK180.out 1
                                  try go_wp2_with (first | ((with_reducible refine gate_callee (f := 21) rfl ?_); refine goesL_ (some 42) rfl rfl Try.func21 (by kernel_rfl) rfl #[.slice A0 l0.length c0, .agg #[.int .i64 a1_0, .int .i64 a1_1], .int .i64 a2] rfl (by (try simp only [List.map_toArray, List.map_cons, List.map_nil]); first | done | rfl | (simp only [List.length_drop, List.length_take]; rfl)) ?_; (with_reducible refine (spread_Wants.calls kj7 _ _ l0 a1_0 a1_1 a2 t187 _ ?side1 ?side2 A18.out).mono ?_); (case side1 => repeat (first | exact (Kd.V_reads' HO_0.out).2.2 | (with_reducible refine Kd.C_alloc ?_ _) | (with_reducible refine Kd.C_drewN ?_ _) | (with_reducible refine Kd.C_drew ?_))); (case side2 => exact (Kd.V_reads' HO_0.out).2.1); rintro e w37 ⟨v188, rfl, ho0, hb⟩; refine ⟨_, rfl, ?_⟩; have n0_ := Aside0.mk (Kd.V_elder' (by (with_reducible repeat (first | apply Kd.V_alloc | apply Kd.V_drewN | apply Kd.V_drew)); exact HO_0.out) (Kd.R_base ho0) hb); have n1_ := Aside0.mk (Kd.R_lower (Kd.R_newM (M := fun k_ => (w.heap.size ≤ k_)) ho0 (below_size (by repeat (first | (with_reducible first | exact HB.out | apply below_alloc | apply pw_below_drewN | apply below_drew1 | refine below_set ?_ GE180.out) | exact HB.out))) (fun k_ h_ => h_)) (below_size (by repeat (first | (with_reducible first | exact HB.out | apply below_alloc | apply pw_below_drewN | apply below_drew1 | refine below_set ?_ GE180.out) | exact HB.out)))); have n2_ := Aside0.mk (blk_below (g := gb180) (o := .cells #[.int .i64 a1_0, .int .i64 a1_1] 38 (0, 0)) (by (with_reducible repeat (first | refine blk_drewN ?_ _ | refine blk_drew ?_ | refine blk_alloc ?_ _)); exact BK180.out) hb); have n3_ := Aside0.mk (below_step (by repeat (first | (with_reducible first | exact HB.out | apply below_alloc | apply pw_below_drewN | apply below_drew1 | refine below_set ?_ GE180.out) | exact HB.out)) hb); clear HO_0; clear BK180; clear HB; have HO_0 := n0_; have HO189 := n1_; have BK180 := n2_; have HB := n3_; clear n0_ n1_ n2_ n3_; (try clear hb); (try clear hb2); (try clear hk); (try clear hi); (try clear ho0)))
                                  have n0_ := Aside0.mk (Kd.V_drew HO_0.out)
                                  have n1_ := Aside0.mk (Kd.R_drew HO189.out)
                                  have n2_ := Aside0.mk (blk_drew BK180.out)
                                  have n3_ := Aside0.mk (below_drew1 HB.out)
                                  clear HO_0
                                  clear HO189
                                  clear BK180
                                  clear HB
                                  have HO_0 := n0_
                                  have HO189 := n1_
                                  have BK180 := n2_
                                  have HB := n3_
                                  clear n0_ n1_ n2_ n3_
                                  have q39 : (a3 : Int) ≤ ((l0.length : Int) : Int) := of_decide_eq_true (by first | (with_reducible assumption) | assumption)
                                  obtain ⟨i039, hi039, _, hsz39, _⟩ := info_parts info49
                                  have hroom39 : l0.length ≤ c0 := (Kd.V_reads' HO_0.out).2.1
                                  have hC39 : Kd.F k49 _ _ A0 l0.length l0 := (Kd.V_at (base := w.heap.size) HO_0.out).2.2
                                  have hcut39 := cut_to (P := Try.prog) 36 49 .i64 Try.underlying36 hi039 A0 l0.length c0 a3 (of_decide_eq_true (by first | (with_reducible assumption) | assumption)) q39 hroom39
                                  have hr39 := Kd.F_take (m := (a3 : Int).toNat) hC39 (by omega)
                                  have hy39 : y193.length = (a3 : Int).toNat := (by rw [Ny193.out, List.length_take]; omega)
                                  rw [← Ny193.out] at hr39
                                  rw [← hy39] at hcut39
                                  have HO197 := Aside0.mk (show Kd.V k49 49 _ w.heap.size _ (.slice A0 y193.length c0) y193 from Kd.V_mk (by omega) hr39)
                                  have HC197 := Aside0.mk (show y193.length ≤ c0 from by omega)
                                  clear hr39 hC39 hroom39 hi039 hsz39
                                  have KY39 := Aside0.mk hy39
                                  clear hy39
                                  replace q39 := eq_true q39
                                  have q40 : ((ji22) : Int) ≤ ((l0.length : Int) : Int) := of_decide_eq_true (by first | (with_reducible assumption) | assumption)
                                  obtain ⟨i040, hi040, _, hsz40, _⟩ := info_parts info49
                                  have hroom40 : l0.length ≤ c0 := (Kd.V_reads' HO_0.out).2.1
                                  have hC40 : Kd.F k49 _ _ A0 l0.length l0 := (Kd.V_at (base := w.heap.size) HO_0.out).2.2
                                  have q040 : (0 : Int) ≤ ((ji22) : Int) := of_decide_eq_true (by first | (with_reducible assumption) | assumption)
                                  have hcut40 := cut_from (P := Try.prog) 36 49 .i64 Try.underlying36 hi040 3 hsz40 A0 l0.length c0 (ji22) q040 q40
                                  have hr40 := Kd.F_cut (m := ((ji22) : Int).toNat) (c := c0) hC40 (by omega) hroom40
                                  obtain ⟨A40, hA40⟩ : ∃ A1, A1 = (if c0 = ((ji22) : Int).toNat then A0 else (A0 : Option Addr).map (·.add (((ji22) : Int).toNat * 3))) := ⟨_, rfl⟩
                                  obtain ⟨c40, hc40⟩ : ∃ c1, c1 = c0 - ((ji22) : Int).toNat := ⟨_, rfl⟩
                                  have hy40 : y201.length = l0.length - ((ji22) : Int).toNat := (by rw [Ny201.out, List.length_drop] <;> omega)
                                  rw [show (l0).drop ((ji22) : Int).toNat = y201 from Ny201.out.symm] at hr40
                                  replace hr40 : Kd.F k49 _ _ A40 y201.length y201 := (by rw [hA40]; exact hr40)
                                  rw [← hy40, ← hA40, ← hc40] at hcut40
                                  have HO205 := Aside0.mk (show Kd.V k49 49 _ w.heap.size _ (.slice A40 y201.length c40) y201 from Kd.V_mk (by rw [hy40, hc40]; exact Nat.sub_le_sub_right hroom40 _) hr40)
                                  have HC205 := Aside0.mk (show y201.length ≤ c40 from by rw [hy40, hc40]; exact Nat.sub_le_sub_right hroom40 _)
                                  clear hr40 hC40 hroom40 hi040 hsz40 hc40
                                  have KY40 := Aside0.mk hy40
                                  have KA40 := Aside0.mk hA40
                                  clear hy40 hA40
                                  replace q40 := eq_true q40
                                  refine start_ (n := 14) (S := fun w' => w'.cell? ⟨gb180, 0, none⟩ = some (.int .i64 a1_0) ∧ w'.cell? ⟨gb180, 1, none⟩ = some (.int .i64 a1_1)) (ds := []) #[false, false, false, false, false, false, false, false, false, false, false, false, false, false] (by kernel_rfl) rfl rfl ⟨(blk_cell BK180.out 0).trans rfl, (blk_cell BK180.out 1).trans rfl⟩ (fun hHeld => ?_); refine with_tabW kissgatelaw17_SpreadClosed.tab7 kissgatelaw17_SpreadClosed.bits7 (fun HT_ HW_ => ?_)
                                  generalize w37.drew = w38 at HO_0 HO189 BK180 HB HO197 HO205 hHeld ⊢
                                  refine pure_ (i := 1) (N := some 44) (v := ?_) (a' := ?_) #[false, true, false, false, false, false, false, false, false, false, false, false, false, false] rfl rfl (any_of HT_.out (by kernel_rfl)) (fun _ _ _ h => h) (Or.inl ⟨by rfl, ?_⟩) ?_ ?_
                                  rotate_left
                                  · intro w'
                                    go_simp
                                    with_reducible rfl
                                  rotate_left
                                  · simp only [Act.put, List.setIfInBounds_toArray, List.set_cons_zero, List.set_cons_succ, i64_w, i32_w]
                                    rfl
                                  refine pure_ (i := 2) (N := some 45) (v := ?_) (a' := ?_) #[false, true, true, false, false, false, false, false, false, false, false, false, false, false] rfl rfl (any_of HT_.out (by kernel_rfl)) (fun _ _ _ h => h) (Or.inl ⟨by rfl, ?_⟩) ?_ ?_
                                  rotate_left
                                  · intro w'
                                    go_simp
                                    with_reducible rfl
                                  rotate_left
                                  · simp only [Act.put, List.setIfInBounds_toArray, List.set_cons_zero, List.set_cons_succ, i64_w, i32_w]
                                    rfl
                                  refine pure_ (i := 3) (N := some 46) (v := ?_) (a' := ?_) #[false, true, true, true, false, false, false, false, false, false, false, false, false, false] rfl rfl (any_of HT_.out (by kernel_rfl)) (fun _ _ _ h => h) (Or.inl ⟨by rfl, ?_⟩) ?_ ?_
                                  rotate_left
                                  · intro w'
                                    go_simp
                                    with_reducible rfl
                                  rotate_left
                                  · simp only [Act.put, List.setIfInBounds_toArray, List.set_cons_zero, List.set_cons_succ, i64_w, i32_w]
                                    rfl
                                  refine pure_ (i := 5) (N := some 48) (v := ?_) (a' := ?_) #[false, true, true, true, false, true, false, false, false, false, false, false, false, false] rfl rfl (any_of HT_.out (by kernel_rfl)) (fun _ _ _ h => h) (Or.inl ⟨by rfl, ?_⟩) ?_ ?_
                                  rotate_left
                                  · intro w'
                                    go_simp
                                    with_reducible rfl
                                  rotate_left
                                  · simp only [Act.put, List.setIfInBounds_toArray, List.set_cons_zero, List.set_cons_succ, i64_w, i32_w]
                                    rfl
                                  refine pure_ (i := 6) (N := some 49) (v := ?_) (a' := ?_) #[false, true, true, true, false, true, true, false, false, false, false, false, false, false] rfl rfl (any_of HT_.out (by kernel_rfl)) (fun _ _ _ h => h) (Or.inl ⟨by rfl, ?_⟩) ?_ ?_
                                  rotate_left
                                  · intro w'
                                    go_simp
                                    with_reducible rfl
                                  rotate_left
                                  · simp only [Act.put, List.setIfInBounds_toArray, List.set_cons_zero, List.set_cons_succ, i64_w, i32_w]
                                    rfl
                                  refine pure_ (i := 7) (N := some 50) (v := ?_) (a' := ?_) #[false, true, true, true, false, true, true, true, false, false, false, false, false, false] rfl rfl (any_of HT_.out (by kernel_rfl)) (fun _ _ _ h => h) (Or.inl ⟨by rfl, ?_⟩) ?_ ?_
                                  rotate_left
                                  · intro w'
                                    go_simp
                                    with_reducible rfl
                                  rotate_left
                                  · simp only [Act.put, List.setIfInBounds_toArray, List.set_cons_zero, List.set_cons_succ, i64_w, i32_w]
                                    rfl
                                  refine pure_ (i := 8) (N := some 51) (v := ?_) (a' := ?_) #[false, true, true, true, false, true, true, true, true, false, false, false, false, false] rfl rfl (any_of HT_.out (by kernel_rfl)) (fun _ _ _ h => h) (Or.inl ⟨by rfl, ?_⟩) ?_ ?_
                                  rotate_left
                                  · intro w'
                                    go_simp
                                    with_reducible rfl
                                  rotate_left
                                  · simp only [Act.put, List.setIfInBounds_toArray, List.set_cons_zero, List.set_cons_succ, i64_w, i32_w]
                                    rfl
                                  refine pure_ (i := 11) (N := some 54) (v := ?_) (a' := ?_) #[false, true, true, true, false, true, true, true, true, false, false, true, false, false] rfl rfl (any_of HT_.out (by kernel_rfl)) (fun _ _ _ h => h) (Or.inl ⟨by rfl, ?_⟩) ?_ ?_
                                  rotate_left
                                  · intro w'
                                    go_simp
                                    with_reducible rfl
                                  rotate_left
                                  · simp only [Act.put, List.setIfInBounds_toArray, List.set_cons_zero, List.set_cons_succ, i64_w, i32_w]
                                    rfl
                                  refine take_ (i := 10) (N := some 53) (v := ?_) (a' := ?_) #[false, true, true, true, false, true, true, true, true, false, true, true, false, false] rfl rfl (take_ofW HT_.out HW_.out (by kernel_rfl)) (fun _ _ _ h => h) (Or.inl ⟨by rfl, ?_⟩) hHeld ?_ ?_
                                  rotate_left
                                  · rintro w' ⟨s0, s1⟩
                                    go_simp
                                    with_reducible rfl
                                  rotate_left
                                  · simp only [Act.put, List.setIfInBounds_toArray, List.set_cons_zero, List.set_cons_succ, i64_w, i32_w]
                                    rfl
                                  refine one_ (i := 0) (N := some 43) #[true, true, true, true, false, true, true, true, true, false, true, true, false, false] rfl rfl (one_of HT_.out (by kernel_rfl)) (by decide) (fun K hK => ?_)
                                  refine Kd.N_lit_step k49 _ 49 ?hg (N' := 43) ?hd (xs := ([] : List (S49))) (inner := []) (ok := (fun k_ => (P0_ k_ ∨ w.heap.size ≤ k_) ∧ some k_ ≠ (v188 : Value).ownBlock ∧ k_ ≠ gb180)) (okp := (fun k_ => (P0_ k_ ∨ w.heap.size ≤ k_) ∧ some k_ ≠ (v188 : Value).ownBlock ∧ k_ ≠ gb180)) ?hr ?hp (fun _ hk => hk) ((show ∀ k_, w38.heap.size ≤ k_ → (fun k_ => (P0_ k_ ∨ w.heap.size ≤ k_) ∧ some k_ ≠ (v188 : Value).ownBlock ∧ k_ ≠ gb180) k_ from fun k_ hk => ⟨(.inr (Nat.le_trans (below_size (by repeat (first | (with_reducible first | exact HB.out | apply below_alloc | apply pw_below_drewN | apply below_drew1 | refine below_set ?_ GE180.out) | exact HB.out))) hk)), Kd.fresh' (Kd.R_lt (by (with_reducible repeat (first | apply Kd.R_alloc | apply Kd.R_drewN | apply Kd.R_drew)); exact HO189.out)) k_ hk, Kd.freshB (g := gb180) (o := .cells #[.int .i64 a1_0, .int .i64 a1_1] 38 (0, 0)) (by (with_reducible repeat (first | refine blk_drewN ?_ _ | refine blk_drew ?_ | refine blk_alloc ?_ _)); exact BK180.out) k_ hk⟩) _ (Nat.le_refl _)) (Below.refl _ _) (Nat.le_refl _) (by simp) ?_; (case hd => rfl); (case hg => rfl); (case hr => first | (go_simp; done) | (go_simp; rfl)); (case hp => exact (Reps.none _ _))
                                  intro v191 w41 ho42 hb hg_ hnew_
                                  clear hg_ hnew_
                                  (first | rw [← Ny190.out] at ho42 | (simp only [Int.reduceToNat] at ho42; rw [← Ny190.out] at ho42))
                                  have n0_ := Aside0.mk (Kd.V_elder' (by (with_reducible repeat (first | apply Kd.V_alloc | apply Kd.V_drewN | apply Kd.V_drew)); exact HO_0.out) (Kd.N_base ho42) hb)
                                  have n1_ := Aside0.mk (Kd.R_below (by (with_reducible repeat (first | apply Kd.R_alloc | apply Kd.R_drewN | apply Kd.R_drew)); exact HO189.out) hb)
                                  have n2_ := Aside0.mk (Kd.V_elder' (by (with_reducible repeat (first | apply Kd.V_alloc | apply Kd.V_drewN | apply Kd.V_drew)); exact HO197.out) (Kd.N_base ho42) hb)
                                  have n3_ := Aside0.mk (Kd.V_elder' (by (with_reducible repeat (first | apply Kd.V_alloc | apply Kd.V_drewN | apply Kd.V_drew)); exact HO205.out) (Kd.N_base ho42) hb)
                                  have n4_ := Aside0.mk (Kd.N_lower ho42 (below_size (by repeat (first | (with_reducible first | exact HB.out | apply below_alloc | apply pw_below_drewN | apply below_drew1 | refine below_set ?_ GE180.out) | exact HB.out))))
                                  have n5_ := Aside0.mk (blk_below (g := gb180) (o := .cells #[.int .i64 a1_0, .int .i64 a1_1] 38 (0, 0)) (by (with_reducible repeat (first | refine blk_drewN ?_ _ | refine blk_drew ?_ | refine blk_alloc ?_ _)); exact BK180.out) hb)
                                  have n6_ := Aside0.mk (below_step (by repeat (first | (with_reducible first | exact HB.out | apply below_alloc | apply pw_below_drewN | apply below_drew1 | refine below_set ?_ GE180.out) | exact HB.out)) hb)
                                  clear HO_0
                                  clear HO189
                                  clear HO197
                                  clear HO205
                                  clear BK180
                                  clear HB
                                  have HO_0 := n0_
                                  have HO189 := n1_
                                  have HO197 := n2_
                                  have HO205 := n3_
                                  have HO192 := n4_
                                  have BK180 := n5_
                                  have HB := n6_
                                  clear n0_ n1_ n2_ n3_ n4_ n5_ n6_
                                  clear hb ho42
                                  refine hK.out _ _ ⟨(blk_cell BK180.out 0).trans rfl, (blk_cell BK180.out 1).trans rfl⟩ (fun hHeld => ?_)
                                  clear hK K
                                  refine norm_ (a' := ?_) ?_ ?_
                                  rotate_left
                                  · show Act.put _ (some 43) _ = _
                                    simp only [Act.put, List.setIfInBounds_toArray, List.set_cons_zero, List.set_cons_succ, i64_w, i32_w]
                                    rfl
                                  refine one_ (i := 4) (N := some 47) #[true, true, true, true, true, true, true, true, true, false, true, true, false, false] rfl rfl (one_of HT_.out (by kernel_rfl)) (by decide) (fun K hK => ?_)
                                  refine Kd.N_append_rows_step k49 (w0 := w) w.heap.size (by rfl) (.tmp 43) (.tmp 46) 36 49 (.agg #[(.bool false), (.slice none 0 0), (.slice none 0 0)]) 56 rfl Try.underlying36 info49 rfl (by decide) (by omega) v191 y190 y193 _ _ _ (fun k_ => (P0_ k_ ∨ w.heap.size ≤ k_) ∧ some k_ ≠ (v188 : Value).ownBlock ∧ k_ ≠ gb180) (fun k_ => ((fun k_ => (P0_ k_ ∨ w.heap.size ≤ k_) ∧ some k_ ≠ (v188 : Value).ownBlock ∧ k_ ≠ gb180)) k_ ∧ some k_ ≠ (v191 : Value).ownBlock) rfl rfl ?aO ?aR (fun _ hk => hk) ?aF ?aB ?aS ?aL ?_
                                  (case aR => exact (by skip; exact Kd.V_F (Kd.V_mono (ok' := (fun k_ => ((fun k_ => (P0_ k_ ∨ w.heap.size ≤ k_) ∧ some k_ ≠ (v188 : Value).ownBlock ∧ k_ ≠ gb180)) k_ ∧ some k_ ≠ (v191 : Value).ownBlock)) (HO197.out) (fun k_ hk => ⟨⟨hk.1.1.1, ⟨hk.1.2, hk.1.1.2⟩⟩, hk.2⟩))))
                                  (case aB => exact (by repeat (first | (with_reducible first | exact HB.out | apply below_alloc | apply pw_below_drewN | apply below_drew1 | refine below_set ?_ GE180.out) | exact HB.out)))
                                  (case aF => exact (fun k_ hk => ⟨(.inr (Nat.le_trans (below_size (by repeat (first | (with_reducible first | exact HB.out | apply below_alloc | apply pw_below_drewN | apply below_drew1 | refine below_set ?_ GE180.out) | exact HB.out))) hk)), Kd.fresh' (Kd.R_lt (by (with_reducible repeat (first | apply Kd.R_alloc | apply Kd.R_drewN | apply Kd.R_drew)); exact HO189.out)) k_ hk, Kd.freshB (g := gb180) (o := .cells #[.int .i64 a1_0, .int .i64 a1_1] 38 (0, 0)) (by (with_reducible repeat (first | refine blk_drewN ?_ _ | refine blk_drew ?_ | refine blk_alloc ?_ _)); exact BK180.out) k_ hk⟩))
                                  (case aO => exact (by (with_reducible repeat (first | apply Kd.N_alloc | apply Kd.N_drewN | apply Kd.N_drew)); exact HO192.out))
                                  (case aS => exact (below_size (by repeat (first | (with_reducible first | exact HB.out | apply below_alloc | apply pw_below_drewN | apply below_drew1 | refine below_set ?_ GE180.out) | exact HB.out))))
                                  (case aL => have := LMc21.out; omega)
                                  intro v199 w43 ho hb hg hat
                                  rw [← Ny198.out] at ho
                                  have n0_ := Aside0.mk (Kd.V_afterv (ok := (fun k_ => (P0_ k_ ∨ w.heap.size ≤ k_) ∧ some k_ ≠ (v188 : Value).ownBlock ∧ k_ ≠ gb180)) (by (with_reducible repeat (first | apply Kd.V_alloc | apply Kd.V_drewN | apply Kd.V_drew)); exact Kd.V_mono HO_0.out (fun _ hk => ⟨⟨hk.1.1.1, ⟨hk.1.2, hk.1.1.2⟩⟩, hk.2⟩)) hg hat)
                                  have n1_ := Aside0.mk (blk_grown (g := gb180) (o := .cells #[.int .i64 a1_0, .int .i64 a1_1] 38 (0, 0)) (by (with_reducible repeat (first | refine blk_drewN ?_ _ | refine blk_drew ?_ | refine blk_alloc ?_ _)); exact BK180.out) hg (Kd.N_ne HO192.out BK180.out (by decide)))
                                  have n2_ := Aside0.mk (Kd.R_over' (by (with_reducible repeat (first | apply Kd.R_alloc | apply Kd.R_drewN | apply Kd.R_drew)); exact HO189.out) (Kd.N_typed (by (with_reducible repeat (first | apply Kd.N_alloc | apply Kd.N_drewN | apply Kd.N_drew)); exact HO192.out)) (by decide) hg)
                                  have n3_ := Aside0.mk (Kd.V_afterv (ok := (fun k_ => (P0_ k_ ∨ w.heap.size ≤ k_) ∧ some k_ ≠ (v188 : Value).ownBlock ∧ k_ ≠ gb180)) (by (with_reducible repeat (first | apply Kd.V_alloc | apply Kd.V_drewN | apply Kd.V_drew)); exact Kd.V_mono HO197.out (fun _ hk => ⟨⟨hk.1.1.1, ⟨hk.1.2, hk.1.1.2⟩⟩, hk.2⟩)) hg hat)
                                  have n4_ := Aside0.mk (Kd.V_afterv (ok := (fun k_ => (P0_ k_ ∨ w.heap.size ≤ k_) ∧ some k_ ≠ (v188 : Value).ownBlock ∧ k_ ≠ gb180)) (by (with_reducible repeat (first | apply Kd.V_alloc | apply Kd.V_drewN | apply Kd.V_drew)); exact Kd.V_mono HO205.out (fun _ hk => ⟨⟨hk.1.1.1, ⟨hk.1.2, hk.1.1.2⟩⟩, hk.2⟩)) hg hat)
                                  have n5_ := Aside0.mk (hb)
                                  have n6_ := Aside0.mk (ho)
                                  clear HO_0
                                  clear BK180
                                  clear HO189
                                  clear HO197
                                  clear HO205
                                  clear HB
                                  clear HO192
                                  have HO_0 := n0_
                                  have BK180 := n1_
                                  have HO189 := n2_
                                  have HO197 := n3_
                                  have HO205 := n4_
                                  have HB := n5_
                                  have HO200 := n6_
                                  clear n0_ n1_ n2_ n3_ n4_ n5_ n6_
                                  clear ho hb hg hat
                                  refine hK.out _ _ ⟨(blk_cell BK180.out 0).trans rfl, (blk_cell BK180.out 1).trans rfl⟩ (fun hHeld => ?_)
                                  clear hK K
                                  refine norm_ (a' := ?_) ?_ ?_
                                  rotate_left
                                  · show Act.put _ (some 47) _ = _
                                    simp only [Act.put, List.setIfInBounds_toArray, List.set_cons_zero, List.set_cons_succ, i64_w, i32_w]
                                    rfl
                                  refine one_ (i := 9) (N := some 52) #[true, true, true, true, true, true, true, true, true, true, true, true, false, false] rfl rfl (one_of HT_.out (by kernel_rfl)) (by decide) (fun K hK => ?_)
                                  refine Kd.N_append_rows_step k49 (w0 := w) w.heap.size (by rfl) (.tmp 47) (.tmp 51) 36 49 (.agg #[(.bool false), (.slice none 0 0), (.slice none 0 0)]) 56 rfl Try.underlying36 info49 rfl (by decide) (by omega) v199 y198 y201 _ _ _ (fun k_ => (P0_ k_ ∨ w.heap.size ≤ k_) ∧ some k_ ≠ (v188 : Value).ownBlock ∧ k_ ≠ gb180) (fun k_ => ((fun k_ => (P0_ k_ ∨ w.heap.size ≤ k_) ∧ some k_ ≠ (v188 : Value).ownBlock ∧ k_ ≠ gb180)) k_ ∧ some k_ ≠ (v199 : Value).ownBlock) rfl rfl ?aO ?aR (fun _ hk => hk) ?aF ?aB ?aS ?aL ?_
                                  (case aR => exact (by skip; exact Kd.V_F (Kd.V_mono (ok' := (fun k_ => ((fun k_ => (P0_ k_ ∨ w.heap.size ≤ k_) ∧ some k_ ≠ (v188 : Value).ownBlock ∧ k_ ≠ gb180)) k_ ∧ some k_ ≠ (v199 : Value).ownBlock)) (HO205.out) (fun k_ hk => ⟨⟨hk.1.1, ⟨hk.1.2.1, hk.1.2.2⟩⟩, hk.2⟩))))
                                  (case aB => exact (by repeat (first | (with_reducible first | exact HB.out | apply below_alloc | apply pw_below_drewN | apply below_drew1 | refine below_set ?_ GE180.out) | exact HB.out)))
                                  (case aF => exact (fun k_ hk => ⟨(.inr (Nat.le_trans (below_size (by repeat (first | (with_reducible first | exact HB.out | apply below_alloc | apply pw_below_drewN | apply below_drew1 | refine below_set ?_ GE180.out) | exact HB.out))) hk)), Kd.fresh' (Kd.R_lt (by (with_reducible repeat (first | apply Kd.R_alloc | apply Kd.R_drewN | apply Kd.R_drew)); exact HO189.out)) k_ hk, Kd.freshB (g := gb180) (o := .cells #[.int .i64 a1_0, .int .i64 a1_1] 38 (0, 0)) (by (with_reducible repeat (first | refine blk_drewN ?_ _ | refine blk_drew ?_ | refine blk_alloc ?_ _)); exact BK180.out) k_ hk⟩))
                                  (case aO => exact (by (with_reducible repeat (first | apply Kd.N_alloc | apply Kd.N_drewN | apply Kd.N_drew)); exact HO200.out))
                                  (case aS => exact (below_size (by repeat (first | (with_reducible first | exact HB.out | apply below_alloc | apply pw_below_drewN | apply below_drew1 | refine below_set ?_ GE180.out) | exact HB.out))))
                                  (case aL => have := LMc25.out; omega)
                                  intro v207 w44 ho hb hg hat
                                  rw [← Ny206.out] at ho
                                  have n0_ := Aside0.mk (Kd.V_afterv (ok := (fun k_ => (P0_ k_ ∨ w.heap.size ≤ k_) ∧ some k_ ≠ (v188 : Value).ownBlock ∧ k_ ≠ gb180)) (by (with_reducible repeat (first | apply Kd.V_alloc | apply Kd.V_drewN | apply Kd.V_drew)); exact HO_0.out) hg hat)
                                  have n1_ := Aside0.mk (blk_grown (g := gb180) (o := .cells #[.int .i64 a1_0, .int .i64 a1_1] 38 (0, 0)) (by (with_reducible repeat (first | refine blk_drewN ?_ _ | refine blk_drew ?_ | refine blk_alloc ?_ _)); exact BK180.out) hg (Kd.N_ne HO200.out BK180.out (by decide)))
                                  have n2_ := Aside0.mk (Kd.R_over' (by (with_reducible repeat (first | apply Kd.R_alloc | apply Kd.R_drewN | apply Kd.R_drew)); exact HO189.out) (Kd.N_typed (by (with_reducible repeat (first | apply Kd.N_alloc | apply Kd.N_drewN | apply Kd.N_drew)); exact HO200.out)) (by decide) hg)
                                  have n3_ := Aside0.mk (Kd.V_afterv (ok := (fun k_ => (P0_ k_ ∨ w.heap.size ≤ k_) ∧ some k_ ≠ (v188 : Value).ownBlock ∧ k_ ≠ gb180)) (by (with_reducible repeat (first | apply Kd.V_alloc | apply Kd.V_drewN | apply Kd.V_drew)); exact HO197.out) hg hat)
                                  have n4_ := Aside0.mk (Kd.V_afterv (ok := (fun k_ => (P0_ k_ ∨ w.heap.size ≤ k_) ∧ some k_ ≠ (v188 : Value).ownBlock ∧ k_ ≠ gb180)) (by (with_reducible repeat (first | apply Kd.V_alloc | apply Kd.V_drewN | apply Kd.V_drew)); exact HO205.out) hg hat)
                                  have n5_ := Aside0.mk (hb)
                                  have n6_ := Aside0.mk (ho)
                                  clear HO_0
                                  clear BK180
                                  clear HO189
                                  clear HO197
                                  clear HO205
                                  clear HB
                                  clear HO200
                                  have HO_0 := n0_
                                  have BK180 := n1_
                                  have HO189 := n2_
                                  have HO197 := n3_
                                  have HO205 := n4_
                                  have HB := n5_
                                  have HO208 := n6_
                                  clear n0_ n1_ n2_ n3_ n4_ n5_ n6_
                                  clear ho hb hg hat
                                  obtain ⟨Ao45, co45, eo45⟩ := Kd.N_slice HO208.out
                                  (first | subst eo45 | (injection eo45 with f1_ f2_ f3_; have f4_ := f1_.symm; have f5_ := f3_.symm; clear f1_ f2_ f3_; subst f4_; subst f5_))
                                  refine hK.out _ _ ⟨(blk_cell BK180.out 0).trans rfl, (blk_cell BK180.out 1).trans rfl⟩ (fun hHeld => ?_)
                                  clear hK K
                                  refine norm_ (a' := ?_) ?_ ?_
                                  rotate_left
                                  · show Act.put _ (some 52) _ = _
                                    simp only [Act.put, List.setIfInBounds_toArray, List.set_cons_zero, List.set_cons_succ, i64_w, i32_w]
                                    rfl
                                  refine one_ (i := 12) (N := some 55) #[true, true, true, true, true, true, true, true, true, true, true, true, true, false] rfl rfl (one_of HT_.out (by kernel_rfl)) (by decide) (fun K hK => ?_)
                                  refine goes_ Try.func21 (by kernel_rfl) rfl #[.slice Ao45 y206.length co45, .agg #[.int .i64 a1_0, .int .i64 a1_1], .int .i64 a2] (by rfl) rfl rfl (by (try simp only [List.map_toArray, List.map_cons, List.map_nil]); first | done | rfl | (simp only [List.length_drop, List.length_take]; rfl)) ?_
                                  with_reducible refine (spread_Wants.calls kj7 _ _ y206 a1_0 a1_1 a2 t209 _ ?side1 ?side2 A26.out).mono ?_
                                  (case side1 => repeat (first | exact (Kd.N_reads' HO208.out).2.2 | (with_reducible refine Kd.C_alloc ?_ _) | (with_reducible refine Kd.C_drewN ?_ _) | (with_reducible refine Kd.C_drew ?_)))
                                  (case side2 => exact (Kd.N_reads' HO208.out).2.1)
                                  rintro e w46 ⟨v210, rfl, ho0, hb⟩
                                  refine ⟨_, rfl, ?_⟩
                                  have n0_ := Aside0.mk (Kd.V_elder' (by (with_reducible repeat (first | apply Kd.V_alloc | apply Kd.V_drewN | apply Kd.V_drew)); exact HO_0.out) (Kd.R_base ho0) hb)
                                  have n1_ := Aside0.mk (Kd.R_elder' (by (with_reducible repeat (first | apply Kd.R_alloc | apply Kd.R_drewN | apply Kd.R_drew)); exact HO189.out) (Kd.R_base ho0) hb)
                                  have n2_ := Aside0.mk (Kd.V_elder' (by (with_reducible repeat (first | apply Kd.V_alloc | apply Kd.V_drewN | apply Kd.V_drew)); exact HO197.out) (Kd.R_base ho0) hb)
                                  have n3_ := Aside0.mk (Kd.V_elder' (by (with_reducible repeat (first | apply Kd.V_alloc | apply Kd.V_drewN | apply Kd.V_drew)); exact HO205.out) (Kd.R_base ho0) hb)
                                  have n4_ := Aside0.mk (Kd.N_elder' (by (with_reducible repeat (first | apply Kd.N_alloc | apply Kd.N_drewN | apply Kd.N_drew)); exact HO208.out) (Kd.R_base ho0) hb)
                                  have n5_ := Aside0.mk (Kd.R_lower (Kd.R_new' (Kd.R_newM (M := fun k_ => (w.heap.size ≤ k_)) ho0 (below_size (by repeat (first | (with_reducible first | exact HB.out | apply below_alloc | apply pw_below_drewN | apply below_drew1 | refine below_set ?_ GE180.out) | exact HB.out))) (fun k_ h_ => h_)) (Kd.R_lt (by (with_reducible repeat (first | apply Kd.R_alloc | apply Kd.R_drewN | apply Kd.R_drew)); exact HO189.out))) (below_size (by repeat (first | (with_reducible first | exact HB.out | apply below_alloc | apply pw_below_drewN | apply below_drew1 | refine below_set ?_ GE180.out) | exact HB.out))))
                                  have n6_ := Aside0.mk (blk_below (g := gb180) (o := .cells #[.int .i64 a1_0, .int .i64 a1_1] 38 (0, 0)) (by (with_reducible repeat (first | refine blk_drewN ?_ _ | refine blk_drew ?_ | refine blk_alloc ?_ _)); exact BK180.out) hb)
                                  have n7_ := Aside0.mk (below_step (by repeat (first | (with_reducible first | exact HB.out | apply below_alloc | apply pw_below_drewN | apply below_drew1 | refine below_set ?_ GE180.out) | exact HB.out)) hb)
                                  clear HO_0
                                  clear HO189
                                  clear HO197
                                  clear HO205
                                  clear HO208
                                  clear BK180
                                  clear HB
                                  have HO_0 := n0_
                                  have HO189 := n1_
                                  have HO197 := n2_
                                  have HO205 := n3_
                                  have HO208 := n4_
                                  have HO211 := n5_
                                  have BK180 := n6_
                                  have HB := n7_
                                  clear n0_ n1_ n2_ n3_ n4_ n5_ n6_ n7_
                                  (try clear hb)
                                  (try clear hb2)
                                  (try clear hk)
                                  (try clear hi)
                                  (try clear ho0)
                                  refine hK.out _ _ ⟨(blk_cell BK180.out 0).trans rfl, (blk_cell BK180.out 1).trans rfl⟩ (fun hHeld => ?_)
                                  clear hK K
                                  refine norm_ (a' := ?_) ?_ ?_
                                  rotate_left
                                  · show Act.put _ (some 55) _ = _
                                    simp only [Act.put, List.setIfInBounds_toArray, List.set_cons_zero, List.set_cons_succ, i64_w, i32_w]
                                    rfl
                                  refine pure_ (i := 13) (N := some 12) (v := ?_) (a' := ?_) #[true, true, true, true, true, true, true, true, true, true, true, true, true, true] rfl rfl (any_of HT_.out (by kernel_rfl)) (fun _ _ _ h => h) (Or.inl ⟨by rfl, ?_⟩) ?_ ?_
                                  rotate_left
                                  · intro w'
                                    go_simp
                                    with_reducible rfl
                                  rotate_left
                                  · simp only [Act.put, List.setIfInBounds_toArray, List.set_cons_zero, List.set_cons_succ, i64_w, i32_w]
                                    rfl
                                  refine done_ (done_of HT_.out (by kernel_rfl)) ?_
                                  try go_wp2
                                  have n0_ := Aside0.mk (Kd.V_drew HO_0.out)
                                  have n1_ := Aside0.mk (Kd.R_drew HO189.out)
                                  have n2_ := Aside0.mk (Kd.V_drew HO197.out)
                                  have n3_ := Aside0.mk (Kd.V_drew HO205.out)
                                  have n4_ := Aside0.mk (Kd.N_drew HO208.out)
                                  have n5_ := Aside0.mk (Kd.R_drew HO211.out)
                                  have n6_ := Aside0.mk (blk_drew BK180.out)
                                  have n7_ := Aside0.mk (below_drew1 HB.out)
                                  clear HO_0
                                  clear HO189
                                  clear HO197
                                  clear HO205
                                  clear HO208
                                  clear HO211
                                  clear BK180
                                  clear HB
                                  have HO_0 := n0_
                                  have HO189 := n1_
                                  have HO197 := n2_
                                  have HO205 := n3_
                                  have HO208 := n4_
                                  have HO211 := n5_
                                  have BK180 := n6_
                                  have HB := n7_
                                  clear n0_ n1_ n2_ n3_ n4_ n5_ n6_ n7_
                                  obtain ⟨Ao48, co48, eo48⟩ := Kd.R_slice HO189.out
                                  (first | subst eo48 | (injection eo48 with f1_ f2_ f3_; have f4_ := f1_.symm; have f5_ := f3_.symm; clear f1_ f2_ f3_; subst f4_; subst f5_))
                                  have p212 : 0 ≤ (a3 : Int) := of_decide_eq_true (by first | (with_reducible assumption) | assumption)
                                  have q212 : a3 < (t187.length : Int) := of_decide_eq_true (by first | (with_reducible assumption) | assumption)
                                  obtain ⟨ad212, e212, hx212_0⟩ := Kd.at_int (Kd.R_reads' HO189.out).2.2 a3 p212 q212
                                  cases e212
                                  replace p212 := eq_true p212
                                  replace q212 := eq_true q212
                                  have q49 : (a3 : Int) ≤ ((t187.length : Int) : Int) := of_decide_eq_true (by first | (with_reducible assumption) | assumption)
                                  obtain ⟨i049, hi049, _, hsz49, _⟩ := info_parts info3
                                  have hroom49 : t187.length ≤ co48 := (Kd.R_reads' HO189.out).2.1
                                  have hC49 : Kd.F (Kd.int .i64) _ _ (some ad212) t187.length t187 := (Kd.V_at (base := w.heap.size) (Kd.V_mono (ok' := (fun k_ => (((((P0_ k_ ∨ w.heap.size ≤ k_) ∧ True) ∧ some k_ ≠ (v210 : Value).ownBlock) ∧ some k_ ≠ (.slice Ao45 y206.length co45 : Value).ownBlock) ∧ k_ ≠ gb180))) (Kd.R_V (Kd.R_types (Kd.R_apart' (HO189.out) (Kd.N_typed HO208.out) (by decide)) BK180.out (by decide))) (fun k_ hk => ⟨⟨⟨⟨(.inr (hk.1.1.1.1)), trivial⟩, hk.1.1.2⟩, hk.1.2⟩, hk.2⟩))).2.2
                                  have hcut49 := cut_to (P := Try.prog) 24 3 .i64 Try.underlying24 hi049 (some ad212) t187.length co48 a3 (of_decide_eq_true (by first | (with_reducible assumption) | assumption)) q49 hroom49
                                  have hr49 := Kd.F_take (m := (a3 : Int).toNat) hC49 (by omega)
                                  have hy49 : y216.length = (a3 : Int).toNat := (by rw [Ny216.out, List.length_take]; omega)
                                  rw [← Ny216.out] at hr49
                                  rw [← hy49] at hcut49
                                  have HO220 := Aside0.mk (show Kd.V (Kd.int .i64) 3 _ w.heap.size _ (.slice (some ad212) y216.length co48) y216 from Kd.V_mk (by omega) hr49)
                                  have HC220 := Aside0.mk (show y216.length ≤ co48 from by omega)
                                  clear hr49 hC49 hroom49 hi049 hsz49
                                  have KY49 := Aside0.mk hy49
                                  clear hy49
                                  replace q49 := eq_true q49
                                  have q50 : ((ji22) : Int) ≤ ((t187.length : Int) : Int) := of_decide_eq_true (by first | (with_reducible assumption) | assumption)
                                  obtain ⟨i050, hi050, _, hsz50, _⟩ := info_parts info3
                                  have hroom50 : t187.length ≤ co48 := (Kd.R_reads' HO189.out).2.1
                                  have hC50 : Kd.F (Kd.int .i64) _ _ (some ad212) t187.length t187 := (Kd.V_at (base := w.heap.size) (Kd.V_mono (ok' := (fun k_ => (((((P0_ k_ ∨ w.heap.size ≤ k_) ∧ True) ∧ some k_ ≠ (v210 : Value).ownBlock) ∧ some k_ ≠ (.slice Ao45 y206.length co45 : Value).ownBlock) ∧ k_ ≠ gb180))) (Kd.R_V (Kd.R_types (Kd.R_apart' (HO189.out) (Kd.N_typed HO208.out) (by decide)) BK180.out (by decide))) (fun k_ hk => ⟨⟨⟨⟨(.inr (hk.1.1.1.1)), trivial⟩, hk.1.1.2⟩, hk.1.2⟩, hk.2⟩))).2.2
                                  have q050 : (0 : Int) ≤ ((ji22) : Int) := of_decide_eq_true (by first | (with_reducible assumption) | assumption)
                                  have hcut50 := cut_from (P := Try.prog) 24 3 .i64 Try.underlying24 hi050 1 hsz50 (some ad212) t187.length co48 (ji22) q050 q50
                                  have hr50 := Kd.F_cut (m := ((ji22) : Int).toNat) (c := co48) hC50 (by omega) hroom50
                                  obtain ⟨A50, hA50⟩ : ∃ A1, A1 = (if co48 = ((ji22) : Int).toNat then (some ad212) else ((some ad212) : Option Addr).map (·.add (((ji22) : Int).toNat * 1))) := ⟨_, rfl⟩
                                  obtain ⟨c50, hc50⟩ : ∃ c1, c1 = co48 - ((ji22) : Int).toNat := ⟨_, rfl⟩
                                  have hy50 : y224.length = t187.length - ((ji22) : Int).toNat := (by rw [Ny224.out, List.length_drop] <;> omega)
                                  rw [show (t187).drop ((ji22) : Int).toNat = y224 from Ny224.out.symm] at hr50
                                  replace hr50 : Kd.F (Kd.int .i64) _ _ A50 y224.length y224 := (by rw [hA50]; exact hr50)
                                  rw [← hy50, ← hA50, ← hc50] at hcut50
                                  have HO228 := Aside0.mk (show Kd.V (Kd.int .i64) 3 _ w.heap.size _ (.slice A50 y224.length c50) y224 from Kd.V_mk (by rw [hy50, hc50]; exact Nat.sub_le_sub_right hroom50 _) hr50)
                                  have HC228 := Aside0.mk (show y224.length ≤ c50 from by rw [hy50, hc50]; exact Nat.sub_le_sub_right hroom50 _)
                                  clear hr50 hC50 hroom50 hi050 hsz50 hc50
                                  have KY50 := Aside0.mk hy50
                                  have KA50 := Aside0.mk hA50
                                  clear hy50 hA50
                                  replace q50 := eq_true q50
                                  refine start_ (n := 20) (S := fun w' => w'.cell? (ad212.add (a3).toNat) = some (.int .i64 (rd t187 a3))) (ds := [10, 15]) #[false, false, false, false, false, false, false, false, false, false, false, false, false, false, false, false, false, false, false, false] (by kernel_rfl) rfl rfl (hx212_0) (fun hHeld => ?_); refine with_tabW kissgatelaw17_SpreadClosed.tab8 kissgatelaw17_SpreadClosed.bits8 (fun HT_ HW_ => ?_)
                                  generalize w46.drew = w47 at HO_0 HO189 HO197 HO205 HO208 HO211 BK180 HB HO220 HO228 hx212_0 hHeld ⊢
                                  refine pure_ (i := 0) (N := some 56) (v := ?_) (a' := ?_) #[true, false, false, false, false, false, false, false, false, false, false, false, false, false, false, false, false, false, false, false] rfl rfl (any_of HT_.out (by kernel_rfl)) (fun _ _ _ h => h) (Or.inl ⟨by rfl, ?_⟩) ?_ ?_
                                  rotate_left
                                  · intro w'
                                    go_simp
                                    with_reducible rfl
                                  rotate_left
                                  · simp only [Act.put, List.setIfInBounds_toArray, List.set_cons_zero, List.set_cons_succ, i64_w, i32_w]
                                    rfl
                                  refine pure_ (i := 1) (N := some 57) (v := ?_) (a' := ?_) #[true, true, false, false, false, false, false, false, false, false, false, false, false, false, false, false, false, false, false, false] rfl rfl (any_of HT_.out (by kernel_rfl)) (fun _ _ _ h => h) (Or.inl ⟨by rfl, ?_⟩) ?_ ?_
                                  rotate_left
                                  · intro w'
                                    go_simp
                                    with_reducible rfl
                                  rotate_left
                                  · simp only [Act.put, List.setIfInBounds_toArray, List.set_cons_zero, List.set_cons_succ, i64_w, i32_w]
                                    rfl
                                  refine pure_ (i := 2) (N := some 58) (v := ?_) (a' := ?_) #[true, true, true, false, false, false, false, false, false, false, false, false, false, false, false, false, false, false, false, false] rfl rfl (any_of HT_.out (by kernel_rfl)) (fun _ _ _ h => h) (Or.inl ⟨by rfl, ?_⟩) ?_ ?_
                                  rotate_left
                                  · intro w'
                                    go_simp
                                    with_reducible rfl
                                  rotate_left
                                  · simp only [Act.put, List.setIfInBounds_toArray, List.set_cons_zero, List.set_cons_succ, i64_w, i32_w]
                                    rfl
                                  refine take_ (i := 3) (N := some 59) (v := ?_) (a' := ?_) #[true, true, true, true, false, false, false, false, false, false, false, false, false, false, false, false, false, false, false, false] rfl rfl (take_ofW HT_.out HW_.out (by kernel_rfl)) (fun _ _ _ h => h) (Or.inl ⟨by rfl, ?_⟩) hHeld ?_ ?_
                                  rotate_left
                                  · intro w' s0
                                    go_simp
                                    with_reducible rfl
                                  rotate_left
                                  · simp only [Act.put, List.setIfInBounds_toArray, List.set_cons_zero, List.set_cons_succ, i64_w, i32_w]
                                    rfl
                                  refine pure_ (i := 4) (N := some 60) (v := ?_) (a' := ?_) #[true, true, true, true, true, false, false, false, false, false, false, false, false, false, false, false, false, false, false, false] rfl rfl (any_of HT_.out (by kernel_rfl)) (fun _ _ _ h => h) (Or.inl ⟨by rfl, ?_⟩) ?_ ?_
                                  rotate_left
                                  · intro w'
                                    go_simp
                                    with_reducible rfl
                                  rotate_left
                                  · simp only [Act.put, List.setIfInBounds_toArray, List.set_cons_zero, List.set_cons_succ, i64_w, i32_w]
                                    rfl
                                  refine pure_ (i := 5) (N := some 61) (v := ?_) (a' := ?_) #[true, true, true, true, true, true, false, false, false, false, false, false, false, false, false, false, false, false, false, false] rfl rfl (any_of HT_.out (by kernel_rfl)) (fun _ _ _ h => h) (Or.inl ⟨by rfl, ?_⟩) ?_ ?_
                                  rotate_left
                                  · intro w'
                                    go_simp
                                    with_reducible rfl
                                  rotate_left
                                  · simp only [Act.put, List.setIfInBounds_toArray, List.set_cons_zero, List.set_cons_succ, i64_w, i32_w]
                                    rfl
                                  refine pure_ (i := 7) (N := some 63) (v := ?_) (a' := ?_) #[true, true, true, true, true, true, false, true, false, false, false, false, false, false, false, false, false, false, false, false] rfl rfl (any_of HT_.out (by kernel_rfl)) (fun _ _ _ h => h) (Or.inl ⟨by rfl, ?_⟩) ?_ ?_
                                  rotate_left
                                  · intro w'
                                    go_simp
                                    with_reducible rfl
                                  rotate_left
                                  · simp only [Act.put, List.setIfInBounds_toArray, List.set_cons_zero, List.set_cons_succ, i64_w, i32_w]
                                    rfl
                                  refine pure_ (i := 8) (N := some 64) (v := ?_) (a' := ?_) #[true, true, true, true, true, true, false, true, true, false, false, false, false, false, false, false, false, false, false, false] rfl rfl (any_of HT_.out (by kernel_rfl)) (fun _ _ _ h => h) (Or.inl ⟨by rfl, ?_⟩) ?_ ?_
                                  rotate_left
                                  · intro w'
                                    go_simp
                                    with_reducible rfl
                                  rotate_left
                                  · simp only [Act.put, List.setIfInBounds_toArray, List.set_cons_zero, List.set_cons_succ, i64_w, i32_w]
                                    rfl
                                  refine pure_ (i := 9) (N := some 65) (v := ?_) (a' := ?_) #[true, true, true, true, true, true, false, true, true, true, false, false, false, false, false, false, false, false, false, false] rfl rfl (any_of HT_.out (by kernel_rfl)) (fun _ _ _ h => h) (Or.inl ⟨by rfl, ?_⟩) ?_ ?_
                                  rotate_left
                                  · intro w'
                                    go_simp
                                    with_reducible rfl
                                  rotate_left
                                  · simp only [Act.put, List.setIfInBounds_toArray, List.set_cons_zero, List.set_cons_succ, i64_w, i32_w]
                                    rfl
                                  refine pure_ (i := 11) (N := some 67) (v := ?_) (a' := ?_) #[true, true, true, true, true, true, false, true, true, true, false, true, false, false, false, false, false, false, false, false] rfl rfl (any_of HT_.out (by kernel_rfl)) (fun _ _ _ h => h) (Or.inl ⟨by rfl, ?_⟩) ?_ ?_
                                  rotate_left
                                  · intro w'
                                    go_simp
                                    with_reducible rfl
                                  rotate_left
                                  · simp only [Act.put, List.setIfInBounds_toArray, List.set_cons_zero, List.set_cons_succ, i64_w, i32_w]
                                    rfl
                                  refine pure_ (i := 12) (N := some 68) (v := ?_) (a' := ?_) #[true, true, true, true, true, true, false, true, true, true, false, true, true, false, false, false, false, false, false, false] rfl rfl (any_of HT_.out (by kernel_rfl)) (fun _ _ _ h => h) (Or.inl ⟨by rfl, ?_⟩) ?_ ?_
                                  rotate_left
                                  · intro w'
                                    go_simp
                                    with_reducible rfl
                                  rotate_left
                                  · simp only [Act.put, List.setIfInBounds_toArray, List.set_cons_zero, List.set_cons_succ, i64_w, i32_w]
                                    rfl
                                  refine pure_ (i := 13) (N := some 69) (v := ?_) (a' := ?_) #[true, true, true, true, true, true, false, true, true, true, false, true, true, true, false, false, false, false, false, false] rfl rfl (any_of HT_.out (by kernel_rfl)) (fun _ _ _ h => h) (Or.inl ⟨by rfl, ?_⟩) ?_ ?_
                                  rotate_left
                                  · intro w'
                                    go_simp
                                    with_reducible rfl
                                  rotate_left
                                  · simp only [Act.put, List.setIfInBounds_toArray, List.set_cons_zero, List.set_cons_succ, i64_w, i32_w]
                                    rfl
                                  refine pure_ (i := 14) (N := some 70) (v := ?_) (a' := ?_) #[true, true, true, true, true, true, false, true, true, true, false, true, true, true, true, false, false, false, false, false] rfl rfl (any_of HT_.out (by kernel_rfl)) (fun _ _ _ h => h) (Or.inl ⟨by rfl, ?_⟩) ?_ ?_
                                  rotate_left
                                  · intro w'
                                    go_simp
                                    with_reducible rfl
                                  rotate_left
                                  · simp only [Act.put, List.setIfInBounds_toArray, List.set_cons_zero, List.set_cons_succ, i64_w, i32_w]
                                    rfl
                                  refine pure_ (i := 16) (N := some 72) (v := ?_) (a' := ?_) #[true, true, true, true, true, true, false, true, true, true, false, true, true, true, true, false, true, false, false, false] rfl rfl (any_of HT_.out (by kernel_rfl)) (fun _ _ _ h => h) (Or.inl ⟨by rfl, ?_⟩) ?_ ?_
                                  rotate_left
                                  · intro w'
                                    go_simp
                                    with_reducible rfl
                                  rotate_left
                                  · simp only [Act.put, List.setIfInBounds_toArray, List.set_cons_zero, List.set_cons_succ, i64_w, i32_w]
                                    rfl
                                  refine one_ (i := 6) (N := some 62) #[true, true, true, true, true, true, true, true, true, true, false, true, true, true, true, false, true, false, false, false] rfl rfl (one_of HT_.out (by kernel_rfl)) (by decide) (fun K hK => ?_)
                                  refine Kd.R_lit_step (Kd.int .i64) _ 3 ?hg (N := 62) ?hd (xs := ([] : List Int)) (inner := []) (ok := fun _ => True) (okp := fun _ => True) ?hr ?hp (fun _ hk => hk) trivial (Below.refl _ _) (Nat.le_refl _) (by simp) ?_; (case hd => rfl); (case hg => rfl); (case hr => first | (go_simp; done) | (go_simp; rfl)); (case hp => exact (Reps.none _ _))
                                  intro v214 w51 ho52 hb hg_ hnew_
                                  have HS0_ := (hb.cell (World.block_lt_of_cell? _ _ (hHeld))).trans (hHeld)
                                  clear hg_ hnew_
                                  (first | rw [← Ny213.out] at ho52 | (simp only [Int.reduceToNat] at ho52; rw [← Ny213.out] at ho52))
                                  have n0_ := Aside0.mk (Kd.V_elder' (by (with_reducible repeat (first | apply Kd.V_alloc | apply Kd.V_drewN | apply Kd.V_drew)); exact HO_0.out) (Kd.R_base ho52) hb)
                                  have n1_ := Aside0.mk (Kd.R_elder' (by (with_reducible repeat (first | apply Kd.R_alloc | apply Kd.R_drewN | apply Kd.R_drew)); exact HO189.out) (Kd.R_base ho52) hb)
                                  have n2_ := Aside0.mk (Kd.V_elder' (by (with_reducible repeat (first | apply Kd.V_alloc | apply Kd.V_drewN | apply Kd.V_drew)); exact HO197.out) (Kd.R_base ho52) hb)
                                  have n3_ := Aside0.mk (Kd.V_elder' (by (with_reducible repeat (first | apply Kd.V_alloc | apply Kd.V_drewN | apply Kd.V_drew)); exact HO205.out) (Kd.R_base ho52) hb)
                                  have n4_ := Aside0.mk (Kd.N_elder' (by (with_reducible repeat (first | apply Kd.N_alloc | apply Kd.N_drewN | apply Kd.N_drew)); exact HO208.out) (Kd.R_base ho52) hb)
                                  have n5_ := Aside0.mk (Kd.R_elder' (by (with_reducible repeat (first | apply Kd.R_alloc | apply Kd.R_drewN | apply Kd.R_drew)); exact HO211.out) (Kd.R_base ho52) hb)
                                  have n6_ := Aside0.mk (Kd.V_elder' (by (with_reducible repeat (first | apply Kd.V_alloc | apply Kd.V_drewN | apply Kd.V_drew)); exact HO220.out) (Kd.R_base ho52) hb)
                                  have n7_ := Aside0.mk (Kd.V_elder' (by (with_reducible repeat (first | apply Kd.V_alloc | apply Kd.V_drewN | apply Kd.V_drew)); exact HO228.out) (Kd.R_base ho52) hb)
                                  have n8_ := Aside0.mk (Kd.R_lower (Kd.R_new' (Kd.R_new' (Kd.R_newM (M := fun k_ => (w.heap.size ≤ k_)) ho52 (below_size (by repeat (first | (with_reducible first | exact HB.out | apply below_alloc | apply pw_below_drewN | apply below_drew1 | refine below_set ?_ GE180.out) | exact HB.out))) (fun k_ h_ => h_)) (Kd.R_lt (by (with_reducible repeat (first | apply Kd.R_alloc | apply Kd.R_drewN | apply Kd.R_drew)); exact HO189.out))) (Kd.R_lt (by (with_reducible repeat (first | apply Kd.R_alloc | apply Kd.R_drewN | apply Kd.R_drew)); exact HO211.out))) (below_size (by repeat (first | (with_reducible first | exact HB.out | apply below_alloc | apply pw_below_drewN | apply below_drew1 | refine below_set ?_ GE180.out) | exact HB.out))))
                                  have n9_ := Aside0.mk (blk_below (g := gb180) (o := .cells #[.int .i64 a1_0, .int .i64 a1_1] 38 (0, 0)) (by (with_reducible repeat (first | refine blk_drewN ?_ _ | refine blk_drew ?_ | refine blk_alloc ?_ _)); exact BK180.out) hb)
                                  have n10_ := Aside0.mk (below_step (by repeat (first | (with_reducible first | exact HB.out | apply below_alloc | apply pw_below_drewN | apply below_drew1 | refine below_set ?_ GE180.out) | exact HB.out)) hb)
                                  clear HO_0
                                  clear HO189
                                  clear HO197
                                  clear HO205
                                  clear HO208
                                  clear HO211
                                  clear HO220
                                  clear HO228
                                  clear BK180
                                  clear HB
                                  have HO_0 := n0_
                                  have HO189 := n1_
                                  have HO197 := n2_
                                  have HO205 := n3_
                                  have HO208 := n4_
                                  have HO211 := n5_
                                  have HO220 := n6_
                                  have HO228 := n7_
                                  have HO215 := n8_
                                  have BK180 := n9_
                                  have HB := n10_
                                  clear n0_ n1_ n2_ n3_ n4_ n5_ n6_ n7_ n8_ n9_ n10_
                                  clear hb ho52
                                  refine hK.out _ _ (HS0_) (fun hHeld => ?_)
                                  clear hK K
                                  refine norm_ (a' := ?_) ?_ ?_
                                  rotate_left
                                  · show Act.put _ (some 62) _ = _
                                    simp only [Act.put, List.setIfInBounds_toArray, List.set_cons_zero, List.set_cons_succ, i64_w, i32_w]
                                    rfl
                                  refine last_ (i := 10) (N := some 66) #[true, true, true, true, true, true, true, true, true, true, true, true, true, true, true, false, true, false, false, false] rfl rfl (one_of HT_.out (by kernel_rfl)) (by decide) (fun K hK => ?_)
                                  refine Kd.R_append_rows_step (Kd.int .i64) (w0 := w) w.heap.size (by rfl) (.tmp 62) (.tmp 65) 24 3 (.int .i64 0) 8 rfl Try.underlying24 info3 rfl (by decide) (by omega) v214 y213 y216 _ _ _ (fun k_ => (w.heap.size ≤ k_) ∧ some k_ ≠ (.slice (some ad212) t187.length co48 : Value).ownBlock ∧ some k_ ≠ (v210 : Value).ownBlock) (fun _ => False) rfl rfl ?aO ?aR (fun _ _ h => h) (fun _ h => h.elim) ?aF ?aB ?aS ?aL ?_
                                  (case aR => repeat (first | exact (Kd.V_reads' HO220.out).2.2 | (with_reducible refine Kd.C_alloc ?_ _) | (with_reducible refine Kd.C_drewN ?_ _) | (with_reducible refine Kd.C_drew ?_)))
                                  (case aB => exact (by repeat (first | (with_reducible first | exact HB.out | apply below_alloc | apply pw_below_drewN | apply below_drew1 | refine below_set ?_ GE180.out) | exact HB.out)))
                                  (case aF => exact (fun k_ hk => ⟨(Nat.le_trans (below_size (by repeat (first | (with_reducible first | exact HB.out | apply below_alloc | apply pw_below_drewN | apply below_drew1 | refine below_set ?_ GE180.out) | exact HB.out))) hk), Kd.fresh' (Kd.R_lt (by (with_reducible repeat (first | apply Kd.R_alloc | apply Kd.R_drewN | apply Kd.R_drew)); exact HO189.out)) k_ hk, Kd.fresh' (Kd.R_lt (by (with_reducible repeat (first | apply Kd.R_alloc | apply Kd.R_drewN | apply Kd.R_drew)); exact HO211.out)) k_ hk⟩))
                                  (case aO => exact (by (with_reducible repeat (first | apply Kd.R_alloc | apply Kd.R_drewN | apply Kd.R_drew)); exact Kd.R_mono HO215.out (fun _ hk => ⟨hk.1.1.1, ⟨hk.1.2, hk.2⟩⟩)))
                                  (case aS => exact (below_size (by repeat (first | (with_reducible first | exact HB.out | apply below_alloc | apply pw_below_drewN | apply below_drew1 | refine below_set ?_ GE180.out) | exact HB.out))))
                                  (case aL => have := LMc31.out; omega)
                                  intro v222 w53 ho hb hg hat
                                  rw [← Ny221.out] at ho
                                  have n0_ := Aside0.mk (Kd.V_afterv (ok := (fun k_ => (P0_ k_ ∨ w.heap.size ≤ k_) ∧ some k_ ≠ (.slice (some ad212) t187.length co48 : Value).ownBlock ∧ some k_ ≠ (.slice Ao45 y206.length co45 : Value).ownBlock ∧ some k_ ≠ (v210 : Value).ownBlock ∧ k_ ≠ gb180)) (by (with_reducible repeat (first | apply Kd.V_alloc | apply Kd.V_drewN | apply Kd.V_drew)); exact Kd.V_mono HO_0.out (fun _ hk => ⟨⟨hk.1.1.1.1, ⟨hk.1.1.1.2.1, ⟨hk.1.1.2, ⟨hk.1.2, hk.1.1.1.2.2⟩⟩⟩⟩, hk.2⟩)) hg hat)
                                  have n1_ := Aside0.mk (blk_grown (g := gb180) (o := .cells #[.int .i64 a1_0, .int .i64 a1_1] 38 (0, 0)) (by (with_reducible repeat (first | refine blk_drewN ?_ _ | refine blk_drew ?_ | refine blk_alloc ?_ _)); exact BK180.out) hg (Kd.R_ne HO215.out BK180.out (by decide)))
                                  have n2_ := Aside0.mk (Kd.R_after (ok := (fun k_ => (w.heap.size ≤ k_) ∧ some k_ ≠ (v210 : Value).ownBlock)) (by (with_reducible repeat (first | apply Kd.R_alloc | apply Kd.R_drewN | apply Kd.R_drew)); exact Kd.R_mono HO189.out (fun _ hk => ⟨⟨hk.1.1.1, hk.1.2⟩, hk.2⟩)) hg hat)
                                  have n3_ := Aside0.mk (Kd.V_afterv (ok := (fun k_ => (P0_ k_ ∨ w.heap.size ≤ k_) ∧ some k_ ≠ (.slice (some ad212) t187.length co48 : Value).ownBlock ∧ some k_ ≠ (.slice Ao45 y206.length co45 : Value).ownBlock ∧ some k_ ≠ (v210 : Value).ownBlock ∧ k_ ≠ gb180)) (by (with_reducible repeat (first | apply Kd.V_alloc | apply Kd.V_drewN | apply Kd.V_drew)); exact Kd.V_mono HO197.out (fun _ hk => ⟨⟨hk.1.1.1.1, ⟨hk.1.1.1.2.1, ⟨hk.1.1.2, ⟨hk.1.2, hk.1.1.1.2.2⟩⟩⟩⟩, hk.2⟩)) hg hat)
                                  have n4_ := Aside0.mk (Kd.V_afterv (ok := (fun k_ => (P0_ k_ ∨ w.heap.size ≤ k_) ∧ some k_ ≠ (.slice (some ad212) t187.length co48 : Value).ownBlock ∧ some k_ ≠ (.slice Ao45 y206.length co45 : Value).ownBlock ∧ some k_ ≠ (v210 : Value).ownBlock ∧ k_ ≠ gb180)) (by (with_reducible repeat (first | apply Kd.V_alloc | apply Kd.V_drewN | apply Kd.V_drew)); exact Kd.V_mono HO205.out (fun _ hk => ⟨⟨hk.1.1.1.1, ⟨hk.1.1.1.2.1, ⟨hk.1.1.2, ⟨hk.1.2, hk.1.1.1.2.2⟩⟩⟩⟩, hk.2⟩)) hg hat)
                                  have n5_ := Aside0.mk (Kd.N_afterv (ok := (fun k_ => (P0_ k_ ∨ w.heap.size ≤ k_) ∧ some k_ ≠ (.slice (some ad212) t187.length co48 : Value).ownBlock ∧ some k_ ≠ (v210 : Value).ownBlock ∧ k_ ≠ gb180)) (by (with_reducible repeat (first | apply Kd.N_alloc | apply Kd.N_drewN | apply Kd.N_drew)); exact Kd.N_mono HO208.out (fun _ hk => ⟨⟨hk.1.1.1, ⟨hk.1.1.2.1, ⟨hk.1.2, hk.1.1.2.2⟩⟩⟩, hk.2⟩)) hg hat)
                                  have n6_ := Aside0.mk (Kd.R_after (ok := (fun k_ => (w.heap.size ≤ k_) ∧ some k_ ≠ (.slice (some ad212) t187.length co48 : Value).ownBlock)) (by (with_reducible repeat (first | apply Kd.R_alloc | apply Kd.R_drewN | apply Kd.R_drew)); exact Kd.R_mono HO211.out (fun _ hk => ⟨⟨hk.1.1.1, hk.1.2⟩, hk.2⟩)) hg hat)
                                  have n7_ := Aside0.mk (Kd.V_afterv (ok := (fun k_ => (P0_ k_ ∨ w.heap.size ≤ k_) ∧ some k_ ≠ (.slice Ao45 y206.length co45 : Value).ownBlock ∧ some k_ ≠ (v210 : Value).ownBlock ∧ k_ ≠ gb180)) (by (with_reducible repeat (first | apply Kd.V_alloc | apply Kd.V_drewN | apply Kd.V_drew)); exact Kd.V_mono HO220.out (fun _ hk => ⟨⟨hk.1.1.1.1.1, ⟨hk.1.1.2, ⟨hk.1.1.1.2, hk.1.2⟩⟩⟩, hk.2⟩)) hg hat)
                                  have n8_ := Aside0.mk (Kd.V_afterv (ok := (fun k_ => (P0_ k_ ∨ w.heap.size ≤ k_) ∧ some k_ ≠ (.slice Ao45 y206.length co45 : Value).ownBlock ∧ some k_ ≠ (v210 : Value).ownBlock ∧ k_ ≠ gb180)) (by (with_reducible repeat (first | apply Kd.V_alloc | apply Kd.V_drewN | apply Kd.V_drew)); exact Kd.V_mono HO228.out (fun _ hk => ⟨⟨hk.1.1.1.1.1, ⟨hk.1.1.2, ⟨hk.1.1.1.2, hk.1.2⟩⟩⟩, hk.2⟩)) hg hat)
                                  have n9_ := Aside0.mk (hb)
                                  have n10_ := Aside0.mk (ho)
                                  clear HO_0
                                  clear BK180
                                  clear HO189
                                  clear HO197
                                  clear HO205
                                  clear HO208
                                  clear HO211
                                  clear HO220
                                  clear HO228
                                  clear HB
                                  clear HO215
                                  have HO_0 := n0_
                                  have BK180 := n1_
                                  have HO189 := n2_
                                  have HO197 := n3_
                                  have HO205 := n4_
                                  have HO208 := n5_
                                  have HO211 := n6_
                                  have HO220 := n7_
                                  have HO228 := n8_
                                  have HB := n9_
                                  have HO223 := n10_
                                  clear n0_ n1_ n2_ n3_ n4_ n5_ n6_ n7_ n8_ n9_ n10_
                                  clear ho hb hg hat
                                  refine hK.out _ _ ?_
                                  clear hK K
                                  refine norm_ (a' := ?_) ?_ ?_
                                  rotate_left
                                  · show Act.put _ (some 66) _ = _
                                    simp only [Act.put, List.setIfInBounds_toArray, List.set_cons_zero, List.set_cons_succ, i64_w, i32_w]
                                    rfl
                                  refine last_ (i := 15) (N := some 71) #[true, true, true, true, true, true, true, true, true, true, true, true, true, true, true, true, true, false, false, false] rfl rfl (one_of HT_.out (by kernel_rfl)) (by decide) (fun K hK => ?_)
                                  refine Kd.R_append_rows_step (Kd.int .i64) (w0 := w) w.heap.size (by rfl) (.tmp 66) (.tmp 70) 24 3 (.int .i64 0) 8 rfl Try.underlying24 info3 rfl (by decide) (by omega) v222 y221 y224 _ _ _ (fun k_ => (w.heap.size ≤ k_) ∧ some k_ ≠ (.slice (some ad212) t187.length co48 : Value).ownBlock ∧ some k_ ≠ (v210 : Value).ownBlock) (fun _ => False) rfl rfl ?aO ?aR (fun _ _ h => h) (fun _ h => h.elim) ?aF ?aB ?aS ?aL ?_
                                  (case aR => repeat (first | exact (Kd.V_reads' HO228.out).2.2 | (with_reducible refine Kd.C_alloc ?_ _) | (with_reducible refine Kd.C_drewN ?_ _) | (with_reducible refine Kd.C_drew ?_)))
                                  (case aB => exact (by repeat (first | (with_reducible first | exact HB.out | apply below_alloc | apply pw_below_drewN | apply below_drew1 | refine below_set ?_ GE180.out) | exact HB.out)))
                                  (case aF => exact (fun k_ hk => ⟨(Nat.le_trans (below_size (by repeat (first | (with_reducible first | exact HB.out | apply below_alloc | apply pw_below_drewN | apply below_drew1 | refine below_set ?_ GE180.out) | exact HB.out))) hk), Kd.fresh' (Kd.R_lt (by (with_reducible repeat (first | apply Kd.R_alloc | apply Kd.R_drewN | apply Kd.R_drew)); exact HO189.out)) k_ hk, Kd.fresh' (Kd.R_lt (by (with_reducible repeat (first | apply Kd.R_alloc | apply Kd.R_drewN | apply Kd.R_drew)); exact HO211.out)) k_ hk⟩))
                                  (case aO => exact (by (with_reducible repeat (first | apply Kd.R_alloc | apply Kd.R_drewN | apply Kd.R_drew)); exact HO223.out))
                                  (case aS => exact (below_size (by repeat (first | (with_reducible first | exact HB.out | apply below_alloc | apply pw_below_drewN | apply below_drew1 | refine below_set ?_ GE180.out) | exact HB.out))))
                                  (case aL => have := LMc34.out; omega)
                                  intro v230 w54 ho hb hg hat
                                  rw [← Ny229.out] at ho
                                  have n0_ := Aside0.mk (Kd.V_afterv (ok := (fun k_ => (P0_ k_ ∨ w.heap.size ≤ k_) ∧ some k_ ≠ (.slice (some ad212) t187.length co48 : Value).ownBlock ∧ some k_ ≠ (.slice Ao45 y206.length co45 : Value).ownBlock ∧ some k_ ≠ (v210 : Value).ownBlock ∧ k_ ≠ gb180)) (by (with_reducible repeat (first | apply Kd.V_alloc | apply Kd.V_drewN | apply Kd.V_drew)); exact HO_0.out) hg hat)
                                  have n1_ := Aside0.mk (blk_grown (g := gb180) (o := .cells #[.int .i64 a1_0, .int .i64 a1_1] 38 (0, 0)) (by (with_reducible repeat (first | refine blk_drewN ?_ _ | refine blk_drew ?_ | refine blk_alloc ?_ _)); exact BK180.out) hg (Kd.R_ne HO223.out BK180.out (by decide)))
                                  have n2_ := Aside0.mk (Kd.R_after (ok := (fun k_ => (w.heap.size ≤ k_) ∧ some k_ ≠ (v210 : Value).ownBlock)) (by (with_reducible repeat (first | apply Kd.R_alloc | apply Kd.R_drewN | apply Kd.R_drew)); exact HO189.out) hg hat)
                                  have n3_ := Aside0.mk (Kd.V_afterv (ok := (fun k_ => (P0_ k_ ∨ w.heap.size ≤ k_) ∧ some k_ ≠ (.slice (some ad212) t187.length co48 : Value).ownBlock ∧ some k_ ≠ (.slice Ao45 y206.length co45 : Value).ownBlock ∧ some k_ ≠ (v210 : Value).ownBlock ∧ k_ ≠ gb180)) (by (with_reducible repeat (first | apply Kd.V_alloc | apply Kd.V_drewN | apply Kd.V_drew)); exact HO197.out) hg hat)
                                  have n4_ := Aside0.mk (Kd.V_afterv (ok := (fun k_ => (P0_ k_ ∨ w.heap.size ≤ k_) ∧ some k_ ≠ (.slice (some ad212) t187.length co48 : Value).ownBlock ∧ some k_ ≠ (.slice Ao45 y206.length co45 : Value).ownBlock ∧ some k_ ≠ (v210 : Value).ownBlock ∧ k_ ≠ gb180)) (by (with_reducible repeat (first | apply Kd.V_alloc | apply Kd.V_drewN | apply Kd.V_drew)); exact HO205.out) hg hat)
                                  have n5_ := Aside0.mk (Kd.N_afterv (ok := (fun k_ => (P0_ k_ ∨ w.heap.size ≤ k_) ∧ some k_ ≠ (.slice (some ad212) t187.length co48 : Value).ownBlock ∧ some k_ ≠ (v210 : Value).ownBlock ∧ k_ ≠ gb180)) (by (with_reducible repeat (first | apply Kd.N_alloc | apply Kd.N_drewN | apply Kd.N_drew)); exact HO208.out) hg hat)
                                  have n6_ := Aside0.mk (Kd.R_after (ok := (fun k_ => (w.heap.size ≤ k_) ∧ some k_ ≠ (.slice (some ad212) t187.length co48 : Value).ownBlock)) (by (with_reducible repeat (first | apply Kd.R_alloc | apply Kd.R_drewN | apply Kd.R_drew)); exact HO211.out) hg hat)
                                  have n7_ := Aside0.mk (Kd.V_afterv (ok := (fun k_ => (P0_ k_ ∨ w.heap.size ≤ k_) ∧ some k_ ≠ (.slice Ao45 y206.length co45 : Value).ownBlock ∧ some k_ ≠ (v210 : Value).ownBlock ∧ k_ ≠ gb180)) (by (with_reducible repeat (first | apply Kd.V_alloc | apply Kd.V_drewN | apply Kd.V_drew)); exact HO220.out) hg hat)
                                  have n8_ := Aside0.mk (Kd.V_afterv (ok := (fun k_ => (P0_ k_ ∨ w.heap.size ≤ k_) ∧ some k_ ≠ (.slice Ao45 y206.length co45 : Value).ownBlock ∧ some k_ ≠ (v210 : Value).ownBlock ∧ k_ ≠ gb180)) (by (with_reducible repeat (first | apply Kd.V_alloc | apply Kd.V_drewN | apply Kd.V_drew)); exact HO228.out) hg hat)
                                  have n9_ := Aside0.mk (hb)
                                  have n10_ := Aside0.mk (ho)
                                  clear HO_0
                                  clear BK180
                                  clear HO189
                                  clear HO197
                                  clear HO205
                                  clear HO208
                                  clear HO211
                                  clear HO220
                                  clear HO228
                                  clear HB
                                  clear HO223
                                  have HO_0 := n0_
                                  have BK180 := n1_
                                  have HO189 := n2_
                                  have HO197 := n3_
                                  have HO205 := n4_
                                  have HO208 := n5_
                                  have HO211 := n6_
                                  have HO220 := n7_
                                  have HO228 := n8_
                                  have HB := n9_
                                  have HO231 := n10_
                                  clear n0_ n1_ n2_ n3_ n4_ n5_ n6_ n7_ n8_ n9_ n10_
                                  clear ho hb hg hat
                                  obtain ⟨Ao55, co55, eo55⟩ := Kd.R_slice HO231.out
                                  (first | subst eo55 | (injection eo55 with f1_ f2_ f3_; have f4_ := f1_.symm; have f5_ := f3_.symm; clear f1_ f2_ f3_; subst f4_; subst f5_))
                                  obtain ⟨Ao56, co56, eo56⟩ := Kd.R_slice HO211.out
                                  (first | subst eo56 | (injection eo56 with f1_ f2_ f3_; have f4_ := f1_.symm; have f5_ := f3_.symm; clear f1_ f2_ f3_; subst f4_; subst f5_))
                                  refine hK.out _ _ ?_
                                  clear hK K
                                  refine norm_ (a' := ?_) ?_ ?_
                                  rotate_left
                                  · show Act.put _ (some 71) _ = _
                                    simp only [Act.put, List.setIfInBounds_toArray, List.set_cons_zero, List.set_cons_succ, i64_w, i32_w]
                                    rfl
                                  refine one_ (i := 17) (N := some 73) #[true, true, true, true, true, true, true, true, true, true, true, true, true, true, true, true, true, true, false, false] rfl rfl (one_of HT_.out (by kernel_rfl)) (by decide) (fun K hK => ?_)
                                  refine goes_ Try.func24 (by kernel_rfl) rfl #[.slice Ao55 y229.length co55, .slice Ao56 t209.length co56] (by rfl) rfl rfl (by (try simp only [List.map_toArray, List.map_cons, List.map_nil]); first | done | rfl | (simp only [List.length_drop, List.length_take]; rfl)) ?_
                                  with_reducible refine (kissgateref06_Same.calls kj7 _ _ y229 _ _ t209 t232 _ ?side1 ?side2 ?side3 ?side4 A35.out).mono ?_
                                  (case side1 => repeat (first | exact (Kd.R_reads' HO231.out).2.2 | (with_reducible refine Kd.C_alloc ?_ _) | (with_reducible refine Kd.C_drewN ?_ _) | (with_reducible refine Kd.C_drew ?_)))
                                  (case side2 => exact (Kd.R_reads' HO231.out).2.1)
                                  (case side3 => repeat (first | exact (Kd.R_reads' HO211.out).2.2 | (with_reducible refine Kd.C_alloc ?_ _) | (with_reducible refine Kd.C_drewN ?_ _) | (with_reducible refine Kd.C_drew ?_)))
                                  (case side4 => exact (Kd.R_reads' HO211.out).2.1)
                                  rintro e w' ⟨rfl, ⟨nd, rfl⟩⟩
                                  refine ⟨_, rfl, ?_⟩
                                  refine hK.out _ _ (Kd.foot_int (by (with_reducible repeat (first | apply Kd.C_alloc | apply Kd.C_drewN | apply Kd.C_drew)); exact (Kd.R_reads' HO189.out).2.2) a3 (of_eq_true p212) (of_eq_true q212)) (fun hHeld => ?_)
                                  clear hK K
                                  refine norm_ (a' := ?_) ?_ ?_
                                  rotate_left
                                  · show Act.put _ (some 73) _ = _
                                    simp only [Act.put, List.setIfInBounds_toArray, List.set_cons_zero, List.set_cons_succ, i64_w, i32_w]
                                    rfl
                                  refine pure_ (i := 18) (N := some 74) (v := ?_) (a' := ?_) #[true, true, true, true, true, true, true, true, true, true, true, true, true, true, true, true, true, true, true, false] rfl rfl (any_of HT_.out (by kernel_rfl)) (fun _ _ _ h => h) (Or.inl ⟨by rfl, ?_⟩) ?_ ?_
                                  rotate_left
                                  · intro w'
                                    go_simp
                                    with_reducible rfl
                                  rotate_left
                                  · simp only [Act.put, List.setIfInBounds_toArray, List.set_cons_zero, List.set_cons_succ, i64_w, i32_w]
                                    rfl
                                  refine pure_ (i := 19) (N := some 8) (v := ?_) (a' := ?_) #[true, true, true, true, true, true, true, true, true, true, true, true, true, true, true, true, true, true, true, true] rfl rfl (any_of HT_.out (by kernel_rfl)) (fun _ _ _ h => h) (Or.inl ⟨by rfl, ?_⟩) ?_ ?_
                                  rotate_left
                                  · intro w'
                                    go_simp
                                    with_reducible rfl
                                  rotate_left
                                  · simp only [Act.put, List.setIfInBounds_toArray, List.set_cons_zero, List.set_cons_succ, i64_w, i32_w]
                                    rfl
                                  refine done_ (done_of HT_.out (by kernel_rfl)) ?_
                                  try go_wp2
                                  go_ret
                                  exact ⟨by first | rfl | (simp [errW_none, errW_some] <;> rfl) | (simp only [← hji22]; first | rfl | (simp [errW_none, errW_some] <;> rfl)) | (simp [*, errW_none, errW_some] <;> rfl), by repeat (first | (with_reducible first | exact HB.out | apply below_alloc | apply pw_below_drewN | apply below_drew1 | refine below_set ?_ GE180.out) | exact HB.out)⟩
                                · rw [if_neg c34] at H
                                  exact absurd H (by simp)
                              · rw [if_neg c33] at H
                                exact absurd H (by simp)
                            · rw [if_neg c31] at H
                              exact absurd H (by simp)
                          · rw [if_neg c30] at H
                            exact absurd H (by simp)
                        · rw [if_neg c28] at H
                          have c28b0 : ((rd t187 a3) == (-1)) = false := beq_eq_false_iff_ne.mpr c28
                          have c28b1 : ((rd t187 a3) != (-1)) = true := bne_iff_ne.mpr c28
                          obtain rfl := Option.some.inj H
                          have hcz57_0 : wc.cell? ⟨gb180, 0, none⟩ = some (.int .i64 a1_0) := (blk_cell BK180.out 0).trans rfl
                          have hcz57_1 : wc.cell? ⟨gb180, 1, none⟩ = some (.int .i64 a1_1) := (blk_cell BK180.out 1).trans rfl
                          have hfz57_0 := blk_frozen BK180.out 0
                          have hfz57_1 := blk_frozen BK180.out 1
                          try go_wp2_with (first | ((with_reducible refine gate_callee (f := 21) rfl ?_); refine goesL_ (some 42) rfl rfl Try.func21 (by kernel_rfl) rfl #[.slice A0 l0.length c0, .agg #[.int .i64 a1_0, .int .i64 a1_1], .int .i64 a2] rfl (by (try simp only [List.map_toArray, List.map_cons, List.map_nil]); first | done | rfl | (simp only [List.length_drop, List.length_take]; rfl)) ?_; (with_reducible refine (spread_Wants.calls kj7 _ _ l0 a1_0 a1_1 a2 t187 _ ?side1 ?side2 A18.out).mono ?_); (case side1 => repeat (first | exact (Kd.V_reads' HO_0.out).2.2 | (with_reducible refine Kd.C_alloc ?_ _) | (with_reducible refine Kd.C_drewN ?_ _) | (with_reducible refine Kd.C_drew ?_))); (case side2 => exact (Kd.V_reads' HO_0.out).2.1); rintro e w58 ⟨v188, rfl, ho0, hb⟩; refine ⟨_, rfl, ?_⟩; have n0_ := Aside0.mk (Kd.V_elder' (by (with_reducible repeat (first | apply Kd.V_alloc | apply Kd.V_drewN | apply Kd.V_drew)); exact HO_0.out) (Kd.R_base ho0) hb); have n1_ := Aside0.mk (Kd.R_lower (Kd.R_newM (M := fun k_ => (w.heap.size ≤ k_)) ho0 (below_size (by repeat (first | (with_reducible first | exact HB.out | apply below_alloc | apply pw_below_drewN | apply below_drew1 | refine below_set ?_ GE180.out) | exact HB.out))) (fun k_ h_ => h_)) (below_size (by repeat (first | (with_reducible first | exact HB.out | apply below_alloc | apply pw_below_drewN | apply below_drew1 | refine below_set ?_ GE180.out) | exact HB.out)))); have n2_ := Aside0.mk (blk_below (g := gb180) (o := .cells #[.int .i64 a1_0, .int .i64 a1_1] 38 (0, 0)) (by (with_reducible repeat (first | refine blk_drewN ?_ _ | refine blk_drew ?_ | refine blk_alloc ?_ _)); exact BK180.out) hb); have n3_ := Aside0.mk (below_step (by repeat (first | (with_reducible first | exact HB.out | apply below_alloc | apply pw_below_drewN | apply below_drew1 | refine below_set ?_ GE180.out) | exact HB.out)) hb); clear HO_0; clear BK180; clear HB; have HO_0 := n0_; have HO189 := n1_; have BK180 := n2_; have HB := n3_; clear n0_ n1_ n2_ n3_; (try clear hb); (try clear hb2); (try clear hk); (try clear hi); (try clear ho0)))
                          have n0_ := Aside0.mk (Kd.V_drew HO_0.out)
                          have n1_ := Aside0.mk (Kd.R_drew HO189.out)
                          have n2_ := Aside0.mk (blk_drew BK180.out)
                          have n3_ := Aside0.mk (below_drew1 HB.out)
                          clear HO_0
                          clear HO189
                          clear BK180
                          clear HB
                          have HO_0 := n0_
                          have HO189 := n1_
                          have BK180 := n2_
                          have HB := n3_
                          clear n0_ n1_ n2_ n3_
                          have q60 : (a3 : Int) ≤ ((l0.length : Int) : Int) := of_decide_eq_true (by first | (with_reducible assumption) | assumption)
                          obtain ⟨i060, hi060, _, hsz60, _⟩ := info_parts info49
                          have hroom60 : l0.length ≤ c0 := (Kd.V_reads' HO_0.out).2.1
                          have hC60 : Kd.F k49 _ _ A0 l0.length l0 := (Kd.V_at (base := w.heap.size) HO_0.out).2.2
                          have hcut60 := cut_to (P := Try.prog) 36 49 .i64 Try.underlying36 hi060 A0 l0.length c0 a3 (of_decide_eq_true (by first | (with_reducible assumption) | assumption)) q60 hroom60
                          have hr60 := Kd.F_take (m := (a3 : Int).toNat) hC60 (by omega)
                          have hy60 : y193.length = (a3 : Int).toNat := (by rw [Ny193.out, List.length_take]; omega)
                          rw [← Ny193.out] at hr60
                          rw [← hy60] at hcut60
                          have HO197 := Aside0.mk (show Kd.V k49 49 _ w.heap.size _ (.slice A0 y193.length c0) y193 from Kd.V_mk (by omega) hr60)
                          have HC197 := Aside0.mk (show y193.length ≤ c0 from by omega)
                          clear hr60 hC60 hroom60 hi060 hsz60
                          have KY60 := Aside0.mk hy60
                          clear hy60
                          replace q60 := eq_true q60
                          have q61 : ((ji22) : Int) ≤ ((l0.length : Int) : Int) := of_decide_eq_true (by first | (with_reducible assumption) | assumption)
                          obtain ⟨i061, hi061, _, hsz61, _⟩ := info_parts info49
                          have hroom61 : l0.length ≤ c0 := (Kd.V_reads' HO_0.out).2.1
                          have hC61 : Kd.F k49 _ _ A0 l0.length l0 := (Kd.V_at (base := w.heap.size) HO_0.out).2.2
                          have q061 : (0 : Int) ≤ ((ji22) : Int) := of_decide_eq_true (by first | (with_reducible assumption) | assumption)
                          have hcut61 := cut_from (P := Try.prog) 36 49 .i64 Try.underlying36 hi061 3 hsz61 A0 l0.length c0 (ji22) q061 q61
                          have hr61 := Kd.F_cut (m := ((ji22) : Int).toNat) (c := c0) hC61 (by omega) hroom61
                          obtain ⟨A61, hA61⟩ : ∃ A1, A1 = (if c0 = ((ji22) : Int).toNat then A0 else (A0 : Option Addr).map (·.add (((ji22) : Int).toNat * 3))) := ⟨_, rfl⟩
                          obtain ⟨c61, hc61⟩ : ∃ c1, c1 = c0 - ((ji22) : Int).toNat := ⟨_, rfl⟩
                          have hy61 : y201.length = l0.length - ((ji22) : Int).toNat := (by rw [Ny201.out, List.length_drop] <;> omega)
                          rw [show (l0).drop ((ji22) : Int).toNat = y201 from Ny201.out.symm] at hr61
                          replace hr61 : Kd.F k49 _ _ A61 y201.length y201 := (by rw [hA61]; exact hr61)
                          rw [← hy61, ← hA61, ← hc61] at hcut61
                          have HO205 := Aside0.mk (show Kd.V k49 49 _ w.heap.size _ (.slice A61 y201.length c61) y201 from Kd.V_mk (by rw [hy61, hc61]; exact Nat.sub_le_sub_right hroom61 _) hr61)
                          have HC205 := Aside0.mk (show y201.length ≤ c61 from by rw [hy61, hc61]; exact Nat.sub_le_sub_right hroom61 _)
                          clear hr61 hC61 hroom61 hi061 hsz61 hc61
                          have KY61 := Aside0.mk hy61
                          have KA61 := Aside0.mk hA61
                          clear hy61 hA61
                          replace q61 := eq_true q61
                          refine start_ (n := 14) (S := fun w' => w'.cell? ⟨gb180, 0, none⟩ = some (.int .i64 a1_0) ∧ w'.cell? ⟨gb180, 1, none⟩ = some (.int .i64 a1_1)) (ds := []) #[false, false, false, false, false, false, false, false, false, false, false, false, false, false] (by kernel_rfl) rfl rfl ⟨(blk_cell BK180.out 0).trans rfl, (blk_cell BK180.out 1).trans rfl⟩ (fun hHeld => ?_); refine with_tabW kissgatelaw17_SpreadClosed.tab7 kissgatelaw17_SpreadClosed.bits7 (fun HT_ HW_ => ?_)
                          generalize w58.drew = w59 at HO_0 HO189 BK180 HB HO197 HO205 hHeld ⊢
                          refine pure_ (i := 1) (N := some 44) (v := ?_) (a' := ?_) #[false, true, false, false, false, false, false, false, false, false, false, false, false, false] rfl rfl (any_of HT_.out (by kernel_rfl)) (fun _ _ _ h => h) (Or.inl ⟨by rfl, ?_⟩) ?_ ?_
                          rotate_left
                          · intro w'
                            go_simp
                            with_reducible rfl
                          rotate_left
                          · simp only [Act.put, List.setIfInBounds_toArray, List.set_cons_zero, List.set_cons_succ, i64_w, i32_w]
                            rfl
                          refine pure_ (i := 2) (N := some 45) (v := ?_) (a' := ?_) #[false, true, true, false, false, false, false, false, false, false, false, false, false, false] rfl rfl (any_of HT_.out (by kernel_rfl)) (fun _ _ _ h => h) (Or.inl ⟨by rfl, ?_⟩) ?_ ?_
                          rotate_left
                          · intro w'
                            go_simp
                            with_reducible rfl
                          rotate_left
                          · simp only [Act.put, List.setIfInBounds_toArray, List.set_cons_zero, List.set_cons_succ, i64_w, i32_w]
                            rfl
                          refine pure_ (i := 3) (N := some 46) (v := ?_) (a' := ?_) #[false, true, true, true, false, false, false, false, false, false, false, false, false, false] rfl rfl (any_of HT_.out (by kernel_rfl)) (fun _ _ _ h => h) (Or.inl ⟨by rfl, ?_⟩) ?_ ?_
                          rotate_left
                          · intro w'
                            go_simp
                            with_reducible rfl
                          rotate_left
                          · simp only [Act.put, List.setIfInBounds_toArray, List.set_cons_zero, List.set_cons_succ, i64_w, i32_w]
                            rfl
                          refine pure_ (i := 5) (N := some 48) (v := ?_) (a' := ?_) #[false, true, true, true, false, true, false, false, false, false, false, false, false, false] rfl rfl (any_of HT_.out (by kernel_rfl)) (fun _ _ _ h => h) (Or.inl ⟨by rfl, ?_⟩) ?_ ?_
                          rotate_left
                          · intro w'
                            go_simp
                            with_reducible rfl
                          rotate_left
                          · simp only [Act.put, List.setIfInBounds_toArray, List.set_cons_zero, List.set_cons_succ, i64_w, i32_w]
                            rfl
                          refine pure_ (i := 6) (N := some 49) (v := ?_) (a' := ?_) #[false, true, true, true, false, true, true, false, false, false, false, false, false, false] rfl rfl (any_of HT_.out (by kernel_rfl)) (fun _ _ _ h => h) (Or.inl ⟨by rfl, ?_⟩) ?_ ?_
                          rotate_left
                          · intro w'
                            go_simp
                            with_reducible rfl
                          rotate_left
                          · simp only [Act.put, List.setIfInBounds_toArray, List.set_cons_zero, List.set_cons_succ, i64_w, i32_w]
                            rfl
                          refine pure_ (i := 7) (N := some 50) (v := ?_) (a' := ?_) #[false, true, true, true, false, true, true, true, false, false, false, false, false, false] rfl rfl (any_of HT_.out (by kernel_rfl)) (fun _ _ _ h => h) (Or.inl ⟨by rfl, ?_⟩) ?_ ?_
                          rotate_left
                          · intro w'
                            go_simp
                            with_reducible rfl
                          rotate_left
                          · simp only [Act.put, List.setIfInBounds_toArray, List.set_cons_zero, List.set_cons_succ, i64_w, i32_w]
                            rfl
                          refine pure_ (i := 8) (N := some 51) (v := ?_) (a' := ?_) #[false, true, true, true, false, true, true, true, true, false, false, false, false, false] rfl rfl (any_of HT_.out (by kernel_rfl)) (fun _ _ _ h => h) (Or.inl ⟨by rfl, ?_⟩) ?_ ?_
                          rotate_left
                          · intro w'
                            go_simp
                            with_reducible rfl
                          rotate_left
                          · simp only [Act.put, List.setIfInBounds_toArray, List.set_cons_zero, List.set_cons_succ, i64_w, i32_w]
                            rfl
                          refine pure_ (i := 11) (N := some 54) (v := ?_) (a' := ?_) #[false, true, true, true, false, true, true, true, true, false, false, true, false, false] rfl rfl (any_of HT_.out (by kernel_rfl)) (fun _ _ _ h => h) (Or.inl ⟨by rfl, ?_⟩) ?_ ?_
                          rotate_left
                          · intro w'
                            go_simp
                            with_reducible rfl
                          rotate_left
                          · simp only [Act.put, List.setIfInBounds_toArray, List.set_cons_zero, List.set_cons_succ, i64_w, i32_w]
                            rfl
                          refine take_ (i := 10) (N := some 53) (v := ?_) (a' := ?_) #[false, true, true, true, false, true, true, true, true, false, true, true, false, false] rfl rfl (take_ofW HT_.out HW_.out (by kernel_rfl)) (fun _ _ _ h => h) (Or.inl ⟨by rfl, ?_⟩) hHeld ?_ ?_
                          rotate_left
                          · rintro w' ⟨s0, s1⟩
                            go_simp
                            with_reducible rfl
                          rotate_left
                          · simp only [Act.put, List.setIfInBounds_toArray, List.set_cons_zero, List.set_cons_succ, i64_w, i32_w]
                            rfl
                          refine one_ (i := 0) (N := some 43) #[true, true, true, true, false, true, true, true, true, false, true, true, false, false] rfl rfl (one_of HT_.out (by kernel_rfl)) (by decide) (fun K hK => ?_)
                          refine Kd.N_lit_step k49 _ 49 ?hg (N' := 43) ?hd (xs := ([] : List (S49))) (inner := []) (ok := (fun k_ => (P0_ k_ ∨ w.heap.size ≤ k_) ∧ some k_ ≠ (v188 : Value).ownBlock ∧ k_ ≠ gb180)) (okp := (fun k_ => (P0_ k_ ∨ w.heap.size ≤ k_) ∧ some k_ ≠ (v188 : Value).ownBlock ∧ k_ ≠ gb180)) ?hr ?hp (fun _ hk => hk) ((show ∀ k_, w59.heap.size ≤ k_ → (fun k_ => (P0_ k_ ∨ w.heap.size ≤ k_) ∧ some k_ ≠ (v188 : Value).ownBlock ∧ k_ ≠ gb180) k_ from fun k_ hk => ⟨(.inr (Nat.le_trans (below_size (by repeat (first | (with_reducible first | exact HB.out | apply below_alloc | apply pw_below_drewN | apply below_drew1 | refine below_set ?_ GE180.out) | exact HB.out))) hk)), Kd.fresh' (Kd.R_lt (by (with_reducible repeat (first | apply Kd.R_alloc | apply Kd.R_drewN | apply Kd.R_drew)); exact HO189.out)) k_ hk, Kd.freshB (g := gb180) (o := .cells #[.int .i64 a1_0, .int .i64 a1_1] 38 (0, 0)) (by (with_reducible repeat (first | refine blk_drewN ?_ _ | refine blk_drew ?_ | refine blk_alloc ?_ _)); exact BK180.out) k_ hk⟩) _ (Nat.le_refl _)) (Below.refl _ _) (Nat.le_refl _) (by simp) ?_; (case hd => rfl); (case hg => rfl); (case hr => first | (go_simp; done) | (go_simp; rfl)); (case hp => exact (Reps.none _ _))
                          intro v191 w62 ho63 hb hg_ hnew_
                          clear hg_ hnew_
                          (first | rw [← Ny190.out] at ho63 | (simp only [Int.reduceToNat] at ho63; rw [← Ny190.out] at ho63))
                          have n0_ := Aside0.mk (Kd.V_elder' (by (with_reducible repeat (first | apply Kd.V_alloc | apply Kd.V_drewN | apply Kd.V_drew)); exact HO_0.out) (Kd.N_base ho63) hb)
                          have n1_ := Aside0.mk (Kd.R_below (by (with_reducible repeat (first | apply Kd.R_alloc | apply Kd.R_drewN | apply Kd.R_drew)); exact HO189.out) hb)
                          have n2_ := Aside0.mk (Kd.V_elder' (by (with_reducible repeat (first | apply Kd.V_alloc | apply Kd.V_drewN | apply Kd.V_drew)); exact HO197.out) (Kd.N_base ho63) hb)
                          have n3_ := Aside0.mk (Kd.V_elder' (by (with_reducible repeat (first | apply Kd.V_alloc | apply Kd.V_drewN | apply Kd.V_drew)); exact HO205.out) (Kd.N_base ho63) hb)
                          have n4_ := Aside0.mk (Kd.N_lower ho63 (below_size (by repeat (first | (with_reducible first | exact HB.out | apply below_alloc | apply pw_below_drewN | apply below_drew1 | refine below_set ?_ GE180.out) | exact HB.out))))
                          have n5_ := Aside0.mk (blk_below (g := gb180) (o := .cells #[.int .i64 a1_0, .int .i64 a1_1] 38 (0, 0)) (by (with_reducible repeat (first | refine blk_drewN ?_ _ | refine blk_drew ?_ | refine blk_alloc ?_ _)); exact BK180.out) hb)
                          have n6_ := Aside0.mk (below_step (by repeat (first | (with_reducible first | exact HB.out | apply below_alloc | apply pw_below_drewN | apply below_drew1 | refine below_set ?_ GE180.out) | exact HB.out)) hb)
                          clear HO_0
                          clear HO189
                          clear HO197
                          clear HO205
                          clear BK180
                          clear HB
                          have HO_0 := n0_
                          have HO189 := n1_
                          have HO197 := n2_
                          have HO205 := n3_
                          have HO192 := n4_
                          have BK180 := n5_
                          have HB := n6_
                          clear n0_ n1_ n2_ n3_ n4_ n5_ n6_
                          clear hb ho63
                          refine hK.out _ _ ⟨(blk_cell BK180.out 0).trans rfl, (blk_cell BK180.out 1).trans rfl⟩ (fun hHeld => ?_)
                          clear hK K
                          refine norm_ (a' := ?_) ?_ ?_
                          rotate_left
                          · show Act.put _ (some 43) _ = _
                            simp only [Act.put, List.setIfInBounds_toArray, List.set_cons_zero, List.set_cons_succ, i64_w, i32_w]
                            rfl
                          refine one_ (i := 4) (N := some 47) #[true, true, true, true, true, true, true, true, true, false, true, true, false, false] rfl rfl (one_of HT_.out (by kernel_rfl)) (by decide) (fun K hK => ?_)
                          refine Kd.N_append_rows_step k49 (w0 := w) w.heap.size (by rfl) (.tmp 43) (.tmp 46) 36 49 (.agg #[(.bool false), (.slice none 0 0), (.slice none 0 0)]) 56 rfl Try.underlying36 info49 rfl (by decide) (by omega) v191 y190 y193 _ _ _ (fun k_ => (P0_ k_ ∨ w.heap.size ≤ k_) ∧ some k_ ≠ (v188 : Value).ownBlock ∧ k_ ≠ gb180) (fun k_ => ((fun k_ => (P0_ k_ ∨ w.heap.size ≤ k_) ∧ some k_ ≠ (v188 : Value).ownBlock ∧ k_ ≠ gb180)) k_ ∧ some k_ ≠ (v191 : Value).ownBlock) rfl rfl ?aO ?aR (fun _ hk => hk) ?aF ?aB ?aS ?aL ?_
                          (case aR => exact (by skip; exact Kd.V_F (Kd.V_mono (ok' := (fun k_ => ((fun k_ => (P0_ k_ ∨ w.heap.size ≤ k_) ∧ some k_ ≠ (v188 : Value).ownBlock ∧ k_ ≠ gb180)) k_ ∧ some k_ ≠ (v191 : Value).ownBlock)) (HO197.out) (fun k_ hk => ⟨⟨hk.1.1.1, ⟨hk.1.2, hk.1.1.2⟩⟩, hk.2⟩))))
                          (case aB => exact (by repeat (first | (with_reducible first | exact HB.out | apply below_alloc | apply pw_below_drewN | apply below_drew1 | refine below_set ?_ GE180.out) | exact HB.out)))
                          (case aF => exact (fun k_ hk => ⟨(.inr (Nat.le_trans (below_size (by repeat (first | (with_reducible first | exact HB.out | apply below_alloc | apply pw_below_drewN | apply below_drew1 | refine below_set ?_ GE180.out) | exact HB.out))) hk)), Kd.fresh' (Kd.R_lt (by (with_reducible repeat (first | apply Kd.R_alloc | apply Kd.R_drewN | apply Kd.R_drew)); exact HO189.out)) k_ hk, Kd.freshB (g := gb180) (o := .cells #[.int .i64 a1_0, .int .i64 a1_1] 38 (0, 0)) (by (with_reducible repeat (first | refine blk_drewN ?_ _ | refine blk_drew ?_ | refine blk_alloc ?_ _)); exact BK180.out) k_ hk⟩))
                          (case aO => exact (by (with_reducible repeat (first | apply Kd.N_alloc | apply Kd.N_drewN | apply Kd.N_drew)); exact HO192.out))
                          (case aS => exact (below_size (by repeat (first | (with_reducible first | exact HB.out | apply below_alloc | apply pw_below_drewN | apply below_drew1 | refine below_set ?_ GE180.out) | exact HB.out))))
                          (case aL => have := LMc21.out; omega)
                          intro v199 w64 ho hb hg hat
                          rw [← Ny198.out] at ho
                          have n0_ := Aside0.mk (Kd.V_afterv (ok := (fun k_ => (P0_ k_ ∨ w.heap.size ≤ k_) ∧ some k_ ≠ (v188 : Value).ownBlock ∧ k_ ≠ gb180)) (by (with_reducible repeat (first | apply Kd.V_alloc | apply Kd.V_drewN | apply Kd.V_drew)); exact Kd.V_mono HO_0.out (fun _ hk => ⟨⟨hk.1.1.1, ⟨hk.1.2, hk.1.1.2⟩⟩, hk.2⟩)) hg hat)
                          have n1_ := Aside0.mk (blk_grown (g := gb180) (o := .cells #[.int .i64 a1_0, .int .i64 a1_1] 38 (0, 0)) (by (with_reducible repeat (first | refine blk_drewN ?_ _ | refine blk_drew ?_ | refine blk_alloc ?_ _)); exact BK180.out) hg (Kd.N_ne HO192.out BK180.out (by decide)))
                          have n2_ := Aside0.mk (Kd.R_over' (by (with_reducible repeat (first | apply Kd.R_alloc | apply Kd.R_drewN | apply Kd.R_drew)); exact HO189.out) (Kd.N_typed (by (with_reducible repeat (first | apply Kd.N_alloc | apply Kd.N_drewN | apply Kd.N_drew)); exact HO192.out)) (by decide) hg)
                          have n3_ := Aside0.mk (Kd.V_afterv (ok := (fun k_ => (P0_ k_ ∨ w.heap.size ≤ k_) ∧ some k_ ≠ (v188 : Value).ownBlock ∧ k_ ≠ gb180)) (by (with_reducible repeat (first | apply Kd.V_alloc | apply Kd.V_drewN | apply Kd.V_drew)); exact Kd.V_mono HO197.out (fun _ hk => ⟨⟨hk.1.1.1, ⟨hk.1.2, hk.1.1.2⟩⟩, hk.2⟩)) hg hat)
                          have n4_ := Aside0.mk (Kd.V_afterv (ok := (fun k_ => (P0_ k_ ∨ w.heap.size ≤ k_) ∧ some k_ ≠ (v188 : Value).ownBlock ∧ k_ ≠ gb180)) (by (with_reducible repeat (first | apply Kd.V_alloc | apply Kd.V_drewN | apply Kd.V_drew)); exact Kd.V_mono HO205.out (fun _ hk => ⟨⟨hk.1.1.1, ⟨hk.1.2, hk.1.1.2⟩⟩, hk.2⟩)) hg hat)
                          have n5_ := Aside0.mk (hb)
                          have n6_ := Aside0.mk (ho)
                          clear HO_0
                          clear BK180
                          clear HO189
                          clear HO197
                          clear HO205
                          clear HB
                          clear HO192
                          have HO_0 := n0_
                          have BK180 := n1_
                          have HO189 := n2_
                          have HO197 := n3_
                          have HO205 := n4_
                          have HB := n5_
                          have HO200 := n6_
                          clear n0_ n1_ n2_ n3_ n4_ n5_ n6_
                          clear ho hb hg hat
                          refine hK.out _ _ ⟨(blk_cell BK180.out 0).trans rfl, (blk_cell BK180.out 1).trans rfl⟩ (fun hHeld => ?_)
                          clear hK K
                          refine norm_ (a' := ?_) ?_ ?_
                          rotate_left
                          · show Act.put _ (some 47) _ = _
                            simp only [Act.put, List.setIfInBounds_toArray, List.set_cons_zero, List.set_cons_succ, i64_w, i32_w]
                            rfl
                          refine one_ (i := 9) (N := some 52) #[true, true, true, true, true, true, true, true, true, true, true, true, false, false] rfl rfl (one_of HT_.out (by kernel_rfl)) (by decide) (fun K hK => ?_)
                          refine Kd.N_append_rows_step k49 (w0 := w) w.heap.size (by rfl) (.tmp 47) (.tmp 51) 36 49 (.agg #[(.bool false), (.slice none 0 0), (.slice none 0 0)]) 56 rfl Try.underlying36 info49 rfl (by decide) (by omega) v199 y198 y201 _ _ _ (fun k_ => (P0_ k_ ∨ w.heap.size ≤ k_) ∧ some k_ ≠ (v188 : Value).ownBlock ∧ k_ ≠ gb180) (fun k_ => ((fun k_ => (P0_ k_ ∨ w.heap.size ≤ k_) ∧ some k_ ≠ (v188 : Value).ownBlock ∧ k_ ≠ gb180)) k_ ∧ some k_ ≠ (v199 : Value).ownBlock) rfl rfl ?aO ?aR (fun _ hk => hk) ?aF ?aB ?aS ?aL ?_
                          (case aR => exact (by skip; exact Kd.V_F (Kd.V_mono (ok' := (fun k_ => ((fun k_ => (P0_ k_ ∨ w.heap.size ≤ k_) ∧ some k_ ≠ (v188 : Value).ownBlock ∧ k_ ≠ gb180)) k_ ∧ some k_ ≠ (v199 : Value).ownBlock)) (HO205.out) (fun k_ hk => ⟨⟨hk.1.1, ⟨hk.1.2.1, hk.1.2.2⟩⟩, hk.2⟩))))
                          (case aB => exact (by repeat (first | (with_reducible first | exact HB.out | apply below_alloc | apply pw_below_drewN | apply below_drew1 | refine below_set ?_ GE180.out) | exact HB.out)))
                          (case aF => exact (fun k_ hk => ⟨(.inr (Nat.le_trans (below_size (by repeat (first | (with_reducible first | exact HB.out | apply below_alloc | apply pw_below_drewN | apply below_drew1 | refine below_set ?_ GE180.out) | exact HB.out))) hk)), Kd.fresh' (Kd.R_lt (by (with_reducible repeat (first | apply Kd.R_alloc | apply Kd.R_drewN | apply Kd.R_drew)); exact HO189.out)) k_ hk, Kd.freshB (g := gb180) (o := .cells #[.int .i64 a1_0, .int .i64 a1_1] 38 (0, 0)) (by (with_reducible repeat (first | refine blk_drewN ?_ _ | refine blk_drew ?_ | refine blk_alloc ?_ _)); exact BK180.out) k_ hk⟩))
                          (case aO => exact (by (with_reducible repeat (first | apply Kd.N_alloc | apply Kd.N_drewN | apply Kd.N_drew)); exact HO200.out))
                          (case aS => exact (below_size (by repeat (first | (with_reducible first | exact HB.out | apply below_alloc | apply pw_below_drewN | apply below_drew1 | refine below_set ?_ GE180.out) | exact HB.out))))
                          (case aL => have := LMc25.out; omega)
                          intro v207 w65 ho hb hg hat
                          rw [← Ny206.out] at ho
                          have n0_ := Aside0.mk (Kd.V_afterv (ok := (fun k_ => (P0_ k_ ∨ w.heap.size ≤ k_) ∧ some k_ ≠ (v188 : Value).ownBlock ∧ k_ ≠ gb180)) (by (with_reducible repeat (first | apply Kd.V_alloc | apply Kd.V_drewN | apply Kd.V_drew)); exact HO_0.out) hg hat)
                          have n1_ := Aside0.mk (blk_grown (g := gb180) (o := .cells #[.int .i64 a1_0, .int .i64 a1_1] 38 (0, 0)) (by (with_reducible repeat (first | refine blk_drewN ?_ _ | refine blk_drew ?_ | refine blk_alloc ?_ _)); exact BK180.out) hg (Kd.N_ne HO200.out BK180.out (by decide)))
                          have n2_ := Aside0.mk (Kd.R_over' (by (with_reducible repeat (first | apply Kd.R_alloc | apply Kd.R_drewN | apply Kd.R_drew)); exact HO189.out) (Kd.N_typed (by (with_reducible repeat (first | apply Kd.N_alloc | apply Kd.N_drewN | apply Kd.N_drew)); exact HO200.out)) (by decide) hg)
                          have n3_ := Aside0.mk (Kd.V_afterv (ok := (fun k_ => (P0_ k_ ∨ w.heap.size ≤ k_) ∧ some k_ ≠ (v188 : Value).ownBlock ∧ k_ ≠ gb180)) (by (with_reducible repeat (first | apply Kd.V_alloc | apply Kd.V_drewN | apply Kd.V_drew)); exact HO197.out) hg hat)
                          have n4_ := Aside0.mk (Kd.V_afterv (ok := (fun k_ => (P0_ k_ ∨ w.heap.size ≤ k_) ∧ some k_ ≠ (v188 : Value).ownBlock ∧ k_ ≠ gb180)) (by (with_reducible repeat (first | apply Kd.V_alloc | apply Kd.V_drewN | apply Kd.V_drew)); exact HO205.out) hg hat)
                          have n5_ := Aside0.mk (hb)
                          have n6_ := Aside0.mk (ho)
                          clear HO_0
                          clear BK180
                          clear HO189
                          clear HO197
                          clear HO205
                          clear HB
                          clear HO200
                          have HO_0 := n0_
                          have BK180 := n1_
                          have HO189 := n2_
                          have HO197 := n3_
                          have HO205 := n4_
                          have HB := n5_
                          have HO208 := n6_
                          clear n0_ n1_ n2_ n3_ n4_ n5_ n6_
                          clear ho hb hg hat
                          obtain ⟨Ao66, co66, eo66⟩ := Kd.N_slice HO208.out
                          (first | subst eo66 | (injection eo66 with f1_ f2_ f3_; have f4_ := f1_.symm; have f5_ := f3_.symm; clear f1_ f2_ f3_; subst f4_; subst f5_))
                          refine hK.out _ _ ⟨(blk_cell BK180.out 0).trans rfl, (blk_cell BK180.out 1).trans rfl⟩ (fun hHeld => ?_)
                          clear hK K
                          refine norm_ (a' := ?_) ?_ ?_
                          rotate_left
                          · show Act.put _ (some 52) _ = _
                            simp only [Act.put, List.setIfInBounds_toArray, List.set_cons_zero, List.set_cons_succ, i64_w, i32_w]
                            rfl
                          refine one_ (i := 12) (N := some 55) #[true, true, true, true, true, true, true, true, true, true, true, true, true, false] rfl rfl (one_of HT_.out (by kernel_rfl)) (by decide) (fun K hK => ?_)
                          refine goes_ Try.func21 (by kernel_rfl) rfl #[.slice Ao66 y206.length co66, .agg #[.int .i64 a1_0, .int .i64 a1_1], .int .i64 a2] (by rfl) rfl rfl (by (try simp only [List.map_toArray, List.map_cons, List.map_nil]); first | done | rfl | (simp only [List.length_drop, List.length_take]; rfl)) ?_
                          with_reducible refine (spread_Wants.calls kj7 _ _ y206 a1_0 a1_1 a2 t209 _ ?side1 ?side2 A26.out).mono ?_
                          (case side1 => repeat (first | exact (Kd.N_reads' HO208.out).2.2 | (with_reducible refine Kd.C_alloc ?_ _) | (with_reducible refine Kd.C_drewN ?_ _) | (with_reducible refine Kd.C_drew ?_)))
                          (case side2 => exact (Kd.N_reads' HO208.out).2.1)
                          rintro e w67 ⟨v210, rfl, ho0, hb⟩
                          refine ⟨_, rfl, ?_⟩
                          have n0_ := Aside0.mk (Kd.V_elder' (by (with_reducible repeat (first | apply Kd.V_alloc | apply Kd.V_drewN | apply Kd.V_drew)); exact HO_0.out) (Kd.R_base ho0) hb)
                          have n1_ := Aside0.mk (Kd.R_elder' (by (with_reducible repeat (first | apply Kd.R_alloc | apply Kd.R_drewN | apply Kd.R_drew)); exact HO189.out) (Kd.R_base ho0) hb)
                          have n2_ := Aside0.mk (Kd.V_elder' (by (with_reducible repeat (first | apply Kd.V_alloc | apply Kd.V_drewN | apply Kd.V_drew)); exact HO197.out) (Kd.R_base ho0) hb)
                          have n3_ := Aside0.mk (Kd.V_elder' (by (with_reducible repeat (first | apply Kd.V_alloc | apply Kd.V_drewN | apply Kd.V_drew)); exact HO205.out) (Kd.R_base ho0) hb)
                          have n4_ := Aside0.mk (Kd.N_elder' (by (with_reducible repeat (first | apply Kd.N_alloc | apply Kd.N_drewN | apply Kd.N_drew)); exact HO208.out) (Kd.R_base ho0) hb)
                          have n5_ := Aside0.mk (Kd.R_lower (Kd.R_new' (Kd.R_newM (M := fun k_ => (w.heap.size ≤ k_)) ho0 (below_size (by repeat (first | (with_reducible first | exact HB.out | apply below_alloc | apply pw_below_drewN | apply below_drew1 | refine below_set ?_ GE180.out) | exact HB.out))) (fun k_ h_ => h_)) (Kd.R_lt (by (with_reducible repeat (first | apply Kd.R_alloc | apply Kd.R_drewN | apply Kd.R_drew)); exact HO189.out))) (below_size (by repeat (first | (with_reducible first | exact HB.out | apply below_alloc | apply pw_below_drewN | apply below_drew1 | refine below_set ?_ GE180.out) | exact HB.out))))
                          have n6_ := Aside0.mk (blk_below (g := gb180) (o := .cells #[.int .i64 a1_0, .int .i64 a1_1] 38 (0, 0)) (by (with_reducible repeat (first | refine blk_drewN ?_ _ | refine blk_drew ?_ | refine blk_alloc ?_ _)); exact BK180.out) hb)
                          have n7_ := Aside0.mk (below_step (by repeat (first | (with_reducible first | exact HB.out | apply below_alloc | apply pw_below_drewN | apply below_drew1 | refine below_set ?_ GE180.out) | exact HB.out)) hb)
                          clear HO_0
                          clear HO189
                          clear HO197
                          clear HO205
                          clear HO208
                          clear BK180
                          clear HB
                          have HO_0 := n0_
                          have HO189 := n1_
                          have HO197 := n2_
                          have HO205 := n3_
                          have HO208 := n4_
                          have HO211 := n5_
                          have BK180 := n6_
                          have HB := n7_
                          clear n0_ n1_ n2_ n3_ n4_ n5_ n6_ n7_
                          (try clear hb)
                          (try clear hb2)
                          (try clear hk)
                          (try clear hi)
                          (try clear ho0)
                          refine hK.out _ _ ⟨(blk_cell BK180.out 0).trans rfl, (blk_cell BK180.out 1).trans rfl⟩ (fun hHeld => ?_)
                          clear hK K
                          refine norm_ (a' := ?_) ?_ ?_
                          rotate_left
                          · show Act.put _ (some 55) _ = _
                            simp only [Act.put, List.setIfInBounds_toArray, List.set_cons_zero, List.set_cons_succ, i64_w, i32_w]
                            rfl
                          refine pure_ (i := 13) (N := some 12) (v := ?_) (a' := ?_) #[true, true, true, true, true, true, true, true, true, true, true, true, true, true] rfl rfl (any_of HT_.out (by kernel_rfl)) (fun _ _ _ h => h) (Or.inl ⟨by rfl, ?_⟩) ?_ ?_
                          rotate_left
                          · intro w'
                            go_simp
                            with_reducible rfl
                          rotate_left
                          · simp only [Act.put, List.setIfInBounds_toArray, List.set_cons_zero, List.set_cons_succ, i64_w, i32_w]
                            rfl
                          refine done_ (done_of HT_.out (by kernel_rfl)) ?_
                          try go_wp2
                          have n0_ := Aside0.mk (Kd.V_drew HO_0.out)
                          have n1_ := Aside0.mk (Kd.R_drew HO189.out)
                          have n2_ := Aside0.mk (Kd.V_drew HO197.out)
                          have n3_ := Aside0.mk (Kd.V_drew HO205.out)
                          have n4_ := Aside0.mk (Kd.N_drew HO208.out)
                          have n5_ := Aside0.mk (Kd.R_drew HO211.out)
                          have n6_ := Aside0.mk (blk_drew BK180.out)
                          have n7_ := Aside0.mk (below_drew1 HB.out)
                          clear HO_0
                          clear HO189
                          clear HO197
                          clear HO205
                          clear HO208
                          clear HO211
                          clear BK180
                          clear HB
                          have HO_0 := n0_
                          have HO189 := n1_
                          have HO197 := n2_
                          have HO205 := n3_
                          have HO208 := n4_
                          have HO211 := n5_
                          have BK180 := n6_
                          have HB := n7_
                          clear n0_ n1_ n2_ n3_ n4_ n5_ n6_ n7_
                          obtain ⟨Ao69, co69, eo69⟩ := Kd.R_slice HO189.out
                          (first | subst eo69 | (injection eo69 with f1_ f2_ f3_; have f4_ := f1_.symm; have f5_ := f3_.symm; clear f1_ f2_ f3_; subst f4_; subst f5_))
                          have p212 : 0 ≤ (a3 : Int) := of_decide_eq_true (by first | (with_reducible assumption) | assumption)
                          have q212 : a3 < (t187.length : Int) := of_decide_eq_true (by first | (with_reducible assumption) | assumption)
                          obtain ⟨ad212, e212, hx212_0⟩ := Kd.at_int (Kd.R_reads' HO189.out).2.2 a3 p212 q212
                          cases e212
                          replace p212 := eq_true p212
                          replace q212 := eq_true q212
                          refine start_ (n := 20) (S := fun w' => w'.cell? (ad212.add (a3).toNat) = some (.int .i64 (rd t187 a3))) (ds := []) #[false, false, false, false, false, false, false, false, false, false, false, false, false, false, false, false, false, false, false, false] (by kernel_rfl) rfl rfl (hx212_0) (fun hHeld => ?_); refine with_tabW kissgatelaw17_SpreadClosed.tab8 kissgatelaw17_SpreadClosed.bits8 (fun HT_ HW_ => ?_)
                          generalize w67.drew = w68 at HO_0 HO189 HO197 HO205 HO208 HO211 BK180 HB hx212_0 hHeld ⊢
                          refine pure_ (i := 0) (N := some 56) (v := ?_) (a' := ?_) #[true, false, false, false, false, false, false, false, false, false, false, false, false, false, false, false, false, false, false, false] rfl rfl (any_of HT_.out (by kernel_rfl)) (fun _ _ _ h => h) (Or.inl ⟨by rfl, ?_⟩) ?_ ?_
                          rotate_left
                          · intro w'
                            go_simp
                            with_reducible rfl
                          rotate_left
                          · simp only [Act.put, List.setIfInBounds_toArray, List.set_cons_zero, List.set_cons_succ, i64_w, i32_w]
                            rfl
                          refine pure_ (i := 1) (N := some 57) (v := ?_) (a' := ?_) #[true, true, false, false, false, false, false, false, false, false, false, false, false, false, false, false, false, false, false, false] rfl rfl (any_of HT_.out (by kernel_rfl)) (fun _ _ _ h => h) (Or.inl ⟨by rfl, ?_⟩) ?_ ?_
                          rotate_left
                          · intro w'
                            go_simp
                            with_reducible rfl
                          rotate_left
                          · simp only [Act.put, List.setIfInBounds_toArray, List.set_cons_zero, List.set_cons_succ, i64_w, i32_w]
                            rfl
                          refine pure_ (i := 2) (N := some 58) (v := ?_) (a' := ?_) #[true, true, true, false, false, false, false, false, false, false, false, false, false, false, false, false, false, false, false, false] rfl rfl (any_of HT_.out (by kernel_rfl)) (fun _ _ _ h => h) (Or.inl ⟨by rfl, ?_⟩) ?_ ?_
                          rotate_left
                          · intro w'
                            go_simp
                            with_reducible rfl
                          rotate_left
                          · simp only [Act.put, List.setIfInBounds_toArray, List.set_cons_zero, List.set_cons_succ, i64_w, i32_w]
                            rfl
                          refine take_ (i := 3) (N := some 59) (v := ?_) (a' := ?_) #[true, true, true, true, false, false, false, false, false, false, false, false, false, false, false, false, false, false, false, false] rfl rfl (take_ofW HT_.out HW_.out (by kernel_rfl)) (fun _ _ _ h => h) (Or.inl ⟨by rfl, ?_⟩) hHeld ?_ ?_
                          rotate_left
                          · intro w' s0
                            go_simp
                            with_reducible rfl
                          rotate_left
                          · simp only [Act.put, List.setIfInBounds_toArray, List.set_cons_zero, List.set_cons_succ, i64_w, i32_w]
                            rfl
                          refine pure_ (i := 4) (N := some 60) (v := ?_) (a' := ?_) #[true, true, true, true, true, false, false, false, false, false, false, false, false, false, false, false, false, false, false, false] rfl rfl (any_of HT_.out (by kernel_rfl)) (fun _ _ _ h => h) (Or.inl ⟨by rfl, ?_⟩) ?_ ?_
                          rotate_left
                          · intro w'
                            go_simp
                            with_reducible rfl
                          rotate_left
                          · simp only [Act.put, List.setIfInBounds_toArray, List.set_cons_zero, List.set_cons_succ, i64_w, i32_w]
                            rfl
                          refine pure_ (i := 5) (N := some 61) (v := ?_) (a' := ?_) #[true, true, true, true, true, true, false, false, false, false, false, false, false, false, false, false, false, false, false, false] rfl rfl (any_of HT_.out (by kernel_rfl)) (fun _ _ _ h => h) (Or.inl ⟨by rfl, ?_⟩) ?_ ?_
                          rotate_left
                          · intro w'
                            go_simp
                            with_reducible rfl
                          rotate_left
                          · simp only [Act.put, List.setIfInBounds_toArray, List.set_cons_zero, List.set_cons_succ, i64_w, i32_w]
                            rfl
                          refine pure_ (i := 6) (N := some 62) (v := undef) (a' := ?_) #[true, true, true, true, true, true, true, false, false, false, false, false, false, false, false, false, false, false, false, false] rfl rfl (any_of HT_.out (by kernel_rfl)) (fun _ _ _ h => h) (Or.inr ⟨by rfl, rfl⟩) ?_ ?_
                          rotate_left
                          · simp only [Act.put, List.setIfInBounds_toArray, List.set_cons_zero, List.set_cons_succ, i64_w, i32_w]
                            rfl
                          refine pure_ (i := 7) (N := some 63) (v := undef) (a' := ?_) #[true, true, true, true, true, true, true, true, false, false, false, false, false, false, false, false, false, false, false, false] rfl rfl (any_of HT_.out (by kernel_rfl)) (fun _ _ _ h => h) (Or.inr ⟨by rfl, rfl⟩) ?_ ?_
                          rotate_left
                          · simp only [Act.put, List.setIfInBounds_toArray, List.set_cons_zero, List.set_cons_succ, i64_w, i32_w]
                            rfl
                          refine pure_ (i := 8) (N := some 64) (v := undef) (a' := ?_) #[true, true, true, true, true, true, true, true, true, false, false, false, false, false, false, false, false, false, false, false] rfl rfl (any_of HT_.out (by kernel_rfl)) (fun _ _ _ h => h) (Or.inr ⟨by rfl, rfl⟩) ?_ ?_
                          rotate_left
                          · simp only [Act.put, List.setIfInBounds_toArray, List.set_cons_zero, List.set_cons_succ, i64_w, i32_w]
                            rfl
                          refine pure_ (i := 9) (N := some 65) (v := undef) (a' := ?_) #[true, true, true, true, true, true, true, true, true, true, false, false, false, false, false, false, false, false, false, false] rfl rfl (any_of HT_.out (by kernel_rfl)) (fun _ _ _ h => h) (Or.inr ⟨by rfl, rfl⟩) ?_ ?_
                          rotate_left
                          · simp only [Act.put, List.setIfInBounds_toArray, List.set_cons_zero, List.set_cons_succ, i64_w, i32_w]
                            rfl
                          refine pure_ (i := 10) (N := some 66) (v := undef) (a' := ?_) #[true, true, true, true, true, true, true, true, true, true, true, false, false, false, false, false, false, false, false, false] rfl rfl (any_of HT_.out (by kernel_rfl)) (fun _ _ _ h => h) (Or.inr ⟨by rfl, rfl⟩) ?_ ?_
                          rotate_left
                          · simp only [Act.put, List.setIfInBounds_toArray, List.set_cons_zero, List.set_cons_succ, i64_w, i32_w]
                            rfl
                          refine pure_ (i := 11) (N := some 67) (v := undef) (a' := ?_) #[true, true, true, true, true, true, true, true, true, true, true, true, false, false, false, false, false, false, false, false] rfl rfl (any_of HT_.out (by kernel_rfl)) (fun _ _ _ h => h) (Or.inr ⟨by rfl, rfl⟩) ?_ ?_
                          rotate_left
                          · simp only [Act.put, List.setIfInBounds_toArray, List.set_cons_zero, List.set_cons_succ, i64_w, i32_w]
                            rfl
                          refine pure_ (i := 12) (N := some 68) (v := undef) (a' := ?_) #[true, true, true, true, true, true, true, true, true, true, true, true, true, false, false, false, false, false, false, false] rfl rfl (any_of HT_.out (by kernel_rfl)) (fun _ _ _ h => h) (Or.inr ⟨by rfl, rfl⟩) ?_ ?_
                          rotate_left
                          · simp only [Act.put, List.setIfInBounds_toArray, List.set_cons_zero, List.set_cons_succ, i64_w, i32_w]
                            rfl
                          refine pure_ (i := 13) (N := some 69) (v := undef) (a' := ?_) #[true, true, true, true, true, true, true, true, true, true, true, true, true, true, false, false, false, false, false, false] rfl rfl (any_of HT_.out (by kernel_rfl)) (fun _ _ _ h => h) (Or.inr ⟨by rfl, rfl⟩) ?_ ?_
                          rotate_left
                          · simp only [Act.put, List.setIfInBounds_toArray, List.set_cons_zero, List.set_cons_succ, i64_w, i32_w]
                            rfl
                          refine pure_ (i := 14) (N := some 70) (v := undef) (a' := ?_) #[true, true, true, true, true, true, true, true, true, true, true, true, true, true, true, false, false, false, false, false] rfl rfl (any_of HT_.out (by kernel_rfl)) (fun _ _ _ h => h) (Or.inr ⟨by rfl, rfl⟩) ?_ ?_
                          rotate_left
                          · simp only [Act.put, List.setIfInBounds_toArray, List.set_cons_zero, List.set_cons_succ, i64_w, i32_w]
                            rfl
                          refine pure_ (i := 15) (N := some 71) (v := undef) (a' := ?_) #[true, true, true, true, true, true, true, true, true, true, true, true, true, true, true, true, false, false, false, false] rfl rfl (any_of HT_.out (by kernel_rfl)) (fun _ _ _ h => h) (Or.inr ⟨by rfl, rfl⟩) ?_ ?_
                          rotate_left
                          · simp only [Act.put, List.setIfInBounds_toArray, List.set_cons_zero, List.set_cons_succ, i64_w, i32_w]
                            rfl
                          refine pure_ (i := 16) (N := some 72) (v := undef) (a' := ?_) #[true, true, true, true, true, true, true, true, true, true, true, true, true, true, true, true, true, false, false, false] rfl rfl (any_of HT_.out (by kernel_rfl)) (fun _ _ _ h => h) (Or.inr ⟨by rfl, rfl⟩) ?_ ?_
                          rotate_left
                          · simp only [Act.put, List.setIfInBounds_toArray, List.set_cons_zero, List.set_cons_succ, i64_w, i32_w]
                            rfl
                          refine pure_ (i := 17) (N := some 73) (v := undef) (a' := ?_) #[true, true, true, true, true, true, true, true, true, true, true, true, true, true, true, true, true, true, false, false] rfl rfl (any_of HT_.out (by kernel_rfl)) (fun _ _ _ h => h) (Or.inr ⟨by rfl, rfl⟩) ?_ ?_
                          rotate_left
                          · simp only [Act.put, List.setIfInBounds_toArray, List.set_cons_zero, List.set_cons_succ, i64_w, i32_w]
                            rfl
                          refine pure_ (i := 18) (N := some 74) (v := ?_) (a' := ?_) #[true, true, true, true, true, true, true, true, true, true, true, true, true, true, true, true, true, true, true, false] rfl rfl (any_of HT_.out (by kernel_rfl)) (fun _ _ _ h => h) (Or.inl ⟨by rfl, ?_⟩) ?_ ?_
                          rotate_left
                          · intro w'
                            go_simp
                            with_reducible rfl
                          rotate_left
                          · simp only [Act.put, List.setIfInBounds_toArray, List.set_cons_zero, List.set_cons_succ, i64_w, i32_w]
                            rfl
                          refine pure_ (i := 19) (N := some 8) (v := ?_) (a' := ?_) #[true, true, true, true, true, true, true, true, true, true, true, true, true, true, true, true, true, true, true, true] rfl rfl (any_of HT_.out (by kernel_rfl)) (fun _ _ _ h => h) (Or.inl ⟨by rfl, ?_⟩) ?_ ?_
                          rotate_left
                          · intro w'
                            go_simp
                            with_reducible rfl
                          rotate_left
                          · simp only [Act.put, List.setIfInBounds_toArray, List.set_cons_zero, List.set_cons_succ, i64_w, i32_w]
                            rfl
                          refine done_ (done_of HT_.out (by kernel_rfl)) ?_
                          try go_wp2
                          go_ret
                          exact ⟨by first | rfl | (simp [errW_none, errW_some] <;> rfl) | (simp only [← hji22]; first | rfl | (simp [errW_none, errW_some] <;> rfl)) | (simp [*, errW_none, errW_some] <;> rfl), by repeat (first | (with_reducible first | exact HB.out | apply below_alloc | apply pw_below_drewN | apply below_drew1 | refine below_set ?_ GE180.out) | exact HB.out)⟩
                      · rw [if_neg c27] at H
                        exact absurd H (by simp)
                    · rw [if_neg c25] at H
                      exact absurd H (by simp)
                  · rw [if_neg c24] at H
                    exact absurd H (by simp)
                · rw [if_neg c23] at H
                  exact absurd H (by simp)
              · rw [if_neg c21] at H
                exact absurd H (by simp)
            · rw [if_neg c20] at H
              exact absurd H (by simp)
          · rw [if_neg c19] at H
            exact absurd H (by simp)
  · replace c6 := Bool.eq_false_iff.mpr c6
    subst c6
    have H1 : (some false) = some r := by rw [if_neg (show ¬ (false = true) by decide)] at H; exact H
    clear H
    have H := H1
    clear H1
    obtain rfl := Option.some.inj H
    go_enter Try.func7, Try.ntmps7
    go_wp2_with (first | ((with_reducible refine gate_dst (N := 5) rfl ?_); (try (refine gate_guard (by rfl) ?_; dsimp only)); refine box_event ?hg (N := 5) ?hd (cs := #[.int .i64 a1_0, .int .i64 a1_1]) (t := 38) ?hr ?_; (case hd => rfl); (case hg => rfl); (case hr => first | (go_simp; done) | (go_simp; rfl)); intro gb180 hg w70 hbox hb; have n0_ := Aside0.mk (Kd.V_below (Kd.V_elderB (by (with_reducible repeat (first | apply Kd.V_alloc | apply Kd.V_drewN | apply Kd.V_drew)); exact HO0.out) gb180 (Nat.le_of_eq hg.symm)) hb); have n1_ := Aside0.mk (below_step (by repeat (first | (with_reducible first | exact HB.out | apply below_alloc | apply pw_below_drewN | apply below_drew1) | exact HB.out)) hb); have n2_ := Aside0.mk (hbox); have n3_ := Aside0.mk ((by rw [hg]; exact (below_size (by repeat (first | (with_reducible first | exact HB.out | apply below_alloc | apply pw_below_drewN | apply below_drew1) | exact HB.out))) : w.heap.size ≤ gb180)); have n4_ := Aside0.mk ((by rw [hg]; exact (below_size (by repeat (first | (with_reducible first | exact HB.out | apply below_alloc | apply pw_below_drewN | apply below_drew1) | exact HB.out))) : w.heap.size ≤ gb180)); clear HO0; clear HB; have HO0 := n0_; have HB := n1_; have BK180 := n2_; have GW180 := n3_; have GE180 := n4_; clear n0_ n1_ n2_ n3_ n4_; clear hb hbox hg) | ((with_reducible refine gate_callee (f := 19) rfl ?_); refine goesL_ (some 13) rfl rfl Try.func19 (by kernel_rfl) rfl #[] rfl (by (try simp only [List.map_toArray, List.map_cons, List.map_nil]); first | done | rfl | (simp only [List.length_drop, List.length_take]; rfl)) ?_; (with_reducible refine (kissgatelaw17_alive.calls k  false _ A5.out).mono ?_); rintro e w71 ⟨rfl, hb⟩; refine ⟨_, rfl, ?_⟩; have n0_ := Aside0.mk (Kd.V_below (by (with_reducible repeat (first | apply Kd.V_alloc | apply Kd.V_drewN | apply Kd.V_drew)); exact HO0.out) hb); have n1_ := Aside0.mk (blk_below (g := gb180) (o := .cells #[.int .i64 a1_0, .int .i64 a1_1] 38 (0, 0)) (by (with_reducible repeat (first | refine blk_drewN ?_ _ | refine blk_drew ?_ | refine blk_alloc ?_ _)); exact BK180.out) hb); have n2_ := Aside0.mk (below_step (by repeat (first | (with_reducible first | exact HB.out | apply below_alloc | apply pw_below_drewN | apply below_drew1 | refine below_set ?_ GE180.out) | exact HB.out)) hb); clear HO0; clear BK180; clear HB; have HO0 := n0_; have BK180 := n1_; have HB := n2_; clear n0_ n1_ n2_; (try clear hb); (try clear hb2); (try clear hk); (try clear hi)))
    go_ret
    exact ⟨by first | rfl | (simp [errW_none, errW_some] <;> rfl) | (simp [*, errW_none, errW_some] <;> rfl), by repeat (first | (with_reducible first | exact HB.out | apply below_alloc | apply pw_below_drewN | apply below_drew1 | refine below_set ?_ GE180.out) | exact HB.out)⟩
end Go.Proofs.Ytbcngajkokjfjaa.QSps
namespace Go.Proofs.Ytbcngajkokjfjaa.Opn
open Go.ChangeShapes Go.WideShapes Go.Proofs.YtbcngajkokjfjaaW.PrintWords
variable {P : Program}
def Opens {α : Type} (P : Program) (t : TypeId) (d : Kd α) (good : α → Prop) : Prop :=
  ∀ (H : Type) (enc : TypeId × Value → H) (w : World) (fuel : Nat) (cs : List Value) (x : DataW H × List MemPlace),
    DataW.trod enc P w 0 (fun _ => true) true fuel t cs = some x → (∀ n ∈ x.1.weights P t, n ≤ reachBytes) → ∃ a : α, d.K w a cs ∧ good a
theorem opens_int {t : TypeId} {k : IntKind} (hu : P.underlying t = some (.int k)) : Opens P t (Kd.int k) (fun n => (Lit.int k n).wf = true) := by
  intro H enc w fuel cs x h _
  obtain ⟨n, rfl, _, hw⟩ := DataW.trod_int hu h
  exact ⟨n, rfl, hw⟩
theorem opens_bool {t : TypeId} (hu : P.underlying t = some .bool) : Opens P t Kd.bool (fun _ => True) := by
  intro H enc w fuel cs x h _
  obtain ⟨b, rfl, _⟩ := DataW.trod_bool hu h
  exact ⟨b, rfl, trivial⟩
theorem weightsAll_mem {H : Type} {e : TypeId} : ∀ {l : List (DataW H)} {d : DataW H}, d ∈ l → ∀ n ∈ d.weights P e, n ∈ DataW.weightsAll P e l
  | [], d, h, _, _ => by simp at h
  | d0 :: l, d, h, n, hn => by
    simp only [DataW.weightsAll, List.mem_append]
    rcases List.mem_cons.1 h with rfl | h
    · exact Or.inl hn
    · exact Or.inr (weightsAll_mem h n hn)
theorem add_at_ (a : Addr) (i j : Nat) : (a.add i).add j = a.add (i + j) := by
  unfold Addr.add
  by_cases hi : i = 0
  · subst hi; simp
  · by_cases hj : j = 0
    · subst hj; simp
    · simp [hi, hj, Nat.add_assoc]
theorem choose_list {α : Type} {Q : Nat → α → Prop} : ∀ (n : Nat), (∀ i, i < n → ∃ a, Q i a) → ∃ l : List α, l.length = n ∧ ∀ i a, l[i]? = some a → Q i a
  | 0, _ => ⟨[], rfl, fun i a h => by simp at h⟩
  | n + 1, h => by
    obtain ⟨l, hl, hq⟩ := choose_list n (fun i hi => h i (by omega))
    obtain ⟨a, ha⟩ := h n (by omega)
    refine ⟨l ++ [a], by simp [hl], fun i b hb => ?_⟩
    rcases Nat.lt_or_ge i l.length with hi | hi
    · rw [List.getElem?_append_left hi] at hb
      exact hq i b hb
    · rw [List.getElem?_append_right hi] at hb
      have hlt := (List.getElem?_eq_some_iff.1 hb).1
      simp at hlt
      have e : i = n := by omega
      subst e
      rw [show i - l.length = 0 from by omega] at hb
      have hb' : a = b := by simpa using hb
      subst hb'
      exact ha
theorem opens_slice_row {α : Type} {t e : TypeId} {d : Kd α} {good : α → Prop} (hu : P.underlying t = some (.slice e)) (hC : P.cellsOf e = d.sz) {B : Nat} (hB : P.bytesOf e = B) (ho : Opens P e d good)
    (H : Type) (enc : TypeId × Value → H) (w : World) (fuel : Nat) (A : Option Addr) (len cap : Nat) (x : DataW H × List MemPlace)
    (h : DataW.trod enc P w 0 (fun _ => true) true fuel t [.slice A len cap] = some x) (hz : ∀ n ∈ x.1.weights P t, n ≤ reachBytes) :
    ∃ l : List α, l.length = len ∧ len ≤ cap ∧ d.C w A len l ∧ len ≤ maxLen ∧ len * B ≤ 140737488351232 ∧ ∀ a ∈ l, good a := by
  rcases DataW.trod_slice hu h with ⟨h0, _⟩ | ⟨a, len', cap', elems, rest, n, _, hcs, hx, _, hl, hm, hlen, hel, _, _⟩
  · simp only [List.cons.injEq, Value.slice.injEq, and_true] at h0
    obtain ⟨rfl, rfl, rfl⟩ := h0
    exact ⟨[], rfl, Nat.le_refl _, ⟨rfl, Nat.zero_le _, fun h => absurd h (by omega)⟩, Nat.zero_le _, by simp, fun a ha => by simp at ha⟩
  · simp only [List.cons.injEq, Value.slice.injEq, and_true] at hcs
    obtain ⟨rfl, rfl, rfl⟩ := hcs
    have each : ∀ i, i < len → ∃ b : α, (∃ c, c.length = d.sz ∧ d.K w b c ∧ ∀ j u, c[j]? = some u → w.cell? (a.add (i * d.sz + j)) = some u) ∧ good b := by
      intro i hi
      have h1 := hel i hi
      have hie : i < elems.length := by omega
      rw [List.getElem?_eq_getElem hie, Option.bind_eq_some_iff] at h1
      obtain ⟨cs', hc, ht'⟩ := h1
      have hw' : ∀ n ∈ (elems[i]).1.weights P e, n ≤ reachBytes := by
        intro m hm'
        refine hz m ?_
        rw [hx]
        simp only [DataW.weights, hu]
        refine List.mem_cons_of_mem _ (List.mem_append_left _ ?_)
        exact weightsAll_mem (List.mem_map.2 ⟨elems[i], List.getElem_mem hie, rfl⟩) m hm'
      obtain ⟨b, hb, hg⟩ := ho H enc w _ cs' _ ht' hw'
      obtain ⟨_, hcl, hat⟩ := World.cells?_some hc
      refine ⟨b, ⟨cs', by rw [hcl, hC], hb, fun j u hu' => ?_⟩, hg⟩
      have hj : j < P.cellsOf e := by
        have := (List.getElem?_eq_some_iff.1 hu').1
        omega
      have := hat j hj
      rw [hC] at this
      rw [← add_at_, this, hu']
    obtain ⟨l, hll, hq⟩ := choose_list len each
    refine ⟨l, hll, hl, ⟨hll, by simp only [maxLen] at hm; omega, fun _ => ⟨a, rfl, fun j p hj => (hq j p hj).1⟩⟩, by omega, ?_, fun b hb => ?_⟩
    · have h1 := hz ((elems.length + rest.length) * P.bytesOf e) (by rw [hx]; simp [DataW.weights, hu])
      rw [hB] at h1
      simp only [reachBytes] at h1
      refine Nat.le_trans (Nat.mul_le_mul_right _ ?_) h1
      omega
    · obtain ⟨i, hi⟩ := List.getElem?_of_mem hb
      exact (hq i b hi).2
theorem opens_slice {α : Type} {t e : TypeId} {d : Kd α} {good : α → Prop} (hu : P.underlying t = some (.slice e)) (hC : P.cellsOf e = d.sz) {B : Nat} (hB : P.bytesOf e = B) (ho : Opens P e d good) :
    Opens P t (Kd.slice e d) (fun l => l.length ≤ maxLen ∧ l.length * B ≤ 140737488351232 ∧ ∀ a ∈ l, good a) := by
  intro H enc w fuel cs x h hz
  have hform : ∃ A len cap, cs = [.slice A len cap] := by
    rcases DataW.trod_slice hu h with ⟨h0, _⟩ | ⟨a, len', cap', elems, rest, n, _, hcs, _⟩
    · exact ⟨_, _, _, h0⟩
    · exact ⟨_, _, _, hcs⟩
  obtain ⟨A, len, cap, rfl⟩ := hform
  obtain ⟨l, rfl, hlc, hC', hm, hb, hg⟩ := opens_slice_row hu hC hB ho H enc w fuel A len cap x h hz
  exact ⟨l, ⟨A, cap, rfl, hlc, hC'⟩, hm, hb, hg⟩
def OpensFs {α : Type} (P : Program) (off : Nat) (fs : List Field) (d : Kd α) (good : α → Prop) : Prop :=
  ∀ (H : Type) (enc : TypeId × Value → H) (w : World) (fuel : Nat) (cs : List Value) (ys : List (DataW H × List MemPlace)),
    cs.length = off + d.sz → ys.length = fs.length → (∀ (i : Nat) (f : Field), fs[i]? = some f → DataW.trod enc P w 0 (fun _ => true) true fuel f.type ((cs.drop f.offset).take (P.cellsOf f.type)) = ys[i]?) →
    (∀ n ∈ DataW.weightsEach P (fs.map (·.type)) (ys.map (·.1)), n ≤ reachBytes) → ∃ a : α, d.K w a (cs.drop off) ∧ good a
theorem opensFs_one {α : Type} {off : Nat} {f : Field} {d : Kd α} {good : α → Prop} (ho : f.offset = off) (hC : P.cellsOf f.type = d.sz) (h : Opens P f.type d good) : OpensFs P off [f] d good := by
  intro H enc w fuel cs ys hcs hy hf hz
  match ys, hy with
  | [y], _ =>
    have h1 := hf 0 f rfl
    rw [ho, hC, List.take_of_length_le (by simp [List.length_drop]; omega)] at h1
    exact h H enc w fuel _ y h1 (fun n hn => hz n (by simp only [List.map_cons, DataW.weightsEach, List.mem_append]; exact Or.inl hn))
theorem opensFs_cons {α β : Type} {off : Nat} {f : Field} {fs : List Field} {d : Kd α} {e : Kd β} {g1 : α → Prop} {g2 : β → Prop} (ho : f.offset = off) (hC : P.cellsOf f.type = d.sz) (h : Opens P f.type d g1) (hs : OpensFs P (off + d.sz) fs e g2) :
    OpensFs P off (f :: fs) (Kd.pair d e) (fun p => g1 p.1 ∧ g2 p.2) := by
  intro H enc w fuel cs ys hcs hy hf hz
  match ys, hy with
  | y :: ys, hy =>
    have hsz : (Kd.pair d e).sz = d.sz + e.sz := rfl
    rw [hsz] at hcs
    have h1 := hf 0 f rfl
    rw [ho, hC] at h1
    obtain ⟨a, ha, hga⟩ := h H enc w fuel _ y h1 (fun n hn => hz n (by simp only [List.map_cons, DataW.weightsEach, List.mem_append]; exact Or.inl hn))
    obtain ⟨b, hb, hgb⟩ := hs H enc w fuel cs ys (by omega) (by simpa using hy) (fun i f' hi => by simpa using hf (i + 1) f' (by simpa using hi)) (fun n hn => hz n (by simp only [List.map_cons, DataW.weightsEach, List.mem_append]; exact Or.inr hn))
    refine ⟨(a, b), ⟨(cs.drop off).take d.sz, cs.drop (off + d.sz), ?_, ha, hb⟩, hga, hgb⟩
    rw [← List.drop_drop, List.take_append_drop]
theorem opens_struct {α : Type} {t : TypeId} {fs : Array Field} {d : Kd α} {good : α → Prop} (hu : P.underlying t = some (.struct fs)) (hC : P.cellsOf t = d.sz) (h : OpensFs P 0 fs.toList d good) : Opens P t d good := by
  intro H enc w fuel cs x hx hz
  obtain ⟨ys, n, _, hxe, hlen, hyl, hf⟩ := DataW.trod_struct hu hx
  obtain ⟨a, ha, hg⟩ := h H enc w n cs ys (by omega) (by simpa using hyl) (fun i f hi => hf i f (by simpa using hi)) (fun m hm => hz m (by rw [hxe]; simp only [DataW.weights, hu]; exact hm))
  exact ⟨a, by simpa using ha, hg⟩
theorem opens_iso {α β : Type} {t : TypeId} {d : Kd α} {good : α → Prop} (f : β → α) (g : α → β) (hfg : ∀ a, f (g a) = a) (h : Opens P t d good) : Opens P t (Kd.iso d f) (fun b => good (f b)) := by
  intro H enc w fuel cs x hx hz
  obtain ⟨a, ha, hga⟩ := h H enc w fuel cs x hx hz
  refine ⟨g a, ?_, by show good (f (g a)); rw [hfg]; exact hga⟩
  show d.K w (f (g a)) cs
  rw [hfg]
  exact ha
theorem opens_imp {α : Type} {t : TypeId} {d : Kd α} {g1 g2 : α → Prop} (h : Opens P t d g1) (hg : ∀ a, g1 a → g2 a) : Opens P t d g2 := by
  intro H enc w fuel cs x hx hz
  obtain ⟨a, ha, hga⟩ := h H enc w fuel cs x hx hz
  exact ⟨a, ha, hg a hga⟩
theorem weights_of {H : Type} {ts : List TypeId} {ds : List (DataW H)} (h : (DataW.weightsEach P ts ds).all (· ≤ reachBytes) = true) {j : Nat} {t : TypeId} {d : DataW H} (ht : ts[j]? = some t) (hd : ds[j]? = some d) : ∀ n ∈ d.weights P t, n ≤ reachBytes := by
  intro n hn
  have := List.all_eq_true.1 h _ (DataW.weights_mem_each ht hd n hn)
  simpa using this
theorem arg_slice {α : Type} {t e : TypeId} {d : Kd α} {good : α → Prop} (hu : P.underlying t = some (.slice e)) (hC : P.cellsOf e = d.sz) {B : Nat} (hB : P.bytesOf e = B) (ho : Opens P e d good)
    {H : Type} {enc : TypeId × Value → H} {w : World} {r : Reach} {b0 : Nat} {v : Value} {x : DataW H} {ps : List MemPlace} (hv : Value.okWide P w r b0 t v)
    (h : DataW.Trod enc P w 0 (fun _ => true) true t v x ps) (hz : ∀ n ∈ x.weights P t, n ≤ reachBytes) :
    ∃ (A : Option Addr) (c : Nat) (l : List α), v = .slice A l.length c ∧ l.length ≤ c ∧ d.C w A l.length l ∧ l.length ≤ maxLen ∧ l.length * B ≤ 140737488351232 ∧ ∀ a ∈ l, good a := by
  obtain ⟨A, len, c, rfl⟩ := okWide_slice hu hv
  obtain ⟨fuel, hf⟩ := h
  have hf' : DataW.trod enc P w 0 (fun _ => true) true fuel t [.slice A len c] = some (x, ps) := by simpa [Value.cells] using hf
  obtain ⟨l, rfl, hlc, hC', hm, hb, hg⟩ := opens_slice_row hu hC hB ho H enc w fuel A len c _ hf' hz
  exact ⟨A, c, l, rfl, hlc, hC', hm, hb, hg⟩
theorem arg_struct {α : Type} {t : TypeId} {fs : Array Field} {d : Kd α} {good : α → Prop} (hu : P.underlying t = some (.struct fs)) (ho : Opens P t d good)
    {H : Type} {enc : TypeId × Value → H} {w : World} {r : Reach} {b0 : Nat} {v : Value} {x : DataW H} {ps : List MemPlace} (hv : Value.okWide P w r b0 t v)
    (h : DataW.Trod enc P w 0 (fun _ => true) true t v x ps) (hz : ∀ n ∈ x.weights P t, n ≤ reachBytes) :
    ∃ (a : α) (cs : List Value), v = .agg cs.toArray ∧ d.K w a cs ∧ good a := by
  obtain ⟨cs, rfl, _⟩ := okWide_struct hu hv
  obtain ⟨fuel, hf⟩ := h
  obtain ⟨a, ha, hg⟩ := ho H enc w fuel _ _ hf hz
  exact ⟨a, cs.toList, by simp, by simpa [Value.cells] using ha, hg⟩
theorem arg_int {t : TypeId} {k : IntKind} (hu : P.underlying t = some (.int k))
    {H : Type} {enc : TypeId × Value → H} {w : World} {r : Reach} {b0 : Nat} {v : Value} {x : DataW H} {ps : List MemPlace} (hv : Value.okWide P w r b0 t v)
    (h : DataW.Trod enc P w 0 (fun _ => true) true t v x ps) : ∃ n, v = .int k n ∧ (Lit.int k n).wf = true := by
  obtain ⟨n, rfl⟩ := okWide_int hu hv
  obtain ⟨fuel, hf⟩ := h
  obtain ⟨m, hcs, _, hw⟩ := DataW.trod_int hu hf
  simp only [Value.cells] at hcs
  have e : n = m := by simpa using hcs
  subst e
  exact ⟨n, rfl, hw⟩
end Go.Proofs.Ytbcngajkokjfjaa.Opn
namespace Go.Proofs.Ytbcngajkokjfjaa.spreadClosed
open Go.RowKit Go.Proofs.YtbcngajkokjfjaaW.PrintWords Go.Proofs.YtbcngajkokjfjaaW.PrintLast Go.Proofs.YtbcngajkokjfjaaW.PrintMore Go.Proofs.Ytbcngajkokjfjaa.QSps
set_option linter.unusedVariables false
def G38 (x : S38) : Prop := (Lit.int .i64 x.f0).wf = true ∧ (Lit.int .i64 x.f1).wf = true
def G49 (x : S49) : Prop := True ∧ (x.f1.length ≤ maxLen ∧ x.f1.length * 16 ≤ 140737488351232 ∧ ∀ a ∈ x.f1, G38 a) ∧ (x.f2.length ≤ maxLen ∧ x.f2.length * 8 ≤ 140737488351232 ∧ ∀ a ∈ x.f2, (Lit.int .i64 a).wf = true)
def Pure : Prop := ∀ (x0 : (List S49)) (x1 : S38) (x2 : Int) (x3 : Int), (x0.length ≤ maxLen ∧ x0.length * 56 ≤ 140737488351232 ∧ ∀ a ∈ x0, G49 a) → G38 x1 → (Lit.int .i64 x2).wf = true → (Lit.int .i64 x3).wf = true → ∃ k, kissgatelaw17_SpreadClosed.f k x0 x1.f0 x1.f1 x2 x3 = some true
end Go.Proofs.Ytbcngajkokjfjaa.spreadClosed
namespace Go.Proofs.Ytbcngajkokjfjaa.Sps
open Go.RowKit Go.Proofs.YtbcngajkokjfjaaW.PrintWords Go.Proofs.YtbcngajkokjfjaaW.PrintLast Go.Proofs.YtbcngajkokjfjaaW.PrintMore Go.Proofs.Ytbcngajkokjfjaa.QSps
theorem wrap_up {i : Int} {n : Nat} (h0 : 0 ≤ i) (h : i < (n : Int)) (hn : n ≤ 9223372036854775000) : wrap64 (i + 1) = i + 1 := by
  unfold wrap64
  omega
def find (xs : List S38) (a b : Int) : Option Nat := xs.findIdx? fun x => a == x.f0 && b == x.f1
theorem rd38 {xs : List S38} {i : Nat} (h : i < xs.length) : rd_T38 xs i = xs[i] := by
  unfold rd_T38
  rw [Int.toNat_natCast, List.getD_eq_getElem?_getD, List.getElem?_eq_getElem h]; rfl
def findFrom (xs : List S38) (a b : Int) (i : Nat) : Option Nat := (find (xs.drop i) a b).map (· + i)
theorem findFrom_end (xs : List S38) (a b : Int) (i : Nat) (h : xs.length ≤ i) : findFrom xs a b i = none := by
  unfold findFrom find
  rw [List.drop_of_length_le h]
  rfl
theorem findFrom_step (xs : List S38) (a b : Int) (i : Nat) (h : i < xs.length) : findFrom xs a b i = if (a == xs[i].f0 && b == xs[i].f1) = true then some i else findFrom xs a b (i + 1) := by
  unfold findFrom find
  rw [List.drop_eq_getElem_cons h, List.findIdx?_cons]
  split
  · simp
  · cases List.findIdx? (fun x => a == x.f0 && b == x.f1) (List.drop (i + 1) xs) with
    | none => rfl
    | some j => simp; omega
theorem findFrom_zero (xs : List S38) (a b : Int) : findFrom xs a b 0 = find xs a b := by
  unfold findFrom
  rw [List.drop_zero]
  cases find xs a b <;> simp
theorem index_from (xs : List S38) (a b : Int) (hn : xs.length ≤ 9223372036854775000) (d : Nat) : ∀ i : Nat, i + d = xs.length →
    Ev (fun k => api_Attr.l0 k xs xs.length i a b) (match findFrom xs a b i with | some j => (j : Int) | none => -1) := by
  induction d with
  | zero =>
    intro i hi
    rw [findFrom_end xs a b i (by omega)]
    refine Ev.step (fun k => by rw [api_Attr.l0, if_neg (by omega)]) (Ev.now _)
  | succ d ih =>
    intro i hi
    rw [findFrom_step xs a b i (by omega)]
    have hlt : i < xs.length := by omega
    by_cases hc : (a == xs[i].f0 && b == xs[i].f1) = true
    · rw [if_pos hc]
      exact Ev.step (fun k => by rw [api_Attr.l0, if_pos (by omega), if_pos (by omega), if_pos (by omega), rd38 hlt, if_pos hc]) (Ev.now _)
    · rw [if_neg hc]
      refine Ev.step (fun k => by rw [api_Attr.l0, if_pos (by omega), if_pos (by omega), if_pos (by omega), rd38 hlt, if_neg hc, wrap_up (n := xs.length) (by omega) (by omega) hn]) ?_
      exact ih (i + 1) (by omega)
def born (o : Bool) (xs : List S38) (bs : List Int) (a b : Int) : Int :=
  if o = true then (match find xs a b with | some j => if j < bs.length then bs.getD j 0 else -1 | none => -1) else -1
theorem born_prog (o : Bool) (xs : List S38) (bs : List Int) (a b : Int) (hn : xs.length ≤ 9223372036854775000) : Ev (fun k => spread_View_born.f k o xs bs a b) (born o xs bs a b) := by
  have h := index_from xs a b hn xs.length 0 (by omega)
  rw [findFrom_zero] at h
  unfold spread_View_born.f api_Attr.f
  refine Ev.bind h ?_
  unfold born
  cases o with
  | false => simp only [Bool.false_eq_true, if_false]; exact Ev.now _
  | true =>
    simp only [if_true]
    cases find xs a b with
    | none => simp only []; rw [if_pos (by omega)]; exact Ev.now _
    | some j =>
      simp only []
      rw [if_neg (by omega)]
      by_cases hj : j < bs.length
      · rw [if_neg (by omega), if_pos (by omega), if_pos (by omega), if_pos hj]
        unfold rd
        rw [Int.toNat_natCast]
        exact Ev.now _
      · rw [if_pos (by omega), if_neg hj]; exact Ev.now _
def latest (a b : Int) (i : Nat) : Nat → List S49 → Int → Int
  | _, [], acc => acc
  | j, v :: vs, acc => latest a b i (j + 1) vs (if j = i then acc else mx acc (born v.f0 v.f1 v.f2 a b))
def want (l : List S49) (a b own : Int) (i : Nat) : Int := if (rd_T49 l i).f0 = true then latest a b i 0 l (mx own (-1)) else -1
theorem rd49 {l : List S49} {i : Nat} (h : i < l.length) : rd_T49 l i = l[i] := by
  unfold rd_T49
  rw [Int.toNat_natCast, List.getD_eq_getElem?_getD, List.getElem?_eq_getElem h]; rfl
def Few (l : List S49) : Prop := l.length ≤ 20 ∧ ∀ v ∈ l, v.f1.length ≤ 40 ∧ v.f2.length ≤ 100
theorem inner (l : List S49) (a b own : Int) (hf : Few l) (r : List Int) (i : Nat) (hi : i < l.length) (d : Nat) : ∀ (j : Nat) (out : List Int), j + d = l.length → out.length = l.length →
    (∀ out' : List Int, out' = out.set i (latest a b i j (l.drop j) (out.getD i 0)) → Ev (fun k => spread_Wants.l0 k l own out' l l.length ((i : Int) + 1) a b) r) →
    Ev (fun k => spread_Wants.l1 k l own out i l l.length i l l.length j a b) r := by
  have h20 := hf.1
  induction d with
  | zero =>
    intro j out hj ho hk
    have hk := hk out (by rw [List.drop_of_length_le (by omega)]; simp only [latest]; rw [List.getD_eq_getElem?_getD, List.getElem?_eq_getElem (by omega), Option.getD_some, List.set_getElem_self])
    exact Ev.step (fun k => by rw [spread_Wants.l1, if_neg (by omega), wrap_up (n := l.length) (by omega) (by omega) (by omega)]) hk
  | succ d ih =>
    intro j out hj ho hk
    have hlt : j < l.length := by omega
    rw [List.drop_eq_getElem_cons hlt] at hk
    simp only [latest] at hk
    by_cases he : j = i
    · rw [if_pos he] at hk
      refine Ev.step (fun k => by rw [spread_Wants.l1, if_pos (by omega), if_pos (by omega), if_pos (by omega), if_pos (by omega), wrap_up (n := l.length) (by omega) (by omega) (by omega)]) ?_
      exact ih (j + 1) out (by omega) ho hk
    · rw [if_neg he] at hk
      refine Ev.step (fun k => by rw [spread_Wants.l1, if_pos (by omega), if_pos (by omega), if_pos (by omega), if_neg (by omega), if_pos (by omega), if_pos (by omega), wrap_up (n := l.length) (by omega) (by omega) (by omega), rd49 hlt]) ?_
      refine Ev.bind (born_prog _ _ _ a b (by have := (hf.2 l[j] (List.getElem_mem hlt)).1; omega)) ?_
      rw [Int.toNat_natCast]
      refine ih (j + 1) _ (by omega) (by simp [ho]) ?_
      intro out' ho'
      refine hk out' ?_
      rw [ho', List.set_set]
      congr 2
      rw [List.getD_eq_getElem?_getD, List.getElem?_set_self (by omega)]
      simp only [Option.getD_some]
      unfold rd
      rw [Int.toNat_natCast]
theorem outer (l : List S49) (a b own : Int) (hf : Few l) (d : Nat) : ∀ (i : Nat) (out : List Int), i + d = l.length → out.length = l.length →
    ∃ out' : List Int, Ev (fun k => spread_Wants.l0 k l own out l l.length i a b) out' ∧ out'.length = l.length ∧ ∀ j, j < l.length → out'.getD j 0 = if j < i then out.getD j 0 else want l a b own j := by
  have h20 := hf.1
  induction d with
  | zero =>
    intro i out hi ho
    refine ⟨out, Ev.step (fun k => by rw [spread_Wants.l0, if_neg (by omega)]) (Ev.now _), ho, fun j hj => ?_⟩
    rw [if_pos (by omega)]
  | succ d ih =>
    intro i out hi ho
    have hlt : i < l.length := by omega
    by_cases hop : (rd_T49 l i).f0 = true
    · obtain ⟨out', he, hl, hg⟩ := ih (i + 1) (out.set i (want l a b own i)) (by omega) (by simp [ho])
      refine ⟨out', ?_, hl, fun j hj => ?_⟩
      · refine Ev.step (fun k => by rw [spread_Wants.l0, if_pos (by omega), if_pos (by omega), if_pos (by omega), if_pos (by omega), Option.bind_some, if_pos hop]) ?_
        rw [Int.toNat_natCast, List.set_set]
        refine inner l a b own hf out' i hlt l.length 0 _ (by omega) (by simp [ho]) ?_
        intro o2 ho2
        rw [List.drop_zero, List.set_set, List.getD_eq_getElem?_getD, List.getElem?_set_self (by omega), Option.getD_some] at ho2
        rw [ho2]
        have : want l a b own i = latest a b i 0 l (mx own (-1)) := by unfold want; rw [if_pos hop]
        rw [← this]
        exact he
      · rw [hg j hj]
        by_cases h1 : j < i
        · rw [if_pos (by omega), if_pos h1, List.getD_eq_getElem?_getD, List.getElem?_set_ne (by omega), ← List.getD_eq_getElem?_getD]
        · by_cases h2 : j = i
          · subst h2
            rw [if_pos (by omega), if_neg (by omega), List.getD_eq_getElem?_getD, List.getElem?_set_self (by omega), Option.getD_some]
          · rw [if_neg (by omega), if_neg h1]
    · obtain ⟨out', he, hl, hg⟩ := ih (i + 1) (out.set i (-1)) (by omega) (by simp [ho])
      refine ⟨out', ?_, hl, fun j hj => ?_⟩
      · refine Ev.step (fun k => by rw [spread_Wants.l0, if_pos (by omega), if_pos (by omega), if_pos (by omega), if_pos (by omega), Option.bind_some, if_neg hop, wrap_up (n := l.length) (by omega) (by omega) (by omega), Int.toNat_natCast]) ?_
        exact he
      · have hw : want l a b own i = -1 := by unfold want; rw [if_neg hop]
        rw [hg j hj]
        by_cases h1 : j < i
        · rw [if_pos (by omega), if_pos h1, List.getD_eq_getElem?_getD, List.getElem?_set_ne (by omega), ← List.getD_eq_getElem?_getD]
        · by_cases h2 : j = i
          · subst h2
            rw [if_pos (by omega), if_neg (by omega), List.getD_eq_getElem?_getD, List.getElem?_set_self (by omega), Option.getD_some, hw]
          · rw [if_neg (by omega), if_neg h1]
def wants (l : List S49) (a b own : Int) : List Int := (List.range l.length).map (want l a b own)
theorem wants_prog (l : List S49) (a b own : Int) (hf : Few l) : Ev (fun k => spread_Wants.f k l a b own) (wants l a b own) := by
  have h20 := hf.1
  obtain ⟨out', he, hl, hg⟩ := outer l a b own hf l.length 0 (List.replicate l.length 0) (by omega) (by simp)
  have hw : out' = wants l a b own := by
    apply List.ext_getElem?
    intro j
    unfold wants
    by_cases hj : j < l.length
    · have h1 := hg j hj
      rw [if_neg (by omega), List.getD_eq_getElem?_getD, List.getElem?_eq_getElem (by omega), Option.getD_some] at h1
      rw [List.getElem?_eq_getElem (by omega), h1]
      simp [hj]
    · rw [List.getElem?_eq_none (by omega), List.getElem?_eq_none (by simp; omega)]
  rw [← hw]
  unfold spread_Wants.f
  refine Ev.congr (fun k => by rw [if_pos (by omega), if_pos (by omega), Int.toNat_natCast]; rfl) he
def conv (v : S49) : S47 := ⟨v.f0, v.f1, v.f2⟩
theorem plain_loop (l : List S49) (hl : l.length * 56 ≤ 140737488351232) (d : Nat) : ∀ (i : Nat), i + d = l.length →
    (∃ r, Ev (fun k => kissgatelaw17_plain.l0 k l ((l.take i).map conv) l l.length i) (r, false)) ∨
    (Ev (fun k => kissgatelaw17_plain.l0 k l ((l.take i).map conv) l l.length i) (l.map conv, decide ((l.length : Int) ≤ 20)) ∧ ∀ v ∈ l.drop i, v.f1.length ≤ 40 ∧ v.f2.length ≤ 100) := by
  induction d with
  | zero =>
    intro i hi
    refine .inr ⟨?_, by rw [List.drop_of_length_le (by omega)]; simp⟩
    rw [List.take_of_length_le (by omega)]
    exact Ev.step (fun k => by rw [kissgatelaw17_plain.l0, if_neg (by omega)]) (Ev.now _)
  | succ d ih =>
    intro i hi
    have hlt : i < l.length := by omega
    by_cases h1 : (l[i].f1.length : Int) > 40
    · exact .inl ⟨_, Ev.step (fun k => by rw [kissgatelaw17_plain.l0, if_pos (by omega), if_pos (by omega), if_pos (by omega), rd49 hlt, if_pos h1]) (Ev.now _)⟩
    · by_cases h2 : (l[i].f2.length : Int) > 100
      · exact .inl ⟨_, Ev.step (fun k => by rw [kissgatelaw17_plain.l0, if_pos (by omega), if_pos (by omega), if_pos (by omega), rd49 hlt, if_neg h1, if_pos h2]) (Ev.now _)⟩
      · have hstep : ∀ k, kissgatelaw17_plain.l0 (k + 1) l ((l.take i).map conv) l l.length i = kissgatelaw17_plain.l0 k l ((l.take (i + 1)).map conv) l l.length ((i + 1 : Nat) : Int) := by
          intro k
          rw [kissgatelaw17_plain.l0, if_pos (by omega), if_pos (by omega), if_pos (by omega), rd49 hlt, if_neg h1, if_neg h2, if_pos (by simp; omega), wrap_up (n := l.length) (by omega) (by omega) (by omega), List.take_succ_eq_append_getElem hlt, List.map_append]
          rfl
        rcases ih (i + 1) (by omega) with ⟨r, hr⟩ | ⟨hr, hv⟩
        · exact .inl ⟨r, Ev.step hstep hr⟩
        · refine .inr ⟨Ev.step hstep hr, ?_⟩
          rw [List.drop_eq_getElem_cons hlt]
          intro v hv'
          rcases List.mem_cons.1 hv' with rfl | hv'
          · exact ⟨by omega, by omega⟩
          · exact hv v hv'
theorem plain (l : List S49) (hl : l.length * 56 ≤ 140737488351232) : (∃ r, Ev (fun k => kissgatelaw17_plain.f k l) (r, false)) ∨ (Ev (fun k => kissgatelaw17_plain.f k l) (l.map conv, true) ∧ Few l) := by
  unfold kissgatelaw17_plain.f
  rcases plain_loop l hl l.length 0 (by omega) with ⟨r, h⟩ | ⟨h, hv⟩
  · exact .inl ⟨r, by simpa using h⟩
  · by_cases hn : l.length ≤ 20
    · refine .inr ⟨?_, hn, by simpa using hv⟩
      have : decide ((l.length : Int) ≤ 20) = true := decide_eq_true (by omega)
      rw [this] at h
      simpa using h
    · refine .inl ⟨l.map conv, ?_⟩
      have : decide ((l.length : Int) ≤ 20) = false := decide_eq_false (by omega)
      rw [this] at h
      simpa using h
theorem alive : Ev (fun k => kissgatelaw17_alive.f k) true := Ev.of kissgatelaw17_alive.mono (k := 60) (by decide +kernel)
end Go.Proofs.Ytbcngajkokjfjaa.Sps
namespace Go.Proofs.Ytbcngajkokjfjaa.Sps
open Go.RowKit Go.Proofs.YtbcngajkokjfjaaW.PrintWords Go.Proofs.YtbcngajkokjfjaaW.PrintLast Go.Proofs.YtbcngajkokjfjaaW.PrintMore Go.Proofs.Ytbcngajkokjfjaa.QSps
theorem wants_len (l : List S49) (a b own : Int) : (wants l a b own).length = l.length := by simp [wants]
theorem wants_at (l : List S49) (a b own : Int) (i : Nat) (hi : i < l.length) : (wants l a b own)[i]? = some (want l a b own i) := by
  unfold wants
  simp [hi]
theorem wants_get (l : List S49) (a b own : Int) (i : Nat) (hi : i < l.length) : rd (wants l a b own) i = want l a b own i := by
  unfold rd
  rw [Int.toNat_natCast, List.getD_eq_getElem?_getD, wants_at l a b own i hi]
  rfl
theorem same_refl (l : List Int) (hn : l.length ≤ 100) : Ev (fun k => kissgateref06_Same.f k l l) true := by
  have loop : ∀ (d i : Nat), i + d = l.length → Ev (fun k => kissgateref06_Same.l0 k l l l.length i) true := by
    intro d
    induction d with
    | zero =>
      intro i hi
      exact Ev.step (fun k => by rw [kissgateref06_Same.l0, if_neg (by omega)]) (Ev.now _)
    | succ d ih =>
      intro i hi
      have hw : wrap64 ((i : Int) + 1) = ((i + 1 : Nat) : Int) := by unfold wrap64; omega
      exact Ev.step (fun k => by rw [kissgateref06_Same.l0, if_pos (by omega), if_pos (by omega), if_pos (by omega), if_pos (by omega), if_pos rfl, hw]) (ih (i + 1) (by omega))
  unfold kissgateref06_Same.f
  simp only [if_true]
  exact loop l.length 0 (by omega)
theorem mx_ge (x y : Int) : x ≤ mx x y := by unfold mx; split <;> omega
theorem latest_ge (a b : Int) (i : Nat) (vs : List S49) : ∀ (j : Nat) (acc : Int), acc ≤ latest a b i j vs acc := by
  induction vs with
  | nil => intro j acc; exact Int.le_refl _
  | cons v vs ih =>
    intro j acc
    simp only [latest]
    refine Int.le_trans ?_ (ih _ _)
    split
    · exact Int.le_refl _
    · exact mx_ge _ _
theorem latest_append (a b : Int) (i : Nat) (xs ys : List S49) : ∀ (j : Nat) (acc : Int), latest a b i j (xs ++ ys) acc = latest a b i (j + xs.length) ys (latest a b i j xs acc) := by
  induction xs with
  | nil => intro j acc; simp [latest]
  | cons v vs ih =>
    intro j acc
    simp only [List.cons_append, latest, List.length_cons]
    rw [ih, show j + 1 + vs.length = j + (vs.length + 1) from by omega]
theorem latest_index (a b : Int) (i i' : Nat) (vs : List S49) : ∀ (j j' : Nat) (acc : Int), (∀ t, t < vs.length → (j + t = i ↔ j' + t = i')) → latest a b i j vs acc = latest a b i' j' vs acc := by
  induction vs with
  | nil => intro j j' acc _; rfl
  | cons v vs ih =>
    intro j j' acc h
    simp only [latest]
    have h0 := h 0 (by simp)
    have hc : (if j = i then acc else mx acc (born v.f0 v.f1 v.f2 a b)) = (if j' = i' then acc else mx acc (born v.f0 v.f1 v.f2 a b)) := by
      by_cases hj : j = i
      · rw [if_pos hj, if_pos (by omega)]
      · rw [if_neg hj, if_neg (by omega)]
    rw [hc]
    exact ih (j + 1) (j' + 1) _ (fun t ht => by have := h (t + 1) (by simpa using ht); omega)
theorem rd49' {l : List S49} {i : Nat} {v : S49} (h : l[i]? = some v) : rd_T49 l i = v := by
  unfold rd_T49
  rw [Int.toNat_natCast, List.getD_eq_getElem?_getD, h]; rfl
end Go.Proofs.Ytbcngajkokjfjaa.Sps
namespace Go.Proofs.Ytbcngajkokjfjaa.spreadClosed
open Go.RowKit Go.Proofs.YtbcngajkokjfjaaW.PrintWords Go.Proofs.YtbcngajkokjfjaaW.PrintLast Go.Proofs.YtbcngajkokjfjaaW.PrintMore Go.Proofs.Ytbcngajkokjfjaa.QSps Go.Proofs.Ytbcngajkokjfjaa.Sps
theorem without (A B : List S49) (x : S49) (a b own : Int) (hx : x.f0 = false) (p p' : Nat) (hp : p < (A ++ B).length) (hq : (p < A.length ∧ p' = p) ∨ (A.length ≤ p ∧ p' = p + 1)) :
    want (A ++ x :: B) a b own p' = want (A ++ B) a b own p := by
  have hget : (A ++ x :: B)[p']? = (A ++ B)[p]? := by
    rcases hq with ⟨h, rfl⟩ | ⟨h, rfl⟩
    · rw [List.getElem?_append_left h, List.getElem?_append_left h]
    · rw [List.getElem?_append_right (by omega), List.getElem?_append_right h, show p + 1 - A.length = (p - A.length) + 1 from by omega, List.getElem?_cons_succ]
  have hv : (A ++ B)[p]? = some ((A ++ B)[p]) := List.getElem?_eq_getElem hp
  have hl : latest a b p' 0 (A ++ x :: B) (mx own (-1)) = latest a b p 0 (A ++ B) (mx own (-1)) := by
    rw [latest_append, latest_append]
    simp only [latest, Nat.zero_add]
    have h0 : (-1 : Int) ≤ mx own (-1) := by unfold mx; split <;> omega
    have h1 := latest_ge a b p' A 0 (mx own (-1))
    have hb : born x.f0 x.f1 x.f2 a b = -1 := by unfold born; rw [hx]; rfl
    have hA : latest a b p' 0 A (mx own (-1)) = latest a b p 0 A (mx own (-1)) := latest_index a b _ _ A 0 0 _ (fun t ht => by omega)
    rw [hb, ← hA]
    have hm : (if A.length = p' then latest a b p' 0 A (mx own (-1)) else mx (latest a b p' 0 A (mx own (-1))) (-1)) = latest a b p' 0 A (mx own (-1)) := by
      split
      · rfl
      · unfold mx at *
        rw [if_neg (by omega)]
    rw [hm]
    exact latest_index a b _ _ B _ _ _ (fun t ht => by omega)
  unfold want
  rw [rd49' (hget.trans hv), rd49' hv, hl]
theorem lists (A B : List S49) (x : S49) (a b own : Int) (hx : x.f0 = false) :
    (wants (A ++ x :: B) a b own).take A.length ++ (wants (A ++ x :: B) a b own).drop (A.length + 1) = wants (A ++ B) a b own := by
  have hlen : (wants (A ++ x :: B) a b own).length = A.length + (B.length + 1) := by rw [wants_len]; simp
  apply List.ext_getElem?
  intro p
  by_cases hp : p < (A ++ B).length
  · rw [wants_at _ _ _ _ _ hp]
    have hp2 : p < A.length + B.length := by simpa using hp
    by_cases hA : p < A.length
    · rw [List.getElem?_append_left (by rw [List.length_take]; omega), List.getElem?_take_of_lt hA, wants_at _ _ _ _ _ (by simp; omega), without A B x a b own hx p p hp (.inl ⟨hA, rfl⟩)]
    · have hl : ((wants (A ++ x :: B) a b own).take A.length).length = A.length := by rw [List.length_take]; omega
      rw [List.getElem?_append_right (by omega), hl, List.getElem?_drop, wants_at _ _ _ _ _ (by simp; omega), show A.length + 1 + (p - A.length) = p + 1 from by omega, without A B x a b own hx p (p + 1) hp (.inr ⟨by omega, rfl⟩)]
  · have hp2 : A.length + B.length ≤ p := by simpa using hp
    rw [List.getElem?_eq_none (by rw [List.length_append, List.length_take, List.length_drop]; omega), List.getElem?_eq_none (by rw [wants_len]; omega)]
theorem main (l : List S49) (a b own : Int) (p : Nat) (hp : p < l.length) (hf : Few l) (hx : (rd_T49 l p).f0 = false) : Ev (fun k => kissgatelaw17_SpreadClosed.j0 k l own p false a b) true := by
  have h20 := hf.1
  have hw1 : wrap64 ((p : Int) + 1) = ((p + 1 : Nat) : Int) := by unfold wrap64; omega
  have hsplit : l = l.take p ++ l[p] :: l.drop (p + 1) := by rw [← List.drop_eq_getElem_cons hp, List.take_append_drop]
  have hfew : Few (l.take p ++ l.drop (p + 1)) := by
    refine ⟨by simp; omega, fun v hv => hf.2 v ?_⟩
    rcases List.mem_append.1 hv with h | h
    · exact List.mem_of_mem_take h
    · exact List.mem_of_mem_drop h
  have hat : rd (wants l a b own) p = -1 := by
    rw [wants_get l a b own p hp]
    unfold want
    rw [if_neg (by rw [hx]; decide)]
  have hlists : (wants l a b own).take p ++ (wants l a b own).drop (p + 1) = wants (l.take p ++ l.drop (p + 1)) a b own := by
    have := lists (l.take p) (l.drop (p + 1)) l[p] a b own (by rw [rd49 hp] at hx; exact hx)
    rw [← hsplit, List.length_take, Nat.min_eq_left (by omega)] at this
    exact this
  have hwl := wants_len l a b own
  refine Ev.step (fun k => by rw [kissgatelaw17_SpreadClosed.j0, if_neg (by decide)]) ?_
  refine Ev.bind (wants_prog l a b own hf) ?_
  refine Ev.congr (fun k => by rw [Option.bind_some, if_pos (by omega), if_pos (by omega), Option.bind_some, Int.toNat_natCast, if_pos (by simp; omega), Option.bind_some, hw1, if_pos (by omega), if_pos (by omega), Option.bind_some, Int.toNat_natCast, List.nil_append, if_pos (by simp; omega)]) ?_
  refine Ev.bind (wants_prog _ a b own hfew) ?_
  refine Ev.congr (fun k => by rw [if_pos (by omega), if_pos hat, Option.bind_some, if_pos (by omega), Option.bind_some, if_pos (by simp; omega), Option.bind_some, if_pos (by omega), Option.bind_some, List.nil_append, if_pos (by simp; omega), hlists]) ?_
  refine Ev.bind (same_refl _ (by rw [wants_len]; simp; omega)) ?_
  exact Ev.now _
theorem pure : Pure := by
  intro l x own p hl hx ho hp
  obtain ⟨hm, hb, hg⟩ := hl
  have jt : Ev (fun k => kissgatelaw17_SpreadClosed.j0 k l own p true x.f0 x.f1) true := Ev.step (fun k => by rw [kissgatelaw17_SpreadClosed.j0, if_pos rfl]) (Ev.now _)
  refine Ev.rounds ?_
  unfold kissgatelaw17_SpreadClosed.f
  refine Ev.bind alive ?_
  simp only [if_true]
  rcases plain l hb with ⟨r, h⟩ | ⟨h, hf⟩
  · refine Ev.bind h ?_
    simp only [Bool.false_eq_true, if_false]
    exact jt
  · refine Ev.bind h ?_
    simp only [if_true]
    by_cases h1 : p < 0
    · simp only [if_pos h1]; exact jt
    · simp only [if_neg h1]
      by_cases h2 : p ≥ l.length
      · simp only [if_pos h2]; exact jt
      · simp only [if_neg h2]
        obtain ⟨p, rfl⟩ := Int.eq_ofNat_of_zero_le (show 0 ≤ p by omega)
        refine Ev.congr (fun k => by rw [if_pos (by omega), if_pos (by omega)]) ?_
        cases hx : (rd_T49 l p).f0 with
        | true => exact jt
        | false => exact main l x.f0 x.f1 own p (by omega) hf hx
end Go.Proofs.Ytbcngajkokjfjaa.spreadClosed
