/- Functions of the program as plain Lean functions, what their calls do, and what follows of it. Conditions: each theorem's own. -/
import Derived.Test.YtbcngajkokjfjaaCTableRuns0
namespace Go.Proofs.Ytbcngajkokjfjaa.QTab
open Go.RowKit Go.Proofs.YtbcngajkokjfjaaW.PrintWords Go.Proofs.YtbcngajkokjfjaaW.PrintLast Go.Proofs.YtbcngajkokjfjaaW.PrintMore
attribute [local go_sem] max2_int min2_int max_two min_two max_three min_three max_four min_four
set_option linter.unusedVariables false
set_option linter.unusedSimpArgs false
attribute [local go_sem high] eqA30
mutual
def kissgatelaw13_TableRuns.j0 : Nat → List (List (S30)) → Int → List Int → Int → Bool → Option (Bool)
  | 0, _, _, _, _, _ => none
  | k + 1, x0, x1, x2, x3, x38 => if x38 = true then (some true) else ((table_Run.f k x0 x1 x2).bind fun t141 => (kissgatelaw13_TableRuns.l0 k x0 x1 x2 x3 t141 x1 0 x2 (x2.length : Int) 0))
def kissgatelaw13_TableRuns.l0 : Nat → List (List (S30)) → Int → List Int → Int → List (S30) → Int → Int → List Int → Int → Int → Option (Bool)
  | 0, _, _, _, _, _, _, _, _, _, _ => none
  | k + 1, x0, x1, x2, x3, x9, x10, x11, x44, x45, x46 => if x46 < x45 then (if 0 ≤ x46 then (if x46 < (x44.length : Int) then ((table_At.f x0 x10 (rd x44 x46)).bind fun bt145 => (if bt145.2.2 = true then (if x11 ≥ (x9.length : Int) then (some false) else (if 0 ≤ x11 then (if x11 < (x9.length : Int) then (if (!(((rd_T30 x9 x11).f0) == bt145.1) || (!(((rd_T30 x9 x11).f1) == bt145.2.1))) = true then (some false) else (kissgatelaw13_TableRuns.l0 k x0 x1 x2 x3 x9 bt145.1 (wrap64 (x11 + 1)) x44 x45 (wrap64 (x46 + 1)))) else (none)) else (none))) else (kissgatelaw13_TableRuns.l0 k x0 x1 x2 x3 x9 x10 x11 x44 x45 (wrap64 (x46 + 1))))) else (none)) else (none)) else (if 0 ≤ x3 then (if x3 ≤ (x2.length : Int) then ((table_Run.f k x0 x1 (x2.take (x3 : Int).toNat)).bind fun t151 => (if (t151.length : Int) > 0 then (if 0 ≤ (wrap64 ((t151.length : Int) - 1)) then (if (wrap64 ((t151.length : Int) - 1)) < (t151.length : Int) then (kissgatelaw13_TableRuns.j2 k x0 x2 x3 x9 x11 t151 ((rd_T30 t151 (wrap64 ((t151.length : Int) - 1))).f0)) else (none)) else (none)) else (kissgatelaw13_TableRuns.j2 k x0 x2 x3 x9 x11 t151 x1))) else (none)) else (none))
def kissgatelaw13_TableRuns.j2 : Nat → List (List (S30)) → List Int → Int → List (S30) → Int → List (S30) → Int → Option (Bool)
  | 0, _, _, _, _, _, _, _ => none
  | k + 1, x0, x2, x3, x9, x11, x16, x17 => (some (([] : List (S30)) : List (S30))).bind fun y155 => (if y155.length + x16.length < 8796093022208 then ((some (y155 ++ x16 : List (S30))).bind fun y158 => (if 0 ≤ x3 then (if x3 ≤ (x2.length : Int) then ((table_Run.f k x0 x17 (x2.drop (x3 : Int).toNat)).bind fun t162 => (if y158.length + t162.length < 8796093022208 then ((some (y158 ++ t162 : List (S30))).bind fun y165 => (kissgatelaw13_TableRuns.l1 k x9 x11 y165 (y165.length : Int) 0)) else (none))) else (none)) else (none))) else (none))
def kissgatelaw13_TableRuns.l1 : Nat → List (S30) → Int → List (S30) → Int → Int → Option (Bool)
  | 0, _, _, _, _, _ => none
  | k + 1, x9, x11, x18, x104, x105 => if x105 < x104 then (if x105 ≥ (x9.length : Int) then (some false) else (if 0 ≤ x105 then (if x105 < (x9.length : Int) then (if x105 < (x18.length : Int) then (if (!(((rd_T30 x9 x105).f0) == ((rd_T30 x18 x105).f0)) || (!(((rd_T30 x9 x105).f1) == ((rd_T30 x18 x105).f1)))) = true then (some false) else (kissgatelaw13_TableRuns.l1 k x9 x11 x18 x104 (wrap64 (x105 + 1)))) else (none)) else (none)) else (none))) else (if x11 = (x9.length : Int) then (some ((x18.length : Int) == (x9.length : Int))) else (some false))
end
def kissgatelaw13_TableRuns.f (k : Nat) (l0 : List (List (S30))) (a1 : Int) (l2 : List Int) (a3 : Int) : Option (Bool) := (kissgatelaw13_alive.f k).bind fun t139 => (if t139 = true then ((kissgatelaw13_great.f k l0).bind fun t140 => (if t140 = true then (kissgatelaw13_TableRuns.j0 k l0 a1 l2 a3 true) else (if (l2.length : Int) > 60 then (kissgatelaw13_TableRuns.j0 k l0 a1 l2 a3 true) else (if a3 < 0 then (kissgatelaw13_TableRuns.j0 k l0 a1 l2 a3 true) else (kissgatelaw13_TableRuns.j0 k l0 a1 l2 a3 (decide (a3 > (l2.length : Int)))))))) else (some false))
def kissgatelaw13_TableRuns.T12 : Bool × List (List Nat × List Nat) := (true, [([], []), ([], []), ([1], [1]), ([0, 2], [0, 2]), ([3], [3]), ([4], [4]), ([4], [4]), ([5, 6, 4], [4, 5, 6]), ([7, 4], [4, 7]), ([4], [4]), ([8, 9, 4], [4, 8, 9]), ([4, 10], [4, 10])])
def kissgatelaw13_TableRuns.B12 : List Nat := [0, 0, 2, 7, 15, 31, 31, 127, 255, 31, 1023, 2047]
theorem kissgatelaw13_TableRuns.tab12 : rtab .any (opsOf Try.f3 12) = kissgatelaw13_TableRuns.T12 := by kernel_rfl
theorem kissgatelaw13_TableRuns.bits12 : waitsOk kissgatelaw13_TableRuns.T12.2 kissgatelaw13_TableRuns.B12 = true := by kernel_rfl
def kissgatelaw13_TableRuns.T21 : Bool × List (List Nat × List Nat) := (true, [([], []), ([], []), ([0, 1], [0, 1]), ([], []), ([], []), ([], []), ([], []), ([5, 6], [5, 6]), ([3, 4, 7, 2], [3, 4, 7]), ([2, 8, 8], [2, 8]), ([9, 9, 0, 1, 2, 3, 4, 5, 6, 7, 8, 9], [9])])
def kissgatelaw13_TableRuns.B21 : List Nat := [0, 0, 3, 0, 0, 0, 0, 96, 255, 511, 1023]
theorem kissgatelaw13_TableRuns.tab21 : rtab .any (opsOf Try.f3 21) = kissgatelaw13_TableRuns.T21 := by kernel_rfl
theorem kissgatelaw13_TableRuns.bits21 : waitsOk kissgatelaw13_TableRuns.T21.2 kissgatelaw13_TableRuns.B21 = true := by kernel_rfl
def kissgatelaw13_TableRuns.T25 : Bool × List (List Nat × List Nat) := (true, [([], []), ([], []), ([1], [1]), ([0, 2], [0, 2]), ([3], [3]), ([4], [4]), ([4], [4]), ([5, 6, 4], [4, 5, 6]), ([7, 4], [4, 7]), ([4], [4]), ([4], [4]), ([9, 10, 4], [4, 9, 10]), ([11, 4], [4, 11]), ([8, 12, 4], [4, 8, 12]), ([4, 13], [4, 13])])
def kissgatelaw13_TableRuns.B25 : List Nat := [0, 0, 2, 7, 15, 31, 31, 127, 255, 31, 31, 1567, 3615, 8191, 16383]
theorem kissgatelaw13_TableRuns.tab25 : rtab .any (opsOf Try.f3 25) = kissgatelaw13_TableRuns.T25 := by kernel_rfl
theorem kissgatelaw13_TableRuns.bits25 : waitsOk kissgatelaw13_TableRuns.T25.2 kissgatelaw13_TableRuns.B25 = true := by kernel_rfl
set_option maxHeartbeats 8000000 in
set_option maxRecDepth 100000 in
theorem kissgatelaw13_TableRuns.calls (k : Nat) (A0 : Option Addr) (c0 : Nat) (l0 : List (List (S30))) (a1 : Int) (A2 : Option Addr) (c2 : Nat) (l2 : List Int) (a3 : Int) (r : Bool) (w : World) (hr0 : Kd.C (Kd.slice 30 k30) w A0 l0.length l0) (hc0 : l0.length ≤ c0) (hr2 : Kd.C (Kd.int .i64) w A2 l2.length l2) (hc2 : l2.length ≤ c2) (h : kissgatelaw13_TableRuns.f k l0 a1 l2 a3 = some r) :
    Calls Try.prog 3 #[.slice A0 l0.length c0, .int .i64 a1, .slice A2 l2.length c2, .int .i64 a3] w fun e w' => e = .returned (.bool r) ∧ Below w.heap.size w w' := by
  have hu30 := Try.underlying30
  have HR0 := Aside0.mk hr0
  have HC0 := Aside0.mk hc0
  clear hr0 hc0
  have HR2 := Aside0.mk hr2
  have HC2 := Aside0.mk hc2
  clear hr2 hc2
  have HB := Aside0.mk (Below.refl w.heap.size w)
  have H : ((kissgatelaw13_alive.f k).bind fun t139 => (if t139 = true then ((kissgatelaw13_great.f k l0).bind fun t140 => (if t140 = true then (kissgatelaw13_TableRuns.j0 k l0 a1 l2 a3 true) else (if (l2.length : Int) > 60 then (kissgatelaw13_TableRuns.j0 k l0 a1 l2 a3 true) else (if a3 < 0 then (kissgatelaw13_TableRuns.j0 k l0 a1 l2 a3 true) else (kissgatelaw13_TableRuns.j0 k l0 a1 l2 a3 (decide (a3 > (l2.length : Int)))))))) else (some false))) = some r := h
  clear h
  replace H := Option.bind_eq_some_iff.mp H
  obtain ⟨t139, A50, H⟩ := H
  replace H : (if t139 = true then ((kissgatelaw13_great.f k l0).bind fun t140 => (if t140 = true then (kissgatelaw13_TableRuns.j0 k l0 a1 l2 a3 true) else (if (l2.length : Int) > 60 then (kissgatelaw13_TableRuns.j0 k l0 a1 l2 a3 true) else (if a3 < 0 then (kissgatelaw13_TableRuns.j0 k l0 a1 l2 a3 true) else (kissgatelaw13_TableRuns.j0 k l0 a1 l2 a3 (decide (a3 > (l2.length : Int)))))))) else (some false)) = some r := H
  have A5 := Aside0.mk A50
  clear A50
  by_cases c6 : t139 = true
  · subst c6
    have H1 : ((kissgatelaw13_great.f k l0).bind fun t140 => (if t140 = true then (kissgatelaw13_TableRuns.j0 k l0 a1 l2 a3 true) else (if (l2.length : Int) > 60 then (kissgatelaw13_TableRuns.j0 k l0 a1 l2 a3 true) else (if a3 < 0 then (kissgatelaw13_TableRuns.j0 k l0 a1 l2 a3 true) else (kissgatelaw13_TableRuns.j0 k l0 a1 l2 a3 (decide (a3 > (l2.length : Int)))))))) = some r := by rw [if_pos rfl] at H; exact H
    clear H
    have H := H1
    clear H1
    have HC7 := Aside0.mk H
    clear H
    go_enter Try.func3, Try.ntmps3
    go_upto_region 3 with (first | ((with_reducible refine gate_callee (f := 14) rfl ?_); refine goesL_ (some 20) rfl rfl Try.func14 (by kernel_rfl) rfl #[] rfl (by (try simp only [List.map_toArray, List.map_cons, List.map_nil]); first | done | rfl | (simp only [List.length_drop, List.length_take]; rfl)) ?_; (with_reducible refine (kissgatelaw13_alive.calls k  true _ A5.out).mono ?_); rintro e w8 ⟨rfl, hb⟩; refine ⟨_, rfl, ?_⟩; have n0_ := Aside0.mk (below_step (by repeat (first | (with_reducible first | exact HB.out | apply below_alloc | apply pw_below_drewN | apply below_drew1) | exact HB.out)) hb); clear HB; have HB := n0_; clear n0_; (try clear hb); (try clear hb2); (try clear hk); (try clear hi)))
    (try simp only [Act.put, List.setIfInBounds_toArray, List.set_cons_zero, List.set_cons_succ])
    go_cut [38] (fun v38 wc => ∃ (kq : Nat) (x38_6 : Bool), v38 = .bool x38_6 ∧ Aside0 (kissgatelaw13_TableRuns.j0 kq l0 a1 l2 a3 x38_6 = some r) ∧ Aside0 (kq ≤ k) ∧ Aside0 (Below w.heap.size w wc))
    case first =>
      have H := HC7.out
      clear HC7
      replace H := Option.bind_eq_some_iff.mp H
      obtain ⟨t140, A90, H⟩ := H
      replace H : (if t140 = true then (kissgatelaw13_TableRuns.j0 k l0 a1 l2 a3 true) else (if (l2.length : Int) > 60 then (kissgatelaw13_TableRuns.j0 k l0 a1 l2 a3 true) else (if a3 < 0 then (kissgatelaw13_TableRuns.j0 k l0 a1 l2 a3 true) else (kissgatelaw13_TableRuns.j0 k l0 a1 l2 a3 (decide (a3 > (l2.length : Int))))))) = some r := H
      have A9 := Aside0.mk A90
      clear A90
      by_cases c10 : t140 = true
      · subst c10
        have H1 : (kissgatelaw13_TableRuns.j0 k l0 a1 l2 a3 true) = some r := by rw [if_pos rfl] at H; exact H
        clear H
        have H := H1
        clear H1
        have H' := Aside0.mk H
        clear H
        go_wp2_with (first | ((with_reducible refine gate_callee (f := 15) rfl ?_); refine goesL_ (some 23) rfl rfl Try.func15 (by kernel_rfl) rfl #[.slice A0 l0.length c0] rfl (by (try simp only [List.map_toArray, List.map_cons, List.map_nil]); first | done | rfl | (simp only [List.length_drop, List.length_take]; rfl)) ?_; (with_reducible refine (kissgatelaw13_great.calls k _ _ l0 true _ ?side1 ?side2 A9.out).mono ?_); (case side1 => repeat (first | exact (Kd.C_below HR0.out HB.out) | (with_reducible refine Kd.C_alloc ?_ _) | (with_reducible refine Kd.C_drewN ?_ _) | (with_reducible refine Kd.C_drew ?_))); (case side2 => exact HC0.out); rintro e w' ⟨rfl, ⟨nd, rfl⟩⟩; refine ⟨_, rfl, ?_⟩))
        go_meet
        case rel => exact ⟨_, (true), (by first | rfl | (simp; done) | (simp [*]; done)), H', ⟨by first | omega | exact Nat.le_refl _⟩, ⟨by repeat (first | (with_reducible first | exact HB.out | apply below_alloc | apply pw_below_drewN | apply below_drew1) | exact HB.out)⟩⟩
      · replace c10 := Bool.eq_false_iff.mpr c10
        subst c10
        have H1 : (if (l2.length : Int) > 60 then (kissgatelaw13_TableRuns.j0 k l0 a1 l2 a3 true) else (if a3 < 0 then (kissgatelaw13_TableRuns.j0 k l0 a1 l2 a3 true) else (kissgatelaw13_TableRuns.j0 k l0 a1 l2 a3 (decide (a3 > (l2.length : Int)))))) = some r := by rw [if_neg (show ¬ (false = true) by decide)] at H; exact H
        clear H
        have H := H1
        clear H1
        by_cases c11 : (l2.length : Int) > 60
        · rw [if_pos c11] at H
          have c11b0 : decide (60 < (l2.length : Int)) = true := decide_eq_true c11
          have c11b1 : decide (60 < l2.length) = true := decide_eq_true (by omega)
          clear c11
          (first | rw [c11b0] | (simp only [i64_w, i32_w]; rw [c11b0]) | skip)
          have H' := Aside0.mk H
          clear H
          go_wp2_with (first | ((with_reducible refine gate_callee (f := 15) rfl ?_); refine goesL_ (some 23) rfl rfl Try.func15 (by kernel_rfl) rfl #[.slice A0 l0.length c0] rfl (by (try simp only [List.map_toArray, List.map_cons, List.map_nil]); first | done | rfl | (simp only [List.length_drop, List.length_take]; rfl)) ?_; (with_reducible refine (kissgatelaw13_great.calls k _ _ l0 false _ ?side1 ?side2 A9.out).mono ?_); (case side1 => repeat (first | exact (Kd.C_below HR0.out HB.out) | (with_reducible refine Kd.C_alloc ?_ _) | (with_reducible refine Kd.C_drewN ?_ _) | (with_reducible refine Kd.C_drew ?_))); (case side2 => exact HC0.out); rintro e w' ⟨rfl, ⟨nd, rfl⟩⟩; refine ⟨_, rfl, ?_⟩))
          go_meet
          case rel => exact ⟨_, (true), (by first | rfl | (simp; done) | (simp [*]; done)), H', ⟨by first | omega | exact Nat.le_refl _⟩, ⟨by repeat (first | (with_reducible first | exact HB.out | apply below_alloc | apply pw_below_drewN | apply below_drew1) | exact HB.out)⟩⟩
        · rw [if_neg c11] at H
          have c11b0 : decide (60 < (l2.length : Int)) = false := decide_eq_false c11
          have c11b1 : decide (60 < l2.length) = false := decide_eq_false (by omega)
          clear c11
          (first | rw [c11b0] | (simp only [i64_w, i32_w]; rw [c11b0]) | skip)
          by_cases c12 : a3 < 0
          · rw [if_pos c12] at H
            have c12b0 : decide (a3 < 0) = true := decide_eq_true c12
            clear c12
            have H' := Aside0.mk H
            clear H
            go_wp2_with (first | ((with_reducible refine gate_callee (f := 15) rfl ?_); refine goesL_ (some 23) rfl rfl Try.func15 (by kernel_rfl) rfl #[.slice A0 l0.length c0] rfl (by (try simp only [List.map_toArray, List.map_cons, List.map_nil]); first | done | rfl | (simp only [List.length_drop, List.length_take]; rfl)) ?_; (with_reducible refine (kissgatelaw13_great.calls k _ _ l0 false _ ?side1 ?side2 A9.out).mono ?_); (case side1 => repeat (first | exact (Kd.C_below HR0.out HB.out) | (with_reducible refine Kd.C_alloc ?_ _) | (with_reducible refine Kd.C_drewN ?_ _) | (with_reducible refine Kd.C_drew ?_))); (case side2 => exact HC0.out); rintro e w' ⟨rfl, ⟨nd, rfl⟩⟩; refine ⟨_, rfl, ?_⟩))
            go_meet
            case rel => exact ⟨_, (true), (by first | rfl | (simp; done) | (simp [*]; done)), H', ⟨by first | omega | exact Nat.le_refl _⟩, ⟨by repeat (first | (with_reducible first | exact HB.out | apply below_alloc | apply pw_below_drewN | apply below_drew1) | exact HB.out)⟩⟩
          · rw [if_neg c12] at H
            have c12b0 : decide (a3 < 0) = false := decide_eq_false c12
            clear c12
            have H' := Aside0.mk H
            clear H
            go_wp2_with (first | ((with_reducible refine gate_callee (f := 15) rfl ?_); refine goesL_ (some 23) rfl rfl Try.func15 (by kernel_rfl) rfl #[.slice A0 l0.length c0] rfl (by (try simp only [List.map_toArray, List.map_cons, List.map_nil]); first | done | rfl | (simp only [List.length_drop, List.length_take]; rfl)) ?_; (with_reducible refine (kissgatelaw13_great.calls k _ _ l0 false _ ?side1 ?side2 A9.out).mono ?_); (case side1 => repeat (first | exact (Kd.C_below HR0.out HB.out) | (with_reducible refine Kd.C_alloc ?_ _) | (with_reducible refine Kd.C_drewN ?_ _) | (with_reducible refine Kd.C_drew ?_))); (case side2 => exact HC0.out); rintro e w' ⟨rfl, ⟨nd, rfl⟩⟩; refine ⟨_, rfl, ?_⟩))
            go_meet
            case rel => exact ⟨_, (decide (a3 > (l2.length : Int))), (by first | rfl | (simp; done) | (simp [*]; done)), H', ⟨by first | omega | exact Nat.le_refl _⟩, ⟨by repeat (first | (with_reducible first | exact HB.out | apply below_alloc | apply pw_below_drewN | apply below_drew1) | exact HB.out)⟩⟩
    case rest =>
      clear HC7
      try clear c1
      try clear c2
      try clear p2
      try clear c3
      try clear c6
      try clear c10
      try clear c11
      try clear c11b0
      try clear c11b1
      try clear c12
      try clear c12b0
      obtain ⟨kq, x38_6, rfl, HA, HJ6, HB⟩ := hcut
      cases kq with
      | zero => exact absurd HA.out (by simp [kissgatelaw13_TableRuns.j0])
      | succ kj6 =>
        have H := HA.out
        clear HA
        simp only [kissgatelaw13_TableRuns.j0] at H
        by_cases c13 : x38_6 = true
        · subst c13
          have H1 : (some true) = some r := by rw [if_pos rfl] at H; exact H
          clear H
          have H := H1
          clear H1
          obtain rfl := Option.some.inj H
          go_wp2
          go_ret
          exact ⟨by first | rfl | (simp [errW_none, errW_some] <;> rfl) | (simp [*, errW_none, errW_some] <;> rfl), by repeat (first | (with_reducible first | exact HB.out | apply below_alloc | apply pw_below_drewN | apply below_drew1) | exact HB.out)⟩
        · replace c13 := Bool.eq_false_iff.mpr c13
          subst c13
          have H1 : ((table_Run.f kj6 l0 a1 l2).bind fun t141 => (kissgatelaw13_TableRuns.l0 kj6 l0 a1 l2 a3 t141 a1 0 l2 (l2.length : Int) 0)) = some r := by rw [if_neg (show ¬ (false = true) by decide)] at H; exact H
          clear H
          have H := H1
          clear H1
          replace H := Option.bind_eq_some_iff.mp H
          obtain ⟨t141, A140, H⟩ := H
          replace H : (kissgatelaw13_TableRuns.l0 kj6 l0 a1 l2 a3 t141 a1 0 l2 (l2.length : Int) 0) = some r := H
          have A14 := Aside0.mk A140
          clear A140
          have H' := Aside0.mk H
          clear H
          go_wp2_with (first | ((with_reducible refine gate_callee (f := 16) rfl ?_); refine goesL_ (some 42) rfl rfl Try.func16 (by kernel_rfl) rfl #[.slice A0 l0.length c0, .int .i64 a1, .slice A2 l2.length c2] rfl (by (try simp only [List.map_toArray, List.map_cons, List.map_nil]); first | done | rfl | (simp only [List.length_drop, List.length_take]; rfl)) ?_; (with_reducible refine (table_Run.calls kj6 _ _ l0 a1 _ _ l2 t141 _ ?side1 ?side2 ?side3 ?side4 A14.out).mono ?_); (case side1 => repeat (first | exact (Kd.C_below HR0.out HB.out) | (with_reducible refine Kd.C_alloc ?_ _) | (with_reducible refine Kd.C_drewN ?_ _) | (with_reducible refine Kd.C_drew ?_))); (case side2 => exact HC0.out); (case side3 => repeat (first | exact (Kd.C_below HR2.out HB.out) | (with_reducible refine Kd.C_alloc ?_ _) | (with_reducible refine Kd.C_drewN ?_ _) | (with_reducible refine Kd.C_drew ?_))); (case side4 => exact HC2.out); rintro e w15 ⟨v142, rfl, ho0, hb⟩; refine ⟨_, rfl, ?_⟩; have n0_ := Aside0.mk (Kd.R_lower ho0 (below_size (by repeat (first | (with_reducible first | exact HB.out | apply below_alloc | apply pw_below_drewN | apply below_drew1) | exact HB.out)))); have n1_ := Aside0.mk (below_step (by repeat (first | (with_reducible first | exact HB.out | apply below_alloc | apply pw_below_drewN | apply below_drew1) | exact HB.out)) hb); clear HB; have HO143 := n0_; have HB := n1_; clear n0_ n1_; (try clear hb); (try clear hb2); (try clear hk); (try clear hi); (try clear ho0)))
          go_loopg [10, 11, 46] kj6 (fun kq v10 v11 v46 w' => ∃ (x10_2 : Int) (x11_2 : Int) (x46_2 : Int), v10 = .int .i64 x10_2 ∧ v11 = .int .i64 x11_2 ∧ v46 = .int .i64 x46_2 ∧ Aside0 (kissgatelaw13_TableRuns.l0 kq l0 a1 l2 a3 t141 x10_2 x11_2 l2 (l2.length : Int) x46_2 = some r) ∧ Aside0 (kq ≤ kj6) ∧ Aside0 (Kd.R k30 30 w' w.heap.size (fun _ => True) v142 t141) ∧ Aside0 (Below w.heap.size w w'))
          case atStart => exact ⟨(a1), (0), (0), (by first | rfl | (simp; done) | (simp [*]; done)), (by first | rfl | (simp; done) | (simp [*]; done)), (by first | rfl | (simp; done) | (simp [*]; done)), H', ⟨Nat.le_refl _⟩, ⟨by (with_reducible repeat (first | apply Kd.R_alloc | apply Kd.R_drewN | apply Kd.R_drew)); exact HO143.out⟩, ⟨by repeat (first | (with_reducible first | exact HB.out | apply below_alloc | apply pw_below_drewN | apply below_drew1) | exact HB.out)⟩⟩
          case round =>
            clear H'
            try clear c1
            try clear c2
            try clear p2
            try clear c3
            try clear c6
            try clear c10
            try clear c11
            try clear c11b0
            try clear c11b1
            try clear c12
            try clear c12b0
            try clear c13
            try clear c14
            try clear c15
            try clear p2
            obtain ⟨x10_2, x11_2, x46_2, rfl, rfl, rfl, HA, HK2, HO_9, HB⟩ := hrel
            cases gk with
            | zero => exact absurd HA.out (by simp [kissgatelaw13_TableRuns.l0])
            | succ k2 =>
              have H := HA.out
              clear HA
              simp only [kissgatelaw13_TableRuns.l0] at H
              by_cases c16 : x46_2 < (l2.length : Int)
              · rw [if_pos c16] at H
                have c16b0 : decide (x46_2 < (l2.length : Int)) = true := decide_eq_true c16
                clear c16
                by_cases c17 : 0 ≤ x46_2
                · rw [if_pos c17] at H
                  have c17b0 : decide (0 ≤ x46_2) = true := decide_eq_true c17
                  clear c17
                  by_cases c18 : x46_2 < (l2.length : Int)
                  · rw [if_pos c18] at H
                    have c18b0 : decide (x46_2 < (l2.length : Int)) = true := decide_eq_true c18
                    clear c18
                    replace H := Option.bind_eq_some_iff.mp H
                    obtain ⟨⟨t145, t146, t147⟩, A190, H⟩ := H
                    replace H : (if t147 = true then (if x11_2 ≥ (t141.length : Int) then (some false) else (if 0 ≤ x11_2 then (if x11_2 < (t141.length : Int) then (if (!(((rd_T30 t141 x11_2).f0) == t145) || (!(((rd_T30 t141 x11_2).f1) == t146))) = true then (some false) else (kissgatelaw13_TableRuns.l0 k2 l0 a1 l2 a3 t141 t145 (wrap64 (x11_2 + 1)) l2 (l2.length : Int) (wrap64 (x46_2 + 1)))) else (none)) else (none))) else (kissgatelaw13_TableRuns.l0 k2 l0 a1 l2 a3 t141 x10_2 x11_2 l2 (l2.length : Int) (wrap64 (x46_2 + 1)))) = some r := H
                    have A19 := Aside0.mk A190
                    clear A190
                    by_cases c20 : t147 = true
                    · subst c20
                      have H1 : (if x11_2 ≥ (t141.length : Int) then (some false) else (if 0 ≤ x11_2 then (if x11_2 < (t141.length : Int) then (if (!(((rd_T30 t141 x11_2).f0) == t145) || (!(((rd_T30 t141 x11_2).f1) == t146))) = true then (some false) else (kissgatelaw13_TableRuns.l0 k2 l0 a1 l2 a3 t141 t145 (wrap64 (x11_2 + 1)) l2 (l2.length : Int) (wrap64 (x46_2 + 1)))) else (none)) else (none))) = some r := by rw [if_pos rfl] at H; exact H
                      clear H
                      have H := H1
                      clear H1
                      by_cases c21 : x11_2 ≥ (t141.length : Int)
                      · rw [if_pos c21] at H
                        have c21b0 : decide ((t141.length : Int) ≤ x11_2) = true := decide_eq_true c21
                        clear c21
                        obtain rfl := Option.some.inj H
                        have p144 : 0 ≤ (x46_2 : Int) := of_decide_eq_true (by first | (with_reducible assumption) | assumption)
                        have q144 : x46_2 < (l2.length : Int) := of_decide_eq_true (by first | (with_reducible assumption) | assumption)
                        obtain ⟨ad144, e144, hx144_0⟩ := Kd.at_int HR2.out x46_2 p144 q144
                        cases e144
                        replace hx144_0 := (HB.out.cell (World.block_lt_of_cell? w _ hx144_0)).trans hx144_0
                        replace p144 := eq_true p144
                        replace q144 := eq_true q144
                        try go_wp2_with (first | ((with_reducible refine gate_callee (f := 17) rfl ?_); refine goesL_ (some 54) rfl rfl Try.func17 (by kernel_rfl) rfl #[.slice A0 l0.length c0, .int .i64 x10_2, .int .i64 (rd l2 x46_2)] rfl (by (try simp only [List.map_toArray, List.map_cons, List.map_nil]); first | done | rfl | (simp only [List.length_drop, List.length_take]; rfl)) ?_; (with_reducible refine (table_At.calls _ _ l0 x10_2 (rd l2 x46_2) t145 t146 true _ ?side1 ?side2 A19.out).mono ?_); (case side1 => repeat (first | exact (Kd.C_below HR0.out HB.out) | (with_reducible refine Kd.C_alloc ?_ _) | (with_reducible refine Kd.C_drewN ?_ _) | (with_reducible refine Kd.C_drew ?_))); (case side2 => exact HC0.out); rintro e w22 ⟨rfl, hb⟩; refine ⟨_, rfl, ?_⟩; have n0_ := Aside0.mk (Kd.R_below (by (with_reducible repeat (first | apply Kd.R_alloc | apply Kd.R_drewN | apply Kd.R_drew)); exact HO_9.out) hb); have n1_ := Aside0.mk (below_step (by repeat (first | (with_reducible first | exact HB.out | apply below_alloc | apply pw_below_drewN | apply below_drew1) | exact HB.out)) hb); clear HO_9; clear HB; have HO_9 := n0_; have HB := n1_; clear n0_ n1_; (try clear hb); (try clear hb2); (try clear hk); (try clear hi)) | ((with_reducible refine gate_dst (N := 14) rfl ?_); (try (refine gate_guard (by rfl) ?_; dsimp only)); refine box_event ?hg (N := 14) ?hd (cs := #[.int .i64 0, .int .i64 0]) (t := 30) ?hr ?_; (case hd => rfl); (case hg => rfl); (case hr => first | (go_simp; done) | (go_simp; rfl)); intro gb148 hg w23 hbox hb; have n0_ := Aside0.mk (Kd.R_below (Kd.R_elderB (by (with_reducible repeat (first | apply Kd.R_alloc | apply Kd.R_drewN | apply Kd.R_drew)); exact HO_9.out) gb148 (Nat.le_of_eq hg.symm)) hb); have n1_ := Aside0.mk (below_step (by repeat (first | (with_reducible first | exact HB.out | apply below_alloc | apply pw_below_drewN | apply below_drew1) | exact HB.out)) hb); have n2_ := Aside0.mk (hbox); have n3_ := Aside0.mk ((by rw [hg]; exact (below_size (by repeat (first | (with_reducible first | exact HB.out | apply below_alloc | apply pw_below_drewN | apply below_drew1) | exact HB.out))) : w.heap.size ≤ gb148)); have n4_ := Aside0.mk ((by rw [hg]; exact (below_size (by repeat (first | (with_reducible first | exact HB.out | apply below_alloc | apply pw_below_drewN | apply below_drew1) | exact HB.out))) : w.heap.size ≤ gb148)); clear HO_9; clear HB; have HO_9 := n0_; have HB := n1_; have BK148 := n2_; have GW148 := n3_; have GE148 := n4_; clear n0_ n1_ n2_ n3_ n4_; clear hb hbox hg; have hcz24_0 : w23.cell? ⟨gb148, 0, none⟩ = some (.int .i64 0) := (blk_cell BK148.out 0).trans rfl; have hcz24_1 : w23.cell? ⟨gb148, 1, none⟩ = some (.int .i64 0) := (blk_cell BK148.out 1).trans rfl; have hfz24_0 := blk_frozen BK148.out 0; have hfz24_1 := blk_frozen BK148.out 1))
                        have n0_ : Aside0 (Kd.R k30 30 ((w23.setCell ⟨gb148, 0, none⟩ (.int .i64 t145)).setCell ⟨gb148, 1, none⟩ (.int .i64 t146)) w.heap.size (fun k_ => k_ ≠ gb148) v142 t141) := ⟨by (with_reducible repeat (first | apply Kd.R_alloc | apply Kd.R_drewN | apply Kd.R_drew)); exact Kd.R_mono (Kd.R_far (p := ⟨gb148, 1, none⟩) (Kd.R_far (p := ⟨gb148, 0, none⟩) (Kd.R_mono HO_9.out (fun k_ hk => (⟨hk, hk.2⟩ : _ ∧ k_ ≠ gb148))) (fun _ hk => hk.2) (.int .i64 t145)) (fun _ hk => hk.2) (.int .i64 t146)) (fun _ hk => hk.1.2)⟩
                        have n1_ : Aside0 (((w23.setCell ⟨gb148, 0, none⟩ (.int .i64 t145)).setCell ⟨gb148, 1, none⟩ (.int .i64 t146)).heap[gb148]? = some (.cells #[.int .i64 t145, .int .i64 t146] 30 (0, 0))) := ⟨by (with_reducible repeat (first | refine blk_drewN ?_ _ | refine blk_drew ?_ | refine blk_alloc ?_ _)); refine blk_put (cs := #[.int .i64 t145, .int .i64 0]) ?_ 1 _ rfl; (with_reducible repeat (first | refine blk_drewN ?_ _ | refine blk_drew ?_ | refine blk_alloc ?_ _)); refine blk_put (cs := #[.int .i64 0, .int .i64 0]) ?_ 0 _ rfl; (with_reducible repeat (first | refine blk_drewN ?_ _ | refine blk_drew ?_ | refine blk_alloc ?_ _)); exact BK148.out⟩
                        have n2_ : Aside0 (Below w.heap.size w ((w23.setCell ⟨gb148, 0, none⟩ (.int .i64 t145)).setCell ⟨gb148, 1, none⟩ (.int .i64 t146))) := ⟨by repeat (first | (with_reducible first | exact HB.out | apply below_alloc | apply pw_below_drewN | apply below_drew1 | refine below_set ?_ GE148.out) | exact HB.out)⟩
                        (try clear HO_9)
                        (try clear BK148)
                        (try clear HB)
                        generalize ((w23.setCell ⟨gb148, 0, none⟩ (.int .i64 t145)).setCell ⟨gb148, 1, none⟩ (.int .i64 t146)) = w25 at n0_ n1_ n2_ ⊢
                        have HO_9 := n0_
                        have BK148 := n1_
                        have HB := n2_
                        clear n0_ n1_ n2_
                        have n0_ := Aside0.mk (Kd.R_drew HO_9.out)
                        have n1_ := Aside0.mk (blk_drew BK148.out)
                        have n2_ := Aside0.mk (below_drew1 HB.out)
                        clear HO_9
                        clear BK148
                        clear HB
                        have HO_9 := n0_
                        have BK148 := n1_
                        have HB := n2_
                        clear n0_ n1_ n2_
                        obtain ⟨Ao27, co27, eo27⟩ := Kd.R_slice HO_9.out
                        (first | subst eo27 | (injection eo27 with f1_ f2_ f3_; have f4_ := f1_.symm; have f5_ := f3_.symm; clear f1_ f2_ f3_; subst f4_; subst f5_))
                        refine start_ (n := 12) (S := fun w' => True) (ds := []) #[false, false, false, false, false, false, false, false, false, false, false, false] (by kernel_rfl) rfl rfl trivial (fun hHeld => ?_); refine with_tabW kissgatelaw13_TableRuns.tab12 kissgatelaw13_TableRuns.bits12 (fun HT_ HW_ => ?_)
                        generalize w25.drew = w26 at HO_9 BK148 HB hHeld ⊢
                        refine pure_ (i := 0) (N := some 59) (v := ?_) (a' := ?_) #[true, false, false, false, false, false, false, false, false, false, false, false] rfl rfl (any_of HT_.out (by kernel_rfl)) (fun _ _ _ h => h) (Or.inl ⟨by rfl, ?_⟩) ?_ ?_
                        rotate_left
                        · intro w'
                          go_simp
                          with_reducible rfl
                        rotate_left
                        · simp only [Act.put, List.setIfInBounds_toArray, List.set_cons_zero, List.set_cons_succ, i64_w, i32_w]
                          rfl
                        refine pure_ (i := 1) (N := some 60) (v := ?_) (a' := ?_) #[true, true, false, false, false, false, false, false, false, false, false, false] rfl rfl (any_of HT_.out (by kernel_rfl)) (fun _ _ _ h => h) (Or.inl ⟨by rfl, ?_⟩) ?_ ?_
                        rotate_left
                        · intro w'
                          go_simp
                          with_reducible rfl
                        rotate_left
                        · simp only [Act.put, List.setIfInBounds_toArray, List.set_cons_zero, List.set_cons_succ, i64_w, i32_w]
                          rfl
                        refine pure_ (i := 2) (N := some 61) (v := ?_) (a' := ?_) #[true, true, true, false, false, false, false, false, false, false, false, false] rfl rfl (any_of HT_.out (by kernel_rfl)) (fun _ _ _ h => h) (Or.inl ⟨by rfl, ?_⟩) ?_ ?_
                        rotate_left
                        · intro w'
                          go_simp
                          with_reducible rfl
                        rotate_left
                        · simp only [Act.put, List.setIfInBounds_toArray, List.set_cons_zero, List.set_cons_succ, i64_w, i32_w]
                          rfl
                        refine pure_ (i := 3) (N := some 62) (v := ?_) (a' := ?_) #[true, true, true, true, false, false, false, false, false, false, false, false] rfl rfl (any_of HT_.out (by kernel_rfl)) (fun _ _ _ h => h) (Or.inl ⟨by rfl, ?_⟩) ?_ ?_
                        rotate_left
                        · intro w'
                          go_simp
                          with_reducible rfl
                        rotate_left
                        · simp only [Act.put, List.setIfInBounds_toArray, List.set_cons_zero, List.set_cons_succ, i64_w, i32_w]
                          rfl
                        refine pure_ (i := 4) (N := some 63) (v := ?_) (a' := ?_) #[true, true, true, true, true, false, false, false, false, false, false, false] rfl rfl (any_of HT_.out (by kernel_rfl)) (fun _ _ _ h => h) (Or.inl ⟨by rfl, ?_⟩) ?_ ?_
                        rotate_left
                        · intro w'
                          go_simp
                          with_reducible rfl
                        rotate_left
                        · simp only [Act.put, List.setIfInBounds_toArray, List.set_cons_zero, List.set_cons_succ, i64_w, i32_w]
                          rfl
                        refine pure_ (i := 5) (N := some 64) (v := undef) (a' := ?_) #[true, true, true, true, true, true, false, false, false, false, false, false] rfl rfl (any_of HT_.out (by kernel_rfl)) (fun _ _ _ h => h) (Or.inr ⟨by rfl, rfl⟩) ?_ ?_
                        rotate_left
                        · simp only [Act.put, List.setIfInBounds_toArray, List.set_cons_zero, List.set_cons_succ, i64_w, i32_w]
                          rfl
                        refine pure_ (i := 6) (N := some 65) (v := undef) (a' := ?_) #[true, true, true, true, true, true, true, false, false, false, false, false] rfl rfl (any_of HT_.out (by kernel_rfl)) (fun _ _ _ h => h) (Or.inr ⟨by rfl, rfl⟩) ?_ ?_
                        rotate_left
                        · simp only [Act.put, List.setIfInBounds_toArray, List.set_cons_zero, List.set_cons_succ, i64_w, i32_w]
                          rfl
                        refine pure_ (i := 7) (N := some 66) (v := undef) (a' := ?_) #[true, true, true, true, true, true, true, true, false, false, false, false] rfl rfl (any_of HT_.out (by kernel_rfl)) (fun _ _ _ h => h) (Or.inr ⟨by rfl, rfl⟩) ?_ ?_
                        rotate_left
                        · simp only [Act.put, List.setIfInBounds_toArray, List.set_cons_zero, List.set_cons_succ, i64_w, i32_w]
                          rfl
                        refine pure_ (i := 8) (N := some 67) (v := undef) (a' := ?_) #[true, true, true, true, true, true, true, true, true, false, false, false] rfl rfl (any_of HT_.out (by kernel_rfl)) (fun _ _ _ h => h) (Or.inr ⟨by rfl, rfl⟩) ?_ ?_
                        rotate_left
                        · simp only [Act.put, List.setIfInBounds_toArray, List.set_cons_zero, List.set_cons_succ, i64_w, i32_w]
                          rfl
                        refine pure_ (i := 9) (N := some 68) (v := undef) (a' := ?_) #[true, true, true, true, true, true, true, true, true, true, false, false] rfl rfl (any_of HT_.out (by kernel_rfl)) (fun _ _ _ h => h) (Or.inr ⟨by rfl, rfl⟩) ?_ ?_
                        rotate_left
                        · simp only [Act.put, List.setIfInBounds_toArray, List.set_cons_zero, List.set_cons_succ, i64_w, i32_w]
                          rfl
                        refine pure_ (i := 10) (N := some 69) (v := undef) (a' := ?_) #[true, true, true, true, true, true, true, true, true, true, true, false] rfl rfl (any_of HT_.out (by kernel_rfl)) (fun _ _ _ h => h) (Or.inr ⟨by rfl, rfl⟩) ?_ ?_
                        rotate_left
                        · simp only [Act.put, List.setIfInBounds_toArray, List.set_cons_zero, List.set_cons_succ, i64_w, i32_w]
                          rfl
                        refine pure_ (i := 11) (N := some 70) (v := ?_) (a' := ?_) #[true, true, true, true, true, true, true, true, true, true, true, true] rfl rfl (any_of HT_.out (by kernel_rfl)) (fun _ _ _ h => h) (Or.inl ⟨by rfl, ?_⟩) ?_ ?_
                        rotate_left
                        · intro w'
                          go_simp
                          with_reducible rfl
                        rotate_left
                        · simp only [Act.put, List.setIfInBounds_toArray, List.set_cons_zero, List.set_cons_succ, i64_w, i32_w]
                          rfl
                        refine done_ (done_of HT_.out (by kernel_rfl)) ?_
                        try go_wp2
                        go_ret
                        exact ⟨by first | rfl | (simp [errW_none, errW_some] <;> rfl) | (simp [*, errW_none, errW_some] <;> rfl), by repeat (first | (with_reducible first | exact HB.out | apply below_alloc | apply pw_below_drewN | apply below_drew1 | refine below_set ?_ GE148.out) | exact HB.out)⟩
                      · rw [if_neg c21] at H
                        have c21b0 : decide ((t141.length : Int) ≤ x11_2) = false := decide_eq_false c21
                        clear c21
                        by_cases c28 : 0 ≤ x11_2
                        · rw [if_pos c28] at H
                          have c28b0 : decide (0 ≤ x11_2) = true := decide_eq_true c28
                          clear c28
                          by_cases c29 : x11_2 < (t141.length : Int)
                          · rw [if_pos c29] at H
                            have c29b0 : decide (x11_2 < (t141.length : Int)) = true := decide_eq_true c29
                            clear c29
                            by_cases c30 : (!(((rd_T30 t141 x11_2).f0) == t145) || (!(((rd_T30 t141 x11_2).f1) == t146))) = true
                            · rw [if_pos c30] at H
                              have c30b0 : (!(((rd_T30 t141 x11_2).f0) == t145) || (!(((rd_T30 t141 x11_2).f1) == t146))) = true := c30
                              clear c30
                              obtain rfl := Option.some.inj H
                              have p144 : 0 ≤ (x46_2 : Int) := of_decide_eq_true (by first | (with_reducible assumption) | assumption)
                              have q144 : x46_2 < (l2.length : Int) := of_decide_eq_true (by first | (with_reducible assumption) | assumption)
                              obtain ⟨ad144, e144, hx144_0⟩ := Kd.at_int HR2.out x46_2 p144 q144
                              cases e144
                              replace hx144_0 := (HB.out.cell (World.block_lt_of_cell? w _ hx144_0)).trans hx144_0
                              replace p144 := eq_true p144
                              replace q144 := eq_true q144
                              try go_wp2_with (first | ((with_reducible refine gate_callee (f := 17) rfl ?_); refine goesL_ (some 54) rfl rfl Try.func17 (by kernel_rfl) rfl #[.slice A0 l0.length c0, .int .i64 x10_2, .int .i64 (rd l2 x46_2)] rfl (by (try simp only [List.map_toArray, List.map_cons, List.map_nil]); first | done | rfl | (simp only [List.length_drop, List.length_take]; rfl)) ?_; (with_reducible refine (table_At.calls _ _ l0 x10_2 (rd l2 x46_2) t145 t146 true _ ?side1 ?side2 A19.out).mono ?_); (case side1 => repeat (first | exact (Kd.C_below HR0.out HB.out) | (with_reducible refine Kd.C_alloc ?_ _) | (with_reducible refine Kd.C_drewN ?_ _) | (with_reducible refine Kd.C_drew ?_))); (case side2 => exact HC0.out); rintro e w31 ⟨rfl, hb⟩; refine ⟨_, rfl, ?_⟩; have n0_ := Aside0.mk (Kd.R_below (by (with_reducible repeat (first | apply Kd.R_alloc | apply Kd.R_drewN | apply Kd.R_drew)); exact HO_9.out) hb); have n1_ := Aside0.mk (below_step (by repeat (first | (with_reducible first | exact HB.out | apply below_alloc | apply pw_below_drewN | apply below_drew1) | exact HB.out)) hb); clear HO_9; clear HB; have HO_9 := n0_; have HB := n1_; clear n0_ n1_; (try clear hb); (try clear hb2); (try clear hk); (try clear hi)) | ((with_reducible refine gate_dst (N := 14) rfl ?_); (try (refine gate_guard (by rfl) ?_; dsimp only)); refine box_event ?hg (N := 14) ?hd (cs := #[.int .i64 0, .int .i64 0]) (t := 30) ?hr ?_; (case hd => rfl); (case hg => rfl); (case hr => first | (go_simp; done) | (go_simp; rfl)); intro gb148 hg w32 hbox hb; have n0_ := Aside0.mk (Kd.R_below (Kd.R_elderB (by (with_reducible repeat (first | apply Kd.R_alloc | apply Kd.R_drewN | apply Kd.R_drew)); exact HO_9.out) gb148 (Nat.le_of_eq hg.symm)) hb); have n1_ := Aside0.mk (below_step (by repeat (first | (with_reducible first | exact HB.out | apply below_alloc | apply pw_below_drewN | apply below_drew1) | exact HB.out)) hb); have n2_ := Aside0.mk (hbox); have n3_ := Aside0.mk ((by rw [hg]; exact (below_size (by repeat (first | (with_reducible first | exact HB.out | apply below_alloc | apply pw_below_drewN | apply below_drew1) | exact HB.out))) : w.heap.size ≤ gb148)); have n4_ := Aside0.mk ((by rw [hg]; exact (below_size (by repeat (first | (with_reducible first | exact HB.out | apply below_alloc | apply pw_below_drewN | apply below_drew1) | exact HB.out))) : w.heap.size ≤ gb148)); clear HO_9; clear HB; have HO_9 := n0_; have HB := n1_; have BK148 := n2_; have GW148 := n3_; have GE148 := n4_; clear n0_ n1_ n2_ n3_ n4_; clear hb hbox hg; have hcz33_0 : w32.cell? ⟨gb148, 0, none⟩ = some (.int .i64 0) := (blk_cell BK148.out 0).trans rfl; have hcz33_1 : w32.cell? ⟨gb148, 1, none⟩ = some (.int .i64 0) := (blk_cell BK148.out 1).trans rfl; have hfz33_0 := blk_frozen BK148.out 0; have hfz33_1 := blk_frozen BK148.out 1))
                              have n0_ : Aside0 (Kd.R k30 30 ((w32.setCell ⟨gb148, 0, none⟩ (.int .i64 t145)).setCell ⟨gb148, 1, none⟩ (.int .i64 t146)) w.heap.size (fun k_ => k_ ≠ gb148) v142 t141) := ⟨by (with_reducible repeat (first | apply Kd.R_alloc | apply Kd.R_drewN | apply Kd.R_drew)); exact Kd.R_mono (Kd.R_far (p := ⟨gb148, 1, none⟩) (Kd.R_far (p := ⟨gb148, 0, none⟩) (Kd.R_mono HO_9.out (fun k_ hk => (⟨hk, hk.2⟩ : _ ∧ k_ ≠ gb148))) (fun _ hk => hk.2) (.int .i64 t145)) (fun _ hk => hk.2) (.int .i64 t146)) (fun _ hk => hk.1.2)⟩
                              have n1_ : Aside0 (((w32.setCell ⟨gb148, 0, none⟩ (.int .i64 t145)).setCell ⟨gb148, 1, none⟩ (.int .i64 t146)).heap[gb148]? = some (.cells #[.int .i64 t145, .int .i64 t146] 30 (0, 0))) := ⟨by (with_reducible repeat (first | refine blk_drewN ?_ _ | refine blk_drew ?_ | refine blk_alloc ?_ _)); refine blk_put (cs := #[.int .i64 t145, .int .i64 0]) ?_ 1 _ rfl; (with_reducible repeat (first | refine blk_drewN ?_ _ | refine blk_drew ?_ | refine blk_alloc ?_ _)); refine blk_put (cs := #[.int .i64 0, .int .i64 0]) ?_ 0 _ rfl; (with_reducible repeat (first | refine blk_drewN ?_ _ | refine blk_drew ?_ | refine blk_alloc ?_ _)); exact BK148.out⟩
                              have n2_ : Aside0 (Below w.heap.size w ((w32.setCell ⟨gb148, 0, none⟩ (.int .i64 t145)).setCell ⟨gb148, 1, none⟩ (.int .i64 t146))) := ⟨by repeat (first | (with_reducible first | exact HB.out | apply below_alloc | apply pw_below_drewN | apply below_drew1 | refine below_set ?_ GE148.out) | exact HB.out)⟩
                              (try clear HO_9)
                              (try clear BK148)
                              (try clear HB)
                              generalize ((w32.setCell ⟨gb148, 0, none⟩ (.int .i64 t145)).setCell ⟨gb148, 1, none⟩ (.int .i64 t146)) = w34 at n0_ n1_ n2_ ⊢
                              have HO_9 := n0_
                              have BK148 := n1_
                              have HB := n2_
                              clear n0_ n1_ n2_
                              have n0_ := Aside0.mk (Kd.R_drew HO_9.out)
                              have n1_ := Aside0.mk (blk_drew BK148.out)
                              have n2_ := Aside0.mk (below_drew1 HB.out)
                              clear HO_9
                              clear BK148
                              clear HB
                              have HO_9 := n0_
                              have BK148 := n1_
                              have HB := n2_
                              clear n0_ n1_ n2_
                              obtain ⟨Ao36, co36, eo36⟩ := Kd.R_slice HO_9.out
                              (first | subst eo36 | (injection eo36 with f1_ f2_ f3_; have f4_ := f1_.symm; have f5_ := f3_.symm; clear f1_ f2_ f3_; subst f4_; subst f5_))
                              have p149 : 0 ≤ (x11_2 : Int) := of_decide_eq_true (by first | (with_reducible assumption) | assumption)
                              have q149 : x11_2 < (t141.length : Int) := of_decide_eq_true (by first | (with_reducible assumption) | assumption)
                              obtain ⟨ad149, e149, hx149_0, hx149_1⟩ := at_T30 (Kd.R_reads' HO_9.out).2.2 x11_2 p149 q149
                              cases e149
                              replace p149 := eq_true p149
                              replace q149 := eq_true q149
                              refine start_ (n := 12) (S := fun w' => w'.cell? ⟨gb148, 0, none⟩ = some (.int .i64 t145) ∧ w'.cell? ⟨gb148, 1, none⟩ = some (.int .i64 t146) ∧ w'.cell? (ad149.add ((x11_2).toNat * 2)) = some (.int .i64 ((rd_T30 t141 x11_2).f0)) ∧ w'.cell? ⟨(ad149.add ((x11_2).toNat * 2)).block, (ad149.add ((x11_2).toNat * 2)).off + 1, none⟩ = some (.int .i64 ((rd_T30 t141 x11_2).f1))) (ds := []) #[false, false, false, false, false, false, false, false, false, false, false, false] (by kernel_rfl) rfl rfl ⟨(blk_cell BK148.out 0).trans rfl, (blk_cell BK148.out 1).trans rfl, hx149_0, hx149_1⟩ (fun hHeld => ?_); refine with_tabW kissgatelaw13_TableRuns.tab12 kissgatelaw13_TableRuns.bits12 (fun HT_ HW_ => ?_)
                              generalize w34.drew = w35 at HO_9 BK148 HB hx149_0 hx149_1 hHeld ⊢
                              refine pure_ (i := 0) (N := some 59) (v := ?_) (a' := ?_) #[true, false, false, false, false, false, false, false, false, false, false, false] rfl rfl (any_of HT_.out (by kernel_rfl)) (fun _ _ _ h => h) (Or.inl ⟨by rfl, ?_⟩) ?_ ?_
                              rotate_left
                              · intro w'
                                go_simp
                                with_reducible rfl
                              rotate_left
                              · simp only [Act.put, List.setIfInBounds_toArray, List.set_cons_zero, List.set_cons_succ, i64_w, i32_w]
                                rfl
                              refine pure_ (i := 1) (N := some 60) (v := ?_) (a' := ?_) #[true, true, false, false, false, false, false, false, false, false, false, false] rfl rfl (any_of HT_.out (by kernel_rfl)) (fun _ _ _ h => h) (Or.inl ⟨by rfl, ?_⟩) ?_ ?_
                              rotate_left
                              · intro w'
                                go_simp
                                with_reducible rfl
                              rotate_left
                              · simp only [Act.put, List.setIfInBounds_toArray, List.set_cons_zero, List.set_cons_succ, i64_w, i32_w]
                                rfl
                              refine pure_ (i := 2) (N := some 61) (v := ?_) (a' := ?_) #[true, true, true, false, false, false, false, false, false, false, false, false] rfl rfl (any_of HT_.out (by kernel_rfl)) (fun _ _ _ h => h) (Or.inl ⟨by rfl, ?_⟩) ?_ ?_
                              rotate_left
                              · intro w'
                                go_simp
                                with_reducible rfl
                              rotate_left
                              · simp only [Act.put, List.setIfInBounds_toArray, List.set_cons_zero, List.set_cons_succ, i64_w, i32_w]
                                rfl
                              refine pure_ (i := 3) (N := some 62) (v := ?_) (a' := ?_) #[true, true, true, true, false, false, false, false, false, false, false, false] rfl rfl (any_of HT_.out (by kernel_rfl)) (fun _ _ _ h => h) (Or.inl ⟨by rfl, ?_⟩) ?_ ?_
                              rotate_left
                              · intro w'
                                go_simp
                                with_reducible rfl
                              rotate_left
                              · simp only [Act.put, List.setIfInBounds_toArray, List.set_cons_zero, List.set_cons_succ, i64_w, i32_w]
                                rfl
                              refine pure_ (i := 4) (N := some 63) (v := ?_) (a' := ?_) #[true, true, true, true, true, false, false, false, false, false, false, false] rfl rfl (any_of HT_.out (by kernel_rfl)) (fun _ _ _ h => h) (Or.inl ⟨by rfl, ?_⟩) ?_ ?_
                              rotate_left
                              · intro w'
                                go_simp
                                with_reducible rfl
                              rotate_left
                              · simp only [Act.put, List.setIfInBounds_toArray, List.set_cons_zero, List.set_cons_succ, i64_w, i32_w]
                                rfl
                              refine pure_ (i := 5) (N := some 64) (v := ?_) (a' := ?_) #[true, true, true, true, true, true, false, false, false, false, false, false] rfl rfl (any_of HT_.out (by kernel_rfl)) (fun _ _ _ h => h) (Or.inl ⟨by rfl, ?_⟩) ?_ ?_
                              rotate_left
                              · intro w'
                                go_simp
                                with_reducible rfl
                              rotate_left
                              · simp only [Act.put, List.setIfInBounds_toArray, List.set_cons_zero, List.set_cons_succ, i64_w, i32_w]
                                rfl
                              refine pure_ (i := 6) (N := some 65) (v := ?_) (a' := ?_) #[true, true, true, true, true, true, true, false, false, false, false, false] rfl rfl (any_of HT_.out (by kernel_rfl)) (fun _ _ _ h => h) (Or.inl ⟨by rfl, ?_⟩) ?_ ?_
                              rotate_left
                              · intro w'
                                go_simp
                                with_reducible rfl
                              rotate_left
                              · simp only [Act.put, List.setIfInBounds_toArray, List.set_cons_zero, List.set_cons_succ, i64_w, i32_w]
                                rfl
                              refine pure_ (i := 7) (N := some 66) (v := ?_) (a' := ?_) #[true, true, true, true, true, true, true, true, false, false, false, false] rfl rfl (any_of HT_.out (by kernel_rfl)) (fun _ _ _ h => h) (Or.inl ⟨by rfl, ?_⟩) ?_ ?_
                              rotate_left
                              · intro w'
                                go_simp
                                with_reducible rfl
                              rotate_left
                              · simp only [Act.put, List.setIfInBounds_toArray, List.set_cons_zero, List.set_cons_succ, i64_w, i32_w]
                                rfl
                              refine take_ (i := 8) (N := some 67) (v := ?_) (a' := ?_) #[true, true, true, true, true, true, true, true, true, false, false, false] rfl rfl (take_ofW HT_.out HW_.out (by kernel_rfl)) (fun _ _ _ h => h) (Or.inl ⟨by rfl, ?_⟩) hHeld ?_ ?_
                              rotate_left
                              · rintro w' ⟨s0, s1, s2, s3⟩
                                go_simp
                                with_reducible rfl
                              rotate_left
                              · simp only [Act.put, List.setIfInBounds_toArray, List.set_cons_zero, List.set_cons_succ, i64_w, i32_w]
                                rfl
                              refine take_ (i := 9) (N := some 68) (v := ?_) (a' := ?_) #[true, true, true, true, true, true, true, true, true, true, false, false] rfl rfl (take_ofW HT_.out HW_.out (by kernel_rfl)) (fun _ _ _ h => h) (Or.inl ⟨by rfl, ?_⟩) hHeld ?_ ?_
                              rotate_left
                              · rintro w' ⟨s0, s1, s2, s3⟩
                                go_simp
                                with_reducible rfl
                              rotate_left
                              · simp only [Act.put, List.setIfInBounds_toArray, List.set_cons_zero, List.set_cons_succ, i64_w, i32_w]
                                rfl
                              refine pure_ (i := 10) (N := some 69) (v := ?_) (a' := ?_) #[true, true, true, true, true, true, true, true, true, true, true, false] rfl rfl (any_of HT_.out (by kernel_rfl)) (fun _ _ _ h => h) (Or.inl ⟨by rfl, ?_⟩) ?_ ?_
                              rotate_left
                              · intro w'
                                go_simp
                                with_reducible rfl
                              rotate_left
                              · simp only [Act.put, List.setIfInBounds_toArray, List.set_cons_zero, List.set_cons_succ, i64_w, i32_w]
                                rfl
                              refine pure_ (i := 11) (N := some 70) (v := ?_) (a' := ?_) #[true, true, true, true, true, true, true, true, true, true, true, true] rfl rfl (any_of HT_.out (by kernel_rfl)) (fun _ _ _ h => h) (Or.inl ⟨by rfl, ?_⟩) ?_ ?_
                              rotate_left
                              · intro w'
                                go_simp
                                with_reducible rfl
                              rotate_left
                              · simp only [Act.put, List.setIfInBounds_toArray, List.set_cons_zero, List.set_cons_succ, i64_w, i32_w]
                                rfl
                              refine done_ (done_of HT_.out (by kernel_rfl)) ?_
                              try go_wp2
                              go_ret
                              exact ⟨by first | rfl | (simp [errW_none, errW_some] <;> rfl) | (simp [*, errW_none, errW_some] <;> rfl), by repeat (first | (with_reducible first | exact HB.out | apply below_alloc | apply pw_below_drewN | apply below_drew1 | refine below_set ?_ GE148.out) | exact HB.out)⟩
                            · rw [if_neg c30] at H
                              have c30b0 : (!(((rd_T30 t141 x11_2).f0) == t145) || (!(((rd_T30 t141 x11_2).f1) == t146))) = false := by simpa using c30
                              clear c30
                              have H' := Aside0.mk H
                              clear H
                              have p144 : 0 ≤ (x46_2 : Int) := of_decide_eq_true (by first | (with_reducible assumption) | assumption)
                              have q144 : x46_2 < (l2.length : Int) := of_decide_eq_true (by first | (with_reducible assumption) | assumption)
                              obtain ⟨ad144, e144, hx144_0⟩ := Kd.at_int HR2.out x46_2 p144 q144
                              cases e144
                              replace hx144_0 := (HB.out.cell (World.block_lt_of_cell? w _ hx144_0)).trans hx144_0
                              replace p144 := eq_true p144
                              replace q144 := eq_true q144
                              try go_wp2_with (first | ((with_reducible refine gate_callee (f := 17) rfl ?_); refine goesL_ (some 54) rfl rfl Try.func17 (by kernel_rfl) rfl #[.slice A0 l0.length c0, .int .i64 x10_2, .int .i64 (rd l2 x46_2)] rfl (by (try simp only [List.map_toArray, List.map_cons, List.map_nil]); first | done | rfl | (simp only [List.length_drop, List.length_take]; rfl)) ?_; (with_reducible refine (table_At.calls _ _ l0 x10_2 (rd l2 x46_2) t145 t146 true _ ?side1 ?side2 A19.out).mono ?_); (case side1 => repeat (first | exact (Kd.C_below HR0.out HB.out) | (with_reducible refine Kd.C_alloc ?_ _) | (with_reducible refine Kd.C_drewN ?_ _) | (with_reducible refine Kd.C_drew ?_))); (case side2 => exact HC0.out); rintro e w37 ⟨rfl, hb⟩; refine ⟨_, rfl, ?_⟩; have n0_ := Aside0.mk (Kd.R_below (by (with_reducible repeat (first | apply Kd.R_alloc | apply Kd.R_drewN | apply Kd.R_drew)); exact HO_9.out) hb); have n1_ := Aside0.mk (below_step (by repeat (first | (with_reducible first | exact HB.out | apply below_alloc | apply pw_below_drewN | apply below_drew1) | exact HB.out)) hb); clear HO_9; clear HB; have HO_9 := n0_; have HB := n1_; clear n0_ n1_; (try clear hb); (try clear hb2); (try clear hk); (try clear hi)) | ((with_reducible refine gate_dst (N := 14) rfl ?_); (try (refine gate_guard (by rfl) ?_; dsimp only)); refine box_event ?hg (N := 14) ?hd (cs := #[.int .i64 0, .int .i64 0]) (t := 30) ?hr ?_; (case hd => rfl); (case hg => rfl); (case hr => first | (go_simp; done) | (go_simp; rfl)); intro gb148 hg w38 hbox hb; have n0_ := Aside0.mk (Kd.R_below (Kd.R_elderB (by (with_reducible repeat (first | apply Kd.R_alloc | apply Kd.R_drewN | apply Kd.R_drew)); exact HO_9.out) gb148 (Nat.le_of_eq hg.symm)) hb); have n1_ := Aside0.mk (below_step (by repeat (first | (with_reducible first | exact HB.out | apply below_alloc | apply pw_below_drewN | apply below_drew1) | exact HB.out)) hb); have n2_ := Aside0.mk (hbox); have n3_ := Aside0.mk ((by rw [hg]; exact (below_size (by repeat (first | (with_reducible first | exact HB.out | apply below_alloc | apply pw_below_drewN | apply below_drew1) | exact HB.out))) : w.heap.size ≤ gb148)); have n4_ := Aside0.mk ((by rw [hg]; exact (below_size (by repeat (first | (with_reducible first | exact HB.out | apply below_alloc | apply pw_below_drewN | apply below_drew1) | exact HB.out))) : w.heap.size ≤ gb148)); clear HO_9; clear HB; have HO_9 := n0_; have HB := n1_; have BK148 := n2_; have GW148 := n3_; have GE148 := n4_; clear n0_ n1_ n2_ n3_ n4_; clear hb hbox hg; have hcz39_0 : w38.cell? ⟨gb148, 0, none⟩ = some (.int .i64 0) := (blk_cell BK148.out 0).trans rfl; have hcz39_1 : w38.cell? ⟨gb148, 1, none⟩ = some (.int .i64 0) := (blk_cell BK148.out 1).trans rfl; have hfz39_0 := blk_frozen BK148.out 0; have hfz39_1 := blk_frozen BK148.out 1))
                              have n0_ : Aside0 (Kd.R k30 30 ((w38.setCell ⟨gb148, 0, none⟩ (.int .i64 t145)).setCell ⟨gb148, 1, none⟩ (.int .i64 t146)) w.heap.size (fun k_ => k_ ≠ gb148) v142 t141) := ⟨by (with_reducible repeat (first | apply Kd.R_alloc | apply Kd.R_drewN | apply Kd.R_drew)); exact Kd.R_mono (Kd.R_far (p := ⟨gb148, 1, none⟩) (Kd.R_far (p := ⟨gb148, 0, none⟩) (Kd.R_mono HO_9.out (fun k_ hk => (⟨hk, hk.2⟩ : _ ∧ k_ ≠ gb148))) (fun _ hk => hk.2) (.int .i64 t145)) (fun _ hk => hk.2) (.int .i64 t146)) (fun _ hk => hk.1.2)⟩
                              have n1_ : Aside0 (((w38.setCell ⟨gb148, 0, none⟩ (.int .i64 t145)).setCell ⟨gb148, 1, none⟩ (.int .i64 t146)).heap[gb148]? = some (.cells #[.int .i64 t145, .int .i64 t146] 30 (0, 0))) := ⟨by (with_reducible repeat (first | refine blk_drewN ?_ _ | refine blk_drew ?_ | refine blk_alloc ?_ _)); refine blk_put (cs := #[.int .i64 t145, .int .i64 0]) ?_ 1 _ rfl; (with_reducible repeat (first | refine blk_drewN ?_ _ | refine blk_drew ?_ | refine blk_alloc ?_ _)); refine blk_put (cs := #[.int .i64 0, .int .i64 0]) ?_ 0 _ rfl; (with_reducible repeat (first | refine blk_drewN ?_ _ | refine blk_drew ?_ | refine blk_alloc ?_ _)); exact BK148.out⟩
                              have n2_ : Aside0 (Below w.heap.size w ((w38.setCell ⟨gb148, 0, none⟩ (.int .i64 t145)).setCell ⟨gb148, 1, none⟩ (.int .i64 t146))) := ⟨by repeat (first | (with_reducible first | exact HB.out | apply below_alloc | apply pw_below_drewN | apply below_drew1 | refine below_set ?_ GE148.out) | exact HB.out)⟩
                              (try clear HO_9)
                              (try clear BK148)
                              (try clear HB)
                              generalize ((w38.setCell ⟨gb148, 0, none⟩ (.int .i64 t145)).setCell ⟨gb148, 1, none⟩ (.int .i64 t146)) = w40 at n0_ n1_ n2_ ⊢
                              have HO_9 := n0_
                              have BK148 := n1_
                              have HB := n2_
                              clear n0_ n1_ n2_
                              have n0_ := Aside0.mk (Kd.R_drew HO_9.out)
                              have n1_ := Aside0.mk (blk_drew BK148.out)
                              have n2_ := Aside0.mk (below_drew1 HB.out)
                              clear HO_9
                              clear BK148
                              clear HB
                              have HO_9 := n0_
                              have BK148 := n1_
                              have HB := n2_
                              clear n0_ n1_ n2_
                              obtain ⟨Ao42, co42, eo42⟩ := Kd.R_slice HO_9.out
                              (first | subst eo42 | (injection eo42 with f1_ f2_ f3_; have f4_ := f1_.symm; have f5_ := f3_.symm; clear f1_ f2_ f3_; subst f4_; subst f5_))
                              have p149 : 0 ≤ (x11_2 : Int) := of_decide_eq_true (by first | (with_reducible assumption) | assumption)
                              have q149 : x11_2 < (t141.length : Int) := of_decide_eq_true (by first | (with_reducible assumption) | assumption)
                              obtain ⟨ad149, e149, hx149_0, hx149_1⟩ := at_T30 (Kd.R_reads' HO_9.out).2.2 x11_2 p149 q149
                              cases e149
                              replace p149 := eq_true p149
                              replace q149 := eq_true q149
                              refine start_ (n := 12) (S := fun w' => w'.cell? ⟨gb148, 0, none⟩ = some (.int .i64 t145) ∧ w'.cell? ⟨gb148, 1, none⟩ = some (.int .i64 t146) ∧ w'.cell? (ad149.add ((x11_2).toNat * 2)) = some (.int .i64 ((rd_T30 t141 x11_2).f0)) ∧ w'.cell? ⟨(ad149.add ((x11_2).toNat * 2)).block, (ad149.add ((x11_2).toNat * 2)).off + 1, none⟩ = some (.int .i64 ((rd_T30 t141 x11_2).f1))) (ds := []) #[false, false, false, false, false, false, false, false, false, false, false, false] (by kernel_rfl) rfl rfl ⟨(blk_cell BK148.out 0).trans rfl, (blk_cell BK148.out 1).trans rfl, hx149_0, hx149_1⟩ (fun hHeld => ?_); refine with_tabW kissgatelaw13_TableRuns.tab12 kissgatelaw13_TableRuns.bits12 (fun HT_ HW_ => ?_)
                              generalize w40.drew = w41 at HO_9 BK148 HB hx149_0 hx149_1 hHeld ⊢
                              refine pure_ (i := 0) (N := some 59) (v := ?_) (a' := ?_) #[true, false, false, false, false, false, false, false, false, false, false, false] rfl rfl (any_of HT_.out (by kernel_rfl)) (fun _ _ _ h => h) (Or.inl ⟨by rfl, ?_⟩) ?_ ?_
                              rotate_left
                              · intro w'
                                go_simp
                                with_reducible rfl
                              rotate_left
                              · simp only [Act.put, List.setIfInBounds_toArray, List.set_cons_zero, List.set_cons_succ, i64_w, i32_w]
                                rfl
                              refine pure_ (i := 1) (N := some 60) (v := ?_) (a' := ?_) #[true, true, false, false, false, false, false, false, false, false, false, false] rfl rfl (any_of HT_.out (by kernel_rfl)) (fun _ _ _ h => h) (Or.inl ⟨by rfl, ?_⟩) ?_ ?_
                              rotate_left
                              · intro w'
                                go_simp
                                with_reducible rfl
                              rotate_left
                              · simp only [Act.put, List.setIfInBounds_toArray, List.set_cons_zero, List.set_cons_succ, i64_w, i32_w]
                                rfl
                              refine pure_ (i := 2) (N := some 61) (v := ?_) (a' := ?_) #[true, true, true, false, false, false, false, false, false, false, false, false] rfl rfl (any_of HT_.out (by kernel_rfl)) (fun _ _ _ h => h) (Or.inl ⟨by rfl, ?_⟩) ?_ ?_
                              rotate_left
                              · intro w'
                                go_simp
                                with_reducible rfl
                              rotate_left
                              · simp only [Act.put, List.setIfInBounds_toArray, List.set_cons_zero, List.set_cons_succ, i64_w, i32_w]
                                rfl
                              refine pure_ (i := 3) (N := some 62) (v := ?_) (a' := ?_) #[true, true, true, true, false, false, false, false, false, false, false, false] rfl rfl (any_of HT_.out (by kernel_rfl)) (fun _ _ _ h => h) (Or.inl ⟨by rfl, ?_⟩) ?_ ?_
                              rotate_left
                              · intro w'
                                go_simp
                                with_reducible rfl
                              rotate_left
                              · simp only [Act.put, List.setIfInBounds_toArray, List.set_cons_zero, List.set_cons_succ, i64_w, i32_w]
                                rfl
                              refine pure_ (i := 4) (N := some 63) (v := ?_) (a' := ?_) #[true, true, true, true, true, false, false, false, false, false, false, false] rfl rfl (any_of HT_.out (by kernel_rfl)) (fun _ _ _ h => h) (Or.inl ⟨by rfl, ?_⟩) ?_ ?_
                              rotate_left
                              · intro w'
                                go_simp
                                with_reducible rfl
                              rotate_left
                              · simp only [Act.put, List.setIfInBounds_toArray, List.set_cons_zero, List.set_cons_succ, i64_w, i32_w]
                                rfl
                              refine pure_ (i := 5) (N := some 64) (v := ?_) (a' := ?_) #[true, true, true, true, true, true, false, false, false, false, false, false] rfl rfl (any_of HT_.out (by kernel_rfl)) (fun _ _ _ h => h) (Or.inl ⟨by rfl, ?_⟩) ?_ ?_
                              rotate_left
                              · intro w'
                                go_simp
                                with_reducible rfl
                              rotate_left
                              · simp only [Act.put, List.setIfInBounds_toArray, List.set_cons_zero, List.set_cons_succ, i64_w, i32_w]
                                rfl
                              refine pure_ (i := 6) (N := some 65) (v := ?_) (a' := ?_) #[true, true, true, true, true, true, true, false, false, false, false, false] rfl rfl (any_of HT_.out (by kernel_rfl)) (fun _ _ _ h => h) (Or.inl ⟨by rfl, ?_⟩) ?_ ?_
                              rotate_left
                              · intro w'
                                go_simp
                                with_reducible rfl
                              rotate_left
                              · simp only [Act.put, List.setIfInBounds_toArray, List.set_cons_zero, List.set_cons_succ, i64_w, i32_w]
                                rfl
                              refine pure_ (i := 7) (N := some 66) (v := ?_) (a' := ?_) #[true, true, true, true, true, true, true, true, false, false, false, false] rfl rfl (any_of HT_.out (by kernel_rfl)) (fun _ _ _ h => h) (Or.inl ⟨by rfl, ?_⟩) ?_ ?_
                              rotate_left
                              · intro w'
                                go_simp
                                with_reducible rfl
                              rotate_left
                              · simp only [Act.put, List.setIfInBounds_toArray, List.set_cons_zero, List.set_cons_succ, i64_w, i32_w]
                                rfl
                              refine take_ (i := 8) (N := some 67) (v := ?_) (a' := ?_) #[true, true, true, true, true, true, true, true, true, false, false, false] rfl rfl (take_ofW HT_.out HW_.out (by kernel_rfl)) (fun _ _ _ h => h) (Or.inl ⟨by rfl, ?_⟩) hHeld ?_ ?_
                              rotate_left
                              · rintro w' ⟨s0, s1, s2, s3⟩
                                go_simp
                                with_reducible rfl
                              rotate_left
                              · simp only [Act.put, List.setIfInBounds_toArray, List.set_cons_zero, List.set_cons_succ, i64_w, i32_w]
                                rfl
                              refine take_ (i := 9) (N := some 68) (v := ?_) (a' := ?_) #[true, true, true, true, true, true, true, true, true, true, false, false] rfl rfl (take_ofW HT_.out HW_.out (by kernel_rfl)) (fun _ _ _ h => h) (Or.inl ⟨by rfl, ?_⟩) hHeld ?_ ?_
                              rotate_left
                              · rintro w' ⟨s0, s1, s2, s3⟩
                                go_simp
                                with_reducible rfl
                              rotate_left
                              · simp only [Act.put, List.setIfInBounds_toArray, List.set_cons_zero, List.set_cons_succ, i64_w, i32_w]
                                rfl
                              refine pure_ (i := 10) (N := some 69) (v := ?_) (a' := ?_) #[true, true, true, true, true, true, true, true, true, true, true, false] rfl rfl (any_of HT_.out (by kernel_rfl)) (fun _ _ _ h => h) (Or.inl ⟨by rfl, ?_⟩) ?_ ?_
                              rotate_left
                              · intro w'
                                go_simp
                                with_reducible rfl
                              rotate_left
                              · simp only [Act.put, List.setIfInBounds_toArray, List.set_cons_zero, List.set_cons_succ, i64_w, i32_w]
                                rfl
                              refine pure_ (i := 11) (N := some 70) (v := ?_) (a' := ?_) #[true, true, true, true, true, true, true, true, true, true, true, true] rfl rfl (any_of HT_.out (by kernel_rfl)) (fun _ _ _ h => h) (Or.inl ⟨by rfl, ?_⟩) ?_ ?_
                              rotate_left
                              · intro w'
                                go_simp
                                with_reducible rfl
                              rotate_left
                              · simp only [Act.put, List.setIfInBounds_toArray, List.set_cons_zero, List.set_cons_succ, i64_w, i32_w]
                                rfl
                              refine done_ (done_of HT_.out (by kernel_rfl)) ?_
                              have hcz43_0 : w41.cell? ⟨gb148, 0, none⟩ = some (.int .i64 t145) := (blk_cell BK148.out 0).trans rfl
                              have hcz43_1 : w41.cell? ⟨gb148, 1, none⟩ = some (.int .i64 t146) := (blk_cell BK148.out 1).trans rfl
                              have hfz43_0 := blk_frozen BK148.out 0
                              have hfz43_1 := blk_frozen BK148.out 1
                              try go_wp2
                              go_roundg k2
                              case measure => have := HJ6.out; have := HK2.out; omega
                              case rel => exact ⟨(t145), (wrap64 (x11_2 + 1)), (wrap64 (x46_2 + 1)), (by first | rfl | (simp; done) | (simp [*]; done)), (by first | rfl | (simp; done) | (simp [*]; done)), (by first | rfl | (simp; done) | (simp [*]; done)), H', ⟨by have := HJ6.out; have := HK2.out; omega⟩, ⟨by (with_reducible repeat (first | apply Kd.R_alloc | apply Kd.R_drewN | apply Kd.R_drew)); exact Kd.R_mono HO_9.out (fun _ hk => trivial)⟩, ⟨by repeat (first | (with_reducible first | exact HB.out | apply below_alloc | apply pw_below_drewN | apply below_drew1 | refine below_set ?_ GE148.out) | exact HB.out)⟩⟩
                          · rw [if_neg c29] at H
                            exact absurd H (by simp)
                        · rw [if_neg c28] at H
                          exact absurd H (by simp)
                    · replace c20 := Bool.eq_false_iff.mpr c20
                      subst c20
                      have H1 : (kissgatelaw13_TableRuns.l0 k2 l0 a1 l2 a3 t141 x10_2 x11_2 l2 (l2.length : Int) (wrap64 (x46_2 + 1))) = some r := by rw [if_neg (show ¬ (false = true) by decide)] at H; exact H
                      clear H
                      have H := H1
                      clear H1
                      have H' := Aside0.mk H
                      clear H
                      have p144 : 0 ≤ (x46_2 : Int) := of_decide_eq_true (by first | (with_reducible assumption) | assumption)
                      have q144 : x46_2 < (l2.length : Int) := of_decide_eq_true (by first | (with_reducible assumption) | assumption)
                      obtain ⟨ad144, e144, hx144_0⟩ := Kd.at_int HR2.out x46_2 p144 q144
                      cases e144
                      replace hx144_0 := (HB.out.cell (World.block_lt_of_cell? w _ hx144_0)).trans hx144_0
                      replace p144 := eq_true p144
                      replace q144 := eq_true q144
                      go_wp2_with (first | ((with_reducible refine gate_callee (f := 17) rfl ?_); refine goesL_ (some 54) rfl rfl Try.func17 (by kernel_rfl) rfl #[.slice A0 l0.length c0, .int .i64 x10_2, .int .i64 (rd l2 x46_2)] rfl (by (try simp only [List.map_toArray, List.map_cons, List.map_nil]); first | done | rfl | (simp only [List.length_drop, List.length_take]; rfl)) ?_; (with_reducible refine (table_At.calls _ _ l0 x10_2 (rd l2 x46_2) t145 t146 false _ ?side1 ?side2 A19.out).mono ?_); (case side1 => repeat (first | exact (Kd.C_below HR0.out HB.out) | (with_reducible refine Kd.C_alloc ?_ _) | (with_reducible refine Kd.C_drewN ?_ _) | (with_reducible refine Kd.C_drew ?_))); (case side2 => exact HC0.out); rintro e w44 ⟨rfl, hb⟩; refine ⟨_, rfl, ?_⟩; have n0_ := Aside0.mk (Kd.R_below (by (with_reducible repeat (first | apply Kd.R_alloc | apply Kd.R_drewN | apply Kd.R_drew)); exact HO_9.out) hb); have n1_ := Aside0.mk (below_step (by repeat (first | (with_reducible first | exact HB.out | apply below_alloc | apply pw_below_drewN | apply below_drew1) | exact HB.out)) hb); clear HO_9; clear HB; have HO_9 := n0_; have HB := n1_; clear n0_ n1_; (try clear hb); (try clear hb2); (try clear hk); (try clear hi)) | ((with_reducible refine gate_dst (N := 14) rfl ?_); (try (refine gate_guard (by rfl) ?_; dsimp only)); refine box_event ?hg (N := 14) ?hd (cs := #[.int .i64 0, .int .i64 0]) (t := 30) ?hr ?_; (case hd => rfl); (case hg => rfl); (case hr => first | (go_simp; done) | (go_simp; rfl)); intro gb148 hg w45 hbox hb; have n0_ := Aside0.mk (Kd.R_below (Kd.R_elderB (by (with_reducible repeat (first | apply Kd.R_alloc | apply Kd.R_drewN | apply Kd.R_drew)); exact HO_9.out) gb148 (Nat.le_of_eq hg.symm)) hb); have n1_ := Aside0.mk (below_step (by repeat (first | (with_reducible first | exact HB.out | apply below_alloc | apply pw_below_drewN | apply below_drew1) | exact HB.out)) hb); have n2_ := Aside0.mk (hbox); have n3_ := Aside0.mk ((by rw [hg]; exact (below_size (by repeat (first | (with_reducible first | exact HB.out | apply below_alloc | apply pw_below_drewN | apply below_drew1) | exact HB.out))) : w.heap.size ≤ gb148)); have n4_ := Aside0.mk ((by rw [hg]; exact (below_size (by repeat (first | (with_reducible first | exact HB.out | apply below_alloc | apply pw_below_drewN | apply below_drew1) | exact HB.out))) : w.heap.size ≤ gb148)); clear HO_9; clear HB; have HO_9 := n0_; have HB := n1_; have BK148 := n2_; have GW148 := n3_; have GE148 := n4_; clear n0_ n1_ n2_ n3_ n4_; clear hb hbox hg; have hcz46_0 : w45.cell? ⟨gb148, 0, none⟩ = some (.int .i64 0) := (blk_cell BK148.out 0).trans rfl; have hcz46_1 : w45.cell? ⟨gb148, 1, none⟩ = some (.int .i64 0) := (blk_cell BK148.out 1).trans rfl; have hfz46_0 := blk_frozen BK148.out 0; have hfz46_1 := blk_frozen BK148.out 1))
                      go_roundg k2
                      case measure => have := HJ6.out; have := HK2.out; omega
                      case rel => exact ⟨(x10_2), (x11_2), (wrap64 (x46_2 + 1)), (by first | rfl | (simp; done) | (simp [*]; done)), (by first | rfl | (simp; done) | (simp [*]; done)), (by first | rfl | (simp; done) | (simp [*]; done)), H', ⟨by have := HJ6.out; have := HK2.out; omega⟩, ⟨by (with_reducible repeat (first | apply Kd.R_alloc | apply Kd.R_drewN | apply Kd.R_drew)); exact Kd.R_mono (Kd.R_far (p := ⟨gb148, 1, none⟩) (Kd.R_far (p := ⟨gb148, 0, none⟩) (Kd.R_mono HO_9.out (fun k_ hk => (⟨hk, hk.2⟩ : _ ∧ k_ ≠ gb148))) (fun _ hk => hk.2) (.int .i64 t145)) (fun _ hk => hk.2) (.int .i64 t146)) (fun _ hk => trivial)⟩, ⟨by repeat (first | (with_reducible first | exact HB.out | apply below_alloc | apply pw_below_drewN | apply below_drew1 | refine below_set ?_ GE148.out) | exact HB.out)⟩⟩
                  · rw [if_neg c18] at H
                    exact absurd H (by simp)
                · rw [if_neg c17] at H
                  exact absurd H (by simp)
              · rw [if_neg c16] at H
                have c16b0 : decide (x46_2 < (l2.length : Int)) = false := decide_eq_false c16
                clear c16
                by_cases c47 : 0 ≤ a3
                · rw [if_pos c47] at H
                  have c47b0 := eq_true c47
                  have c47b1 : decide (0 ≤ a3) = true := decide_eq_true c47
                  clear c47
                  by_cases c48 : a3 ≤ (l2.length : Int)
                  · rw [if_pos c48] at H
                    have c48b0 := eq_true c48
                    have c48b1 : decide (a3 ≤ (l2.length : Int)) = true := decide_eq_true c48
                    clear c48
                    replace H := Option.bind_eq_some_iff.mp H
                    obtain ⟨t151, A490, H⟩ := H
                    replace H : (if (t151.length : Int) > 0 then (if 0 ≤ (wrap64 ((t151.length : Int) - 1)) then (if (wrap64 ((t151.length : Int) - 1)) < (t151.length : Int) then (kissgatelaw13_TableRuns.j2 k2 l0 l2 a3 t141 x11_2 t151 ((rd_T30 t151 (wrap64 ((t151.length : Int) - 1))).f0)) else (none)) else (none)) else (kissgatelaw13_TableRuns.j2 k2 l0 l2 a3 t141 x11_2 t151 a1)) = some r := H
                    have A49 := Aside0.mk A490
                    clear A490
                    have HC50 := Aside0.mk H
                    clear H
                    obtain ⟨i051, hi051, _, hsz51, _⟩ := info_parts info3
                    obtain ⟨hcut51, hA51, hC51⟩ := print_take_of (P := Try.prog) (Value.int .i64) 0 24 3 .i64 Try.underlying24 hi051 hsz51 A2 c2 l2 a3 (of_decide_eq_true (by first | (with_reducible assumption) | assumption)) (of_decide_eq_true (by first | (with_reducible assumption) | assumption)) HC2.out
                    have HR150 := Aside0.mk (Kd.C_of_reads (h1 := fun _ => rfl) (hA51 _ (Kd.reads_of_C HR2.out)))
                    have HC150 := Aside0.mk hC51
                    clear hA51 hC51 hi051 hsz51
                    go_upto_if 85 with (first | ((with_reducible refine gate_callee (f := 16) rfl ?_); refine goesL_ (some 81) rfl rfl Try.func16 (by kernel_rfl) rfl #[.slice A0 l0.length c0, .int .i64 a1, .slice A2 (l2.take (a3 : Int).toNat).length c2] rfl (by (try simp only [List.map_toArray, List.map_cons, List.map_nil]); first | done | (rw [show (l2.take (a3 : Int).toNat).length = a3.toNat from (by rw [List.length_take]; have h_ : (a3 : Int) ≤ (l2.length : Int) := of_decide_eq_true (by first | (with_reducible assumption) | assumption); omega)] <;> rfl) | rfl | (simp only [List.length_drop, List.length_take]; rfl)) ?_; (with_reducible refine (table_Run.calls k2 _ _ l0 a1 _ _ (l2.take (a3 : Int).toNat) t151 _ ?side1 ?side2 ?side3 ?side4 A49.out).mono ?_); (case side1 => repeat (first | exact (Kd.C_below HR0.out HB.out) | (with_reducible refine Kd.C_alloc ?_ _) | (with_reducible refine Kd.C_drewN ?_ _) | (with_reducible refine Kd.C_drew ?_))); (case side2 => exact HC0.out); (case side3 => repeat (first | exact (Kd.C_below HR150.out HB.out) | (with_reducible refine Kd.C_alloc ?_ _) | (with_reducible refine Kd.C_drewN ?_ _) | (with_reducible refine Kd.C_drew ?_))); (case side4 => exact HC150.out); rintro e w52 ⟨v152, rfl, ho0, hb⟩; refine ⟨_, rfl, ?_⟩; have n0_ := Aside0.mk (Kd.R_elder' (by (with_reducible repeat (first | apply Kd.R_alloc | apply Kd.R_drewN | apply Kd.R_drew)); exact HO_9.out) (Kd.R_base ho0) hb); have n1_ := Aside0.mk (Kd.R_lower (Kd.R_new' ho0 (Kd.R_lt (by (with_reducible repeat (first | apply Kd.R_alloc | apply Kd.R_drewN | apply Kd.R_drew)); exact HO_9.out))) (below_size (by repeat (first | (with_reducible first | exact HB.out | apply below_alloc | apply pw_below_drewN | apply below_drew1) | exact HB.out)))); have n2_ := Aside0.mk (below_step (by repeat (first | (with_reducible first | exact HB.out | apply below_alloc | apply pw_below_drewN | apply below_drew1) | exact HB.out)) hb); clear HO_9; clear HB; have HO_9 := n0_; have HO153 := n1_; have HB := n2_; clear n0_ n1_ n2_; (try clear hb); (try clear hb2); (try clear hk); (try clear hi); (try clear ho0); obtain ⟨Ao53, co53, eo53⟩ := Kd.R_slice HO153.out; subst eo53))
                    (try simp only [Act.put, List.setIfInBounds_toArray, List.set_cons_zero, List.set_cons_succ])
                    go_cut [17] (fun v17 wc => ∃ (kq : Nat) (x17_49 : Int), v17 = .int .i64 x17_49 ∧ Aside0 (kissgatelaw13_TableRuns.j2 kq l0 l2 a3 t141 x11_2 t151 x17_49 = some r) ∧ Aside0 (kq ≤ k2) ∧ Aside0 (Kd.R k30 30 wc w.heap.size (fun k_ => some k_ ≠ ((.slice Ao53 t151.length co53) : Value).ownBlock) v142 t141) ∧ Aside0 (Kd.R k30 30 wc w.heap.size (fun k_ => some k_ ≠ (v142 : Value).ownBlock) (.slice Ao53 t151.length co53) t151) ∧ Aside0 (Below w.heap.size w wc))
                    case first =>
                      have H := HC50.out
                      clear HC50
                      by_cases c54 : (t151.length : Int) > 0
                      · rw [if_pos c54] at H
                        have c54b0 : decide (0 < (t151.length : Int)) = true := decide_eq_true c54
                        have c54b1 : decide (0 < t151.length) = true := decide_eq_true (by omega)
                        have hx54_ : 0 < t151.length := by omega
                        clear c54
                        (first | rw [c54b0] | (simp only [i64_w, i32_w]; rw [c54b0]) | skip)
                        obtain ⟨ji55, hji55⟩ : ∃ j_ : Int, (wrap64 ((t151.length : Int) - 1)) = j_ := ⟨_, rfl⟩
                        replace H : (if 0 ≤ (ji55) then (if (ji55) < (t151.length : Int) then (kissgatelaw13_TableRuns.j2 k2 l0 l2 a3 t141 x11_2 t151 ((rd_T30 t151 (ji55)).f0)) else (none)) else (none)) = some r := by first | (rw [hji55] at H; exact H) | (simp only [hji55] at H ⊢; exact H)
                        have hji55w : (IntKind.i64.wrap ((t151.length : Int) - 1)) = ji55 := (i64_w _).trans hji55
                        by_cases c56 : 0 ≤ (ji55)
                        · rw [if_pos c56] at H
                          have c56b0 : decide (0 ≤ (ji55)) = true := decide_eq_true c56
                          clear c56
                          by_cases c57 : (ji55) < (t151.length : Int)
                          · rw [if_pos c57] at H
                            have c57b0 : decide ((ji55) < (t151.length : Int)) = true := decide_eq_true c57
                            clear c57
                            have H' := Aside0.mk H
                            clear H
                            have p154 : 0 ≤ ((ji55) : Int) := of_decide_eq_true (by first | (with_reducible assumption) | assumption)
                            have q154 : (ji55) < (t151.length : Int) := of_decide_eq_true (by first | (with_reducible assumption) | assumption)
                            obtain ⟨ad154, e154, hx154_0, hx154_1⟩ := at_T30 (Kd.R_reads' HO153.out).2.2 (ji55) p154 q154
                            cases e154
                            replace p154 := eq_true p154
                            replace q154 := eq_true q154
                            go_wp2
                            go_meet
                            case rel => exact ⟨_, ((rd_T30 t151 (ji55)).f0), (by first | rfl | (simp; done) | (simp only [← hji55] <;> (first | rfl | simp)) | (simp [*]; done)), H', ⟨by have := HJ6.out; have := HK2.out; first | omega | exact Nat.le_refl _⟩, ⟨by (with_reducible repeat (first | apply Kd.R_alloc | apply Kd.R_drewN | apply Kd.R_drew)); exact Kd.R_mono HO_9.out (fun _ hk => hk.2)⟩, ⟨by (with_reducible repeat (first | apply Kd.R_alloc | apply Kd.R_drewN | apply Kd.R_drew)); exact Kd.R_mono HO153.out (fun _ hk => hk.2)⟩, ⟨by repeat (first | (with_reducible first | exact HB.out | apply below_alloc | apply pw_below_drewN | apply below_drew1) | exact HB.out)⟩⟩
                          · rw [if_neg c57] at H
                            exact absurd H (by simp)
                        · rw [if_neg c56] at H
                          exact absurd H (by simp)
                      · rw [if_neg c54] at H
                        have c54b0 : decide (0 < (t151.length : Int)) = false := decide_eq_false c54
                        have c54b1 : decide (0 < t151.length) = false := decide_eq_false (by omega)
                        have hx54_ : ¬ 0 < t151.length := by omega
                        clear c54
                        (first | rw [c54b0] | (simp only [i64_w, i32_w]; rw [c54b0]) | skip)
                        have H' := Aside0.mk H
                        clear H
                        go_wp2
                        go_meet
                        case rel => exact ⟨_, (a1), (by first | rfl | (simp; done) | (simp [*]; done)), H', ⟨by have := HJ6.out; have := HK2.out; first | omega | exact Nat.le_refl _⟩, ⟨by (with_reducible repeat (first | apply Kd.R_alloc | apply Kd.R_drewN | apply Kd.R_drew)); exact Kd.R_mono HO_9.out (fun _ hk => hk.2)⟩, ⟨by (with_reducible repeat (first | apply Kd.R_alloc | apply Kd.R_drewN | apply Kd.R_drew)); exact Kd.R_mono HO153.out (fun _ hk => hk.2)⟩, ⟨by repeat (first | (with_reducible first | exact HB.out | apply below_alloc | apply pw_below_drewN | apply below_drew1) | exact HB.out)⟩⟩
                    case rest =>
                      clear HC50
                      try clear c1
                      try clear p1
                      try clear q1
                      try clear hx1
                      try clear c2
                      try clear p2
                      try clear c3
                      try clear c4
                      try clear c5
                      try clear c6
                      try clear p6
                      try clear c10
                      try clear c11
                      try clear c11b0
                      try clear c11b1
                      try clear c12
                      try clear c12b0
                      try clear c13
                      try clear c14
                      try clear p14
                      try clear q14
                      try clear hx14
                      try clear c15
                      try clear p15
                      try clear q15
                      try clear hx15
                      try clear c16
                      try clear c16b0
                      try clear c17
                      try clear c17b0
                      try clear c18
                      try clear c18b0
                      try clear c20
                      try clear c21
                      try clear c21b0
                      try clear c28
                      try clear c28b0
                      try clear c29
                      try clear c29b0
                      try clear c30
                      try clear c30b0
                      try clear c47
                      try clear c47b0
                      try clear c47b1
                      try clear c48
                      try clear c48b0
                      try clear c48b1
                      try clear c54
                      try clear c54b0
                      try clear c54b1
                      try clear c56
                      try clear c56b0
                      try clear c57
                      try clear c57b0
                      try clear hcz24_0
                      try clear hcz24_1
                      try clear hcz33_0
                      try clear hcz33_1
                      try clear hcz39_0
                      try clear hcz39_1
                      try clear hcz43_0
                      try clear hcz43_1
                      try clear hcz46_0
                      try clear hcz46_1
                      try clear hfz24_0
                      try clear hfz24_1
                      try clear hfz33_0
                      try clear hfz33_1
                      try clear hfz39_0
                      try clear hfz39_1
                      try clear hfz43_0
                      try clear hfz43_1
                      try clear hfz46_0
                      try clear hfz46_1
                      try clear hx144_0
                      try clear hx149_0
                      try clear hx149_1
                      try clear hx154_0
                      try clear hx154_1
                      try clear p144
                      try clear p149
                      try clear p154
                      try clear p2
                      try clear q144
                      try clear q149
                      try clear q154
                      obtain ⟨kq, x17_49, rfl, HA, HJ49, HO_9, HO_16, HB⟩ := hcut
                      cases kq with
                      | zero => exact absurd HA.out (by simp [kissgatelaw13_TableRuns.j2])
                      | succ kj49 =>
                        have H := HA.out
                        clear HA
                        simp only [kissgatelaw13_TableRuns.j2] at H
                        obtain ⟨y155, hy155⟩ : ∃ y_ : List (S30), y_ = (([] : List (S30))) := ⟨_, rfl⟩
                        replace H : (if y155.length + t151.length < 8796093022208 then ((some (y155 ++ t151 : List (S30))).bind fun y158 => (if 0 ≤ a3 then (if a3 ≤ (l2.length : Int) then ((table_Run.f kj49 l0 x17_49 (l2.drop (a3 : Int).toNat)).bind fun t162 => (if y158.length + t162.length < 8796093022208 then ((some (y158 ++ t162 : List (S30))).bind fun y165 => (kissgatelaw13_TableRuns.l1 kj49 t141 x11_2 y165 (y165.length : Int) 0)) else (none))) else (none)) else (none))) else (none)) = some r := by first | (rw [hy155]; with_reducible exact H) | (have H2_ := (Option.bind_some _ _).symm.trans H; rw [hy155]; with_reducible exact H2_) | (have H2_ := (Option.bind_some _ _).symm.trans H; with_reducible exact H2_) | with_reducible exact H | (rw [hy155]; exact H) | exact H
                        have Ny155 := Aside0.mk hy155
                        clear hy155
                        by_cases c58 : y155.length + t151.length < 8796093022208
                        · rw [if_pos c58] at H
                          have LMc58 := Aside0.mk c58
                          clear c58
                          obtain ⟨y158, hy158⟩ : ∃ y_ : List (S30), y_ = (y155 ++ t151) := ⟨_, rfl⟩
                          replace H : (if 0 ≤ a3 then (if a3 ≤ (l2.length : Int) then ((table_Run.f kj49 l0 x17_49 (l2.drop (a3 : Int).toNat)).bind fun t162 => (if y158.length + t162.length < 8796093022208 then ((some (y158 ++ t162 : List (S30))).bind fun y165 => (kissgatelaw13_TableRuns.l1 kj49 t141 x11_2 y165 (y165.length : Int) 0)) else (none))) else (none)) else (none)) = some r := by first | (rw [hy158]; with_reducible exact H) | (have H2_ := (Option.bind_some _ _).symm.trans H; rw [hy158]; with_reducible exact H2_) | (have H2_ := (Option.bind_some _ _).symm.trans H; with_reducible exact H2_) | with_reducible exact H | (rw [hy158]; exact H) | exact H
                          have Ny158 := Aside0.mk hy158
                          clear hy158
                          by_cases c59 : 0 ≤ a3
                          · rw [if_pos c59] at H
                            have c59b0 := eq_true c59
                            have c59b1 : decide (0 ≤ a3) = true := decide_eq_true c59
                            clear c59
                            by_cases c60 : a3 ≤ (l2.length : Int)
                            · rw [if_pos c60] at H
                              have c60b0 := eq_true c60
                              have c60b1 : decide (a3 ≤ (l2.length : Int)) = true := decide_eq_true c60
                              clear c60
                              replace H := Option.bind_eq_some_iff.mp H
                              obtain ⟨t162, A610, H⟩ := H
                              replace H : (if y158.length + t162.length < 8796093022208 then ((some (y158 ++ t162 : List (S30))).bind fun y165 => (kissgatelaw13_TableRuns.l1 kj49 t141 x11_2 y165 (y165.length : Int) 0)) else (none)) = some r := H
                              have A61 := Aside0.mk A610
                              clear A610
                              by_cases c62 : y158.length + t162.length < 8796093022208
                              · rw [if_pos c62] at H
                                have LMc62 := Aside0.mk c62
                                clear c62
                                obtain ⟨y165, hy165⟩ : ∃ y_ : List (S30), y_ = (y158 ++ t162) := ⟨_, rfl⟩
                                replace H : (kissgatelaw13_TableRuns.l1 kj49 t141 x11_2 y165 (y165.length : Int) 0) = some r := by first | (rw [hy165]; with_reducible exact H) | (have H2_ := (Option.bind_some _ _).symm.trans H; rw [hy165]; with_reducible exact H2_) | (have H2_ := (Option.bind_some _ _).symm.trans H; with_reducible exact H2_) | with_reducible exact H | (rw [hy165]; exact H) | exact H
                                have Ny165 := Aside0.mk hy165
                                clear hy165
                                have H' := Aside0.mk H
                                clear H
                                try go_wp2
                                have n0_ := Aside0.mk (Kd.R_drew HO_9.out)
                                have n1_ := Aside0.mk (Kd.R_drew HO_16.out)
                                have n2_ := Aside0.mk (below_drew1 HB.out)
                                clear HO_9
                                clear HO_16
                                clear HB
                                have HO_9 := n0_
                                have HO_16 := n1_
                                have HB := n2_
                                clear n0_ n1_ n2_
                                obtain ⟨i064, hi064, _, hsz64, _⟩ := info_parts info3
                                obtain ⟨A64, hcut64, hA64, hC64⟩ := print_drop_of (P := Try.prog) (Value.int .i64) 0 24 3 .i64 Try.underlying24 hi064 hsz64 A2 c2 l2 a3 (of_decide_eq_true (by first | (with_reducible assumption) | assumption)) (of_decide_eq_true (by first | (with_reducible assumption) | assumption)) HC2.out
                                have HR161 := Aside0.mk (Kd.C_of_reads (h1 := fun _ => rfl) (hA64 _ (Kd.reads_of_C HR2.out)))
                                have HC161 := Aside0.mk hC64
                                clear hA64 hC64 hi064 hsz64
                                refine start_ (n := 11) (S := fun w' => True) (ds := []) #[false, false, false, false, false, false, false, false, false, false, false] (by kernel_rfl) rfl rfl trivial (fun hHeld => ?_); refine with_tabW kissgatelaw13_TableRuns.tab21 kissgatelaw13_TableRuns.bits21 (fun HT_ HW_ => ?_)
                                generalize wc.drew = w63 at HO_9 HO_16 HB HR161 hHeld ⊢
                                refine pure_ (i := 1) (N := some 94) (v := ?_) (a' := ?_) #[false, true, false, false, false, false, false, false, false, false, false] rfl rfl (any_of HT_.out (by kernel_rfl)) (fun _ _ _ h => h) (Or.inl ⟨by rfl, ?_⟩) ?_ ?_
                                rotate_left
                                · intro w'
                                  go_simp
                                  with_reducible rfl
                                rotate_left
                                · simp only [Act.put, List.setIfInBounds_toArray, List.set_cons_zero, List.set_cons_succ, i64_w, i32_w]
                                  rfl
                                refine pure_ (i := 3) (N := some 96) (v := ?_) (a' := ?_) #[false, true, false, true, false, false, false, false, false, false, false] rfl rfl (any_of HT_.out (by kernel_rfl)) (fun _ _ _ h => h) (Or.inl ⟨by rfl, ?_⟩) ?_ ?_
                                rotate_left
                                · intro w'
                                  go_simp
                                  with_reducible rfl
                                rotate_left
                                · simp only [Act.put, List.setIfInBounds_toArray, List.set_cons_zero, List.set_cons_succ, i64_w, i32_w]
                                  rfl
                                refine pure_ (i := 4) (N := some 97) (v := ?_) (a' := ?_) #[false, true, false, true, true, false, false, false, false, false, false] rfl rfl (any_of HT_.out (by kernel_rfl)) (fun _ _ _ h => h) (Or.inl ⟨by rfl, ?_⟩) ?_ ?_
                                rotate_left
                                · intro w'
                                  go_simp
                                  with_reducible rfl
                                rotate_left
                                · simp only [Act.put, List.setIfInBounds_toArray, List.set_cons_zero, List.set_cons_succ, i64_w, i32_w]
                                  rfl
                                refine pure_ (i := 5) (N := some 98) (v := ?_) (a' := ?_) #[false, true, false, true, true, true, false, false, false, false, false] rfl rfl (any_of HT_.out (by kernel_rfl)) (fun _ _ _ h => h) (Or.inl ⟨by rfl, ?_⟩) ?_ ?_
                                rotate_left
                                · intro w'
                                  go_simp
                                  with_reducible rfl
                                rotate_left
                                · simp only [Act.put, List.setIfInBounds_toArray, List.set_cons_zero, List.set_cons_succ, i64_w, i32_w]
                                  rfl
                                refine pure_ (i := 6) (N := some 99) (v := ?_) (a' := ?_) #[false, true, false, true, true, true, true, false, false, false, false] rfl rfl (any_of HT_.out (by kernel_rfl)) (fun _ _ _ h => h) (Or.inl ⟨by rfl, ?_⟩) ?_ ?_
                                rotate_left
                                · intro w'
                                  go_simp
                                  with_reducible rfl
                                rotate_left
                                · simp only [Act.put, List.setIfInBounds_toArray, List.set_cons_zero, List.set_cons_succ, i64_w, i32_w]
                                  rfl
                                refine pure_ (i := 7) (N := some 100) (v := ?_) (a' := ?_) #[false, true, false, true, true, true, true, true, false, false, false] rfl rfl (any_of HT_.out (by kernel_rfl)) (fun _ _ _ h => h) (Or.inl ⟨by rfl, ?_⟩) ?_ ?_
                                rotate_left
                                · intro w'
                                  go_simp
                                  with_reducible rfl
                                rotate_left
                                · simp only [Act.put, List.setIfInBounds_toArray, List.set_cons_zero, List.set_cons_succ, i64_w, i32_w]
                                  rfl
                                refine one_ (i := 0) (N := some 93) #[true, true, false, true, true, true, true, true, false, false, false] rfl rfl (one_of HT_.out (by kernel_rfl)) (by decide) (fun K hK => ?_)
                                refine Kd.R_lit_step k30 _ 30 ?hg (N := 93) ?hd (xs := ([] : List (S30))) (inner := []) (ok := fun _ => True) (okp := fun _ => True) ?hr ?hp (fun _ hk => hk) trivial (Below.refl _ _) (Nat.le_refl _) (by simp) ?_; (case hd => rfl); (case hg => rfl); (case hr => first | (go_simp; done) | (go_simp; rfl)); (case hp => exact (Reps.none _ _))
                                intro v156 w65 ho66 hb hg_ hnew_
                                clear hg_ hnew_
                                (first | rw [← Ny155.out] at ho66 | (simp only [Int.reduceToNat] at ho66; rw [← Ny155.out] at ho66))
                                have n0_ := Aside0.mk (Kd.R_elder' (by (with_reducible repeat (first | apply Kd.R_alloc | apply Kd.R_drewN | apply Kd.R_drew)); exact HO_9.out) (Kd.R_base ho66) hb)
                                have n1_ := Aside0.mk (Kd.R_elder' (by (with_reducible repeat (first | apply Kd.R_alloc | apply Kd.R_drewN | apply Kd.R_drew)); exact HO_16.out) (Kd.R_base ho66) hb)
                                have n2_ := Aside0.mk (Kd.R_lower (Kd.R_new' (Kd.R_new' ho66 (Kd.R_lt (by (with_reducible repeat (first | apply Kd.R_alloc | apply Kd.R_drewN | apply Kd.R_drew)); exact HO_9.out))) (Kd.R_lt (by (with_reducible repeat (first | apply Kd.R_alloc | apply Kd.R_drewN | apply Kd.R_drew)); exact HO_16.out))) (below_size (by repeat (first | (with_reducible first | exact HB.out | apply below_alloc | apply pw_below_drewN | apply below_drew1) | exact HB.out))))
                                have n3_ := Aside0.mk (below_step (by repeat (first | (with_reducible first | exact HB.out | apply below_alloc | apply pw_below_drewN | apply below_drew1) | exact HB.out)) hb)
                                clear HO_9
                                clear HO_16
                                clear HB
                                have HO_9 := n0_
                                have HO_16 := n1_
                                have HO157 := n2_
                                have HB := n3_
                                clear n0_ n1_ n2_ n3_
                                clear hb ho66
                                refine hK.out _ _ trivial (fun hHeld => ?_)
                                clear hK K
                                refine norm_ (a' := ?_) ?_ ?_
                                rotate_left
                                · show Act.put _ (some 93) _ = _
                                  simp only [Act.put, List.setIfInBounds_toArray, List.set_cons_zero, List.set_cons_succ, i64_w, i32_w]
                                  rfl
                                refine one_ (i := 2) (N := some 95) #[true, true, true, true, true, true, true, true, false, false, false] rfl rfl (one_of HT_.out (by kernel_rfl)) (by decide) (fun K hK => ?_)
                                refine Kd.R_append_rows_step k30 (w0 := w) w.heap.size (by rfl) (.tmp 93) (.tmp 94) 27 30 (.agg #[(.int .i64 0), (.int .i64 0)]) 16 rfl Try.underlying27 info30 rfl (by decide) (by omega) v156 y155 t151 _ _ _ (fun k_ => some k_ ≠ (v142 : Value).ownBlock ∧ some k_ ≠ (.slice Ao53 t151.length co53 : Value).ownBlock) (fun _ => False) rfl rfl ?aO ?aR (fun _ _ h => h) (fun _ h => h.elim) ?aF ?aB ?aS ?aL ?_
                                (case aR => repeat (first | exact (Kd.R_reads' HO_16.out).2.2 | (with_reducible refine Kd.C_alloc ?_ _) | (with_reducible refine Kd.C_drewN ?_ _) | (with_reducible refine Kd.C_drew ?_)))
                                (case aB => exact (by repeat (first | (with_reducible first | exact HB.out | apply below_alloc | apply pw_below_drewN | apply below_drew1) | exact HB.out)))
                                (case aF => exact (fun k_ hk => ⟨Kd.fresh' (Kd.R_lt (by (with_reducible repeat (first | apply Kd.R_alloc | apply Kd.R_drewN | apply Kd.R_drew)); exact HO_9.out)) k_ hk, Kd.fresh' (Kd.R_lt (by (with_reducible repeat (first | apply Kd.R_alloc | apply Kd.R_drewN | apply Kd.R_drew)); exact HO_16.out)) k_ hk⟩))
                                (case aO => exact (by (with_reducible repeat (first | apply Kd.R_alloc | apply Kd.R_drewN | apply Kd.R_drew)); exact Kd.R_mono HO157.out (fun _ hk => ⟨hk.1.2, hk.2⟩)))
                                (case aS => exact (below_size (by repeat (first | (with_reducible first | exact HB.out | apply below_alloc | apply pw_below_drewN | apply below_drew1) | exact HB.out))))
                                (case aL => have := LMc58.out; omega)
                                intro v159 w67 ho hb hg hat
                                rw [← Ny158.out] at ho
                                have n0_ := Aside0.mk (Kd.R_after (ok := (fun k_ => some k_ ≠ (.slice Ao53 t151.length co53 : Value).ownBlock)) (by (with_reducible repeat (first | apply Kd.R_alloc | apply Kd.R_drewN | apply Kd.R_drew)); exact HO_9.out) hg hat)
                                have n1_ := Aside0.mk (Kd.R_after (ok := (fun k_ => some k_ ≠ (v142 : Value).ownBlock)) (by (with_reducible repeat (first | apply Kd.R_alloc | apply Kd.R_drewN | apply Kd.R_drew)); exact HO_16.out) hg hat)
                                have n2_ := Aside0.mk (hb)
                                have n3_ := Aside0.mk (ho)
                                clear HO_9
                                clear HO_16
                                clear HB
                                clear HO157
                                have HO_9 := n0_
                                have HO_16 := n1_
                                have HB := n2_
                                have HO160 := n3_
                                clear n0_ n1_ n2_ n3_
                                clear ho hb hg hat
                                refine hK.out _ _ trivial (fun hHeld => ?_)
                                clear hK K
                                refine norm_ (a' := ?_) ?_ ?_
                                rotate_left
                                · show Act.put _ (some 95) _ = _
                                  simp only [Act.put, List.setIfInBounds_toArray, List.set_cons_zero, List.set_cons_succ, i64_w, i32_w]
                                  rfl
                                refine one_ (i := 8) (N := some 101) #[true, true, true, true, true, true, true, true, true, false, false] rfl rfl (one_of HT_.out (by kernel_rfl)) (by decide) (fun K hK => ?_)
                                refine goes_ Try.func16 (by kernel_rfl) rfl #[.slice A0 l0.length c0, .int .i64 x17_49, .slice A64 (l2.drop (a3 : Int).toNat).length (c2 - a3.toNat)] (by rfl) rfl rfl (by (try simp only [List.map_toArray, List.map_cons, List.map_nil]); first | done | (rw [show (l2.drop (a3 : Int).toNat).length = (l2.length - a3.toNat) from List.length_drop] <;> rfl) | rfl | (simp only [List.length_drop, List.length_take]; rfl)) ?_
                                with_reducible refine (table_Run.calls kj49 _ _ l0 x17_49 _ _ (l2.drop (a3 : Int).toNat) t162 _ ?side1 ?side2 ?side3 ?side4 A61.out).mono ?_
                                (case side1 => repeat (first | exact (Kd.C_below HR0.out HB.out) | (with_reducible refine Kd.C_alloc ?_ _) | (with_reducible refine Kd.C_drewN ?_ _) | (with_reducible refine Kd.C_drew ?_)))
                                (case side2 => exact HC0.out)
                                (case side3 => repeat (first | exact (Kd.C_below HR161.out HB.out) | (with_reducible refine Kd.C_alloc ?_ _) | (with_reducible refine Kd.C_drewN ?_ _) | (with_reducible refine Kd.C_drew ?_)))
                                (case side4 => exact HC161.out)
                                rintro e w68 ⟨v163, rfl, ho0, hb⟩
                                refine ⟨_, rfl, ?_⟩
                                have n0_ := Aside0.mk (Kd.R_elder' (by (with_reducible repeat (first | apply Kd.R_alloc | apply Kd.R_drewN | apply Kd.R_drew)); exact HO_9.out) (Kd.R_base ho0) hb)
                                have n1_ := Aside0.mk (Kd.R_elder' (by (with_reducible repeat (first | apply Kd.R_alloc | apply Kd.R_drewN | apply Kd.R_drew)); exact HO_16.out) (Kd.R_base ho0) hb)
                                have n2_ := Aside0.mk (Kd.R_elder' (by (with_reducible repeat (first | apply Kd.R_alloc | apply Kd.R_drewN | apply Kd.R_drew)); exact HO160.out) (Kd.R_base ho0) hb)
                                have n3_ := Aside0.mk (Kd.R_lower (Kd.R_new' (Kd.R_new' (Kd.R_new' ho0 (Kd.R_lt (by (with_reducible repeat (first | apply Kd.R_alloc | apply Kd.R_drewN | apply Kd.R_drew)); exact HO_9.out))) (Kd.R_lt (by (with_reducible repeat (first | apply Kd.R_alloc | apply Kd.R_drewN | apply Kd.R_drew)); exact HO_16.out))) (Kd.R_lt (by (with_reducible repeat (first | apply Kd.R_alloc | apply Kd.R_drewN | apply Kd.R_drew)); exact HO160.out))) (below_size (by repeat (first | (with_reducible first | exact HB.out | apply below_alloc | apply pw_below_drewN | apply below_drew1) | exact HB.out))))
                                have n4_ := Aside0.mk (below_step (by repeat (first | (with_reducible first | exact HB.out | apply below_alloc | apply pw_below_drewN | apply below_drew1) | exact HB.out)) hb)
                                clear HO_9
                                clear HO_16
                                clear HO160
                                clear HB
                                have HO_9 := n0_
                                have HO_16 := n1_
                                have HO160 := n2_
                                have HO164 := n3_
                                have HB := n4_
                                clear n0_ n1_ n2_ n3_ n4_
                                (try clear hb)
                                (try clear hb2)
                                (try clear hk)
                                (try clear hi)
                                (try clear ho0)
                                obtain ⟨Ao70, co70, eo70⟩ := Kd.R_slice HO164.out
                                (first | subst eo70 | (injection eo70 with f1_ f2_ f3_; have f4_ := f1_.symm; have f5_ := f3_.symm; clear f1_ f2_ f3_; subst f4_; subst f5_))
                                refine hK.out _ _ trivial (fun hHeld => ?_)
                                clear hK K
                                refine norm_ (a' := ?_) ?_ ?_
                                rotate_left
                                · show Act.put _ (some 101) _ = _
                                  simp only [Act.put, List.setIfInBounds_toArray, List.set_cons_zero, List.set_cons_succ, i64_w, i32_w]
                                  rfl
                                refine one_ (i := 9) (N := some 102) #[true, true, true, true, true, true, true, true, true, true, false] rfl rfl (one_of HT_.out (by kernel_rfl)) (by decide) (fun K hK => ?_)
                                refine Kd.R_append_rows_step k30 (w0 := w) w.heap.size (by rfl) (.tmp 95) (.tmp 101) 27 30 (.agg #[(.int .i64 0), (.int .i64 0)]) 16 rfl Try.underlying27 info30 rfl (by decide) (by omega) v159 y158 t162 _ _ _ (fun k_ => some k_ ≠ (v142 : Value).ownBlock ∧ some k_ ≠ (.slice Ao53 t151.length co53 : Value).ownBlock ∧ some k_ ≠ (.slice Ao70 t162.length co70 : Value).ownBlock) (fun _ => False) rfl rfl ?aO ?aR (fun _ _ h => h) (fun _ h => h.elim) ?aF ?aB ?aS ?aL ?_
                                (case aR => repeat (first | exact (Kd.R_reads' HO164.out).2.2 | (with_reducible refine Kd.C_alloc ?_ _) | (with_reducible refine Kd.C_drewN ?_ _) | (with_reducible refine Kd.C_drew ?_)))
                                (case aB => exact (by repeat (first | (with_reducible first | exact HB.out | apply below_alloc | apply pw_below_drewN | apply below_drew1) | exact HB.out)))
                                (case aF => exact (fun k_ hk => ⟨Kd.fresh' (Kd.R_lt (by (with_reducible repeat (first | apply Kd.R_alloc | apply Kd.R_drewN | apply Kd.R_drew)); exact HO_9.out)) k_ hk, Kd.fresh' (Kd.R_lt (by (with_reducible repeat (first | apply Kd.R_alloc | apply Kd.R_drewN | apply Kd.R_drew)); exact HO_16.out)) k_ hk, Kd.fresh' (Kd.R_lt (by (with_reducible repeat (first | apply Kd.R_alloc | apply Kd.R_drewN | apply Kd.R_drew)); exact HO164.out)) k_ hk⟩))
                                (case aO => exact (by (with_reducible repeat (first | apply Kd.R_alloc | apply Kd.R_drewN | apply Kd.R_drew)); exact Kd.R_mono HO160.out (fun _ hk => ⟨hk.1.1, ⟨hk.1.2, hk.2⟩⟩)))
                                (case aS => exact (below_size (by repeat (first | (with_reducible first | exact HB.out | apply below_alloc | apply pw_below_drewN | apply below_drew1) | exact HB.out))))
                                (case aL => have := LMc62.out; omega)
                                intro v166 w69 ho hb hg hat
                                rw [← Ny165.out] at ho
                                have n0_ := Aside0.mk (Kd.R_after (ok := (fun k_ => some k_ ≠ (.slice Ao53 t151.length co53 : Value).ownBlock ∧ some k_ ≠ (.slice Ao70 t162.length co70 : Value).ownBlock)) (by (with_reducible repeat (first | apply Kd.R_alloc | apply Kd.R_drewN | apply Kd.R_drew)); exact Kd.R_mono HO_9.out (fun _ hk => ⟨⟨hk.1.1, hk.2⟩, hk.1.2⟩)) hg hat)
                                have n1_ := Aside0.mk (Kd.R_after (ok := (fun k_ => some k_ ≠ (v142 : Value).ownBlock ∧ some k_ ≠ (.slice Ao70 t162.length co70 : Value).ownBlock)) (by (with_reducible repeat (first | apply Kd.R_alloc | apply Kd.R_drewN | apply Kd.R_drew)); exact Kd.R_mono HO_16.out (fun _ hk => ⟨⟨hk.1.1, hk.2⟩, hk.1.2⟩)) hg hat)
                                have n2_ := Aside0.mk (Kd.R_after (ok := (fun k_ => some k_ ≠ (v142 : Value).ownBlock ∧ some k_ ≠ (.slice Ao53 t151.length co53 : Value).ownBlock)) (by (with_reducible repeat (first | apply Kd.R_alloc | apply Kd.R_drewN | apply Kd.R_drew)); exact Kd.R_mono HO164.out (fun _ hk => ⟨⟨hk.1.1.2, hk.1.2⟩, hk.2⟩)) hg hat)
                                have n3_ := Aside0.mk (hb)
                                have n4_ := Aside0.mk (ho)
                                clear HO_9
                                clear HO_16
                                clear HO164
                                clear HB
                                clear HO160
                                have HO_9 := n0_
                                have HO_16 := n1_
                                have HO164 := n2_
                                have HB := n3_
                                have HO167 := n4_
                                clear n0_ n1_ n2_ n3_ n4_
                                clear ho hb hg hat
                                refine hK.out _ _ trivial (fun hHeld => ?_)
                                clear hK K
                                refine norm_ (a' := ?_) ?_ ?_
                                rotate_left
                                · show Act.put _ (some 102) _ = _
                                  simp only [Act.put, List.setIfInBounds_toArray, List.set_cons_zero, List.set_cons_succ, i64_w, i32_w]
                                  rfl
                                refine pure_ (i := 10) (N := some 18) (v := ?_) (a' := ?_) #[true, true, true, true, true, true, true, true, true, true, true] rfl rfl (any_of HT_.out (by kernel_rfl)) (fun _ _ _ h => h) (Or.inl ⟨by rfl, ?_⟩) ?_ ?_
                                rotate_left
                                · intro w'
                                  go_simp
                                  with_reducible rfl
                                rotate_left
                                · simp only [Act.put, List.setIfInBounds_toArray, List.set_cons_zero, List.set_cons_succ, i64_w, i32_w]
                                  rfl
                                refine done_ (done_of HT_.out (by kernel_rfl)) ?_
                                obtain ⟨Ao71, co71, eo71⟩ := Kd.R_slice HO167.out
                                subst eo71
                                try go_wp2
                                go_loopg [105] kj49 (fun kq v105 w' => ∃ (x105_4 : Int), v105 = .int .i64 x105_4 ∧ Aside0 (kissgatelaw13_TableRuns.l1 kq t141 x11_2 y165 (y165.length : Int) x105_4 = some r) ∧ Aside0 (kq ≤ kj49) ∧ Aside0 (Kd.R k30 30 w' w.heap.size (fun k_ => some k_ ≠ ((.slice Ao71 y165.length co71) : Value).ownBlock) v142 t141) ∧ Aside0 (Kd.R k30 30 w' w.heap.size (fun k_ => some k_ ≠ (v142 : Value).ownBlock) (.slice Ao71 y165.length co71) y165) ∧ Aside0 (Below w.heap.size w w'))
                                case atStart => exact ⟨(0), (by first | rfl | (simp; done) | (simp [*]; done)), H', ⟨Nat.le_refl _⟩, ⟨by (with_reducible repeat (first | apply Kd.R_alloc | apply Kd.R_drewN | apply Kd.R_drew)); exact Kd.R_mono HO_9.out (fun _ hk => hk.2)⟩, ⟨by (with_reducible repeat (first | apply Kd.R_alloc | apply Kd.R_drewN | apply Kd.R_drew)); exact Kd.R_mono HO167.out (fun _ hk => hk.1)⟩, ⟨by repeat (first | (with_reducible first | exact HB.out | apply below_alloc | apply pw_below_drewN | apply below_drew1) | exact HB.out)⟩⟩
                                case round =>
                                  clear H'
                                  try clear c1
                                  try clear p1
                                  try clear q1
                                  try clear hx1
                                  try clear c2
                                  try clear p2
                                  try clear c3
                                  try clear c4
                                  try clear c5
                                  try clear c6
                                  try clear p6
                                  try clear c10
                                  try clear c11
                                  try clear c11b0
                                  try clear c11b1
                                  try clear c12
                                  try clear c12b0
                                  try clear c13
                                  try clear c14
                                  try clear p14
                                  try clear q14
                                  try clear hx14
                                  try clear c15
                                  try clear p15
                                  try clear q15
                                  try clear hx15
                                  try clear c16
                                  try clear c16b0
                                  try clear c17
                                  try clear c17b0
                                  try clear c18
                                  try clear c18b0
                                  try clear c20
                                  try clear c21
                                  try clear c21b0
                                  try clear c28
                                  try clear c28b0
                                  try clear c29
                                  try clear c29b0
                                  try clear c30
                                  try clear c30b0
                                  try clear c47
                                  try clear c47b0
                                  try clear c47b1
                                  try clear c48
                                  try clear c48b0
                                  try clear c48b1
                                  try clear c54
                                  try clear c54b0
                                  try clear c54b1
                                  try clear c56
                                  try clear c56b0
                                  try clear c57
                                  try clear c57b0
                                  try clear c58
                                  try clear c59
                                  try clear c59b0
                                  try clear c59b1
                                  try clear c60
                                  try clear c60b0
                                  try clear c60b1
                                  try clear c62
                                  try clear p64
                                  try clear hcz24_0
                                  try clear hcz24_1
                                  try clear hcz33_0
                                  try clear hcz33_1
                                  try clear hcz39_0
                                  try clear hcz39_1
                                  try clear hcz43_0
                                  try clear hcz43_1
                                  try clear hcz46_0
                                  try clear hcz46_1
                                  try clear hfz24_0
                                  try clear hfz24_1
                                  try clear hfz33_0
                                  try clear hfz33_1
                                  try clear hfz39_0
                                  try clear hfz39_1
                                  try clear hfz43_0
                                  try clear hfz43_1
                                  try clear hfz46_0
                                  try clear hfz46_1
                                  try clear hx144_0
                                  try clear hx149_0
                                  try clear hx149_1
                                  try clear hx154_0
                                  try clear hx154_1
                                  try clear p1
                                  try clear p14
                                  try clear p144
                                  try clear p149
                                  try clear p15
                                  try clear p154
                                  try clear p2
                                  try clear p6
                                  try clear q1
                                  try clear q14
                                  try clear q144
                                  try clear q149
                                  try clear q15
                                  try clear q154
                                  obtain ⟨x105_4, rfl, HA, HK4, HO_9, HO_18, HB⟩ := hrel
                                  cases gk with
                                  | zero => exact absurd HA.out (by simp [kissgatelaw13_TableRuns.l1])
                                  | succ k4 =>
                                    have H := HA.out
                                    clear HA
                                    simp only [kissgatelaw13_TableRuns.l1] at H
                                    by_cases c72 : x105_4 < (y165.length : Int)
                                    · rw [if_pos c72] at H
                                      have c72b0 : decide (x105_4 < (y165.length : Int)) = true := decide_eq_true c72
                                      clear c72
                                      by_cases c73 : x105_4 ≥ (t141.length : Int)
                                      · rw [if_pos c73] at H
                                        have c73b0 : decide ((t141.length : Int) ≤ x105_4) = true := decide_eq_true c73
                                        clear c73
                                        obtain rfl := Option.some.inj H
                                        try go_wp2
                                        have n0_ := Aside0.mk (Kd.R_drew HO_9.out)
                                        have n1_ := Aside0.mk (Kd.R_drew HO_18.out)
                                        have n2_ := Aside0.mk (below_drew1 HB.out)
                                        clear HO_9
                                        clear HO_18
                                        clear HB
                                        have HO_9 := n0_
                                        have HO_18 := n1_
                                        have HB := n2_
                                        clear n0_ n1_ n2_
                                        obtain ⟨Ao75, co75, eo75⟩ := Kd.R_slice HO_9.out
                                        (first | subst eo75 | (injection eo75 with f1_ f2_ f3_; have f4_ := f1_.symm; have f5_ := f3_.symm; clear f1_ f2_ f3_; subst f4_; subst f5_))
                                        refine start_ (n := 15) (S := fun w' => True) (ds := []) #[false, false, false, false, false, false, false, false, false, false, false, false, false, false, false] (by kernel_rfl) rfl rfl trivial (fun hHeld => ?_); refine with_tabW kissgatelaw13_TableRuns.tab25 kissgatelaw13_TableRuns.bits25 (fun HT_ HW_ => ?_)
                                        generalize wr.drew = w74 at HO_9 HO_18 HB hHeld ⊢
                                        refine pure_ (i := 0) (N := some 108) (v := ?_) (a' := ?_) #[true, false, false, false, false, false, false, false, false, false, false, false, false, false, false] rfl rfl (any_of HT_.out (by kernel_rfl)) (fun _ _ _ h => h) (Or.inl ⟨by rfl, ?_⟩) ?_ ?_
                                        rotate_left
                                        · intro w'
                                          go_simp
                                          with_reducible rfl
                                        rotate_left
                                        · simp only [Act.put, List.setIfInBounds_toArray, List.set_cons_zero, List.set_cons_succ, i64_w, i32_w]
                                          rfl
                                        refine pure_ (i := 1) (N := some 109) (v := ?_) (a' := ?_) #[true, true, false, false, false, false, false, false, false, false, false, false, false, false, false] rfl rfl (any_of HT_.out (by kernel_rfl)) (fun _ _ _ h => h) (Or.inl ⟨by rfl, ?_⟩) ?_ ?_
                                        rotate_left
                                        · intro w'
                                          go_simp
                                          with_reducible rfl
                                        rotate_left
                                        · simp only [Act.put, List.setIfInBounds_toArray, List.set_cons_zero, List.set_cons_succ, i64_w, i32_w]
                                          rfl
                                        refine pure_ (i := 2) (N := some 110) (v := ?_) (a' := ?_) #[true, true, true, false, false, false, false, false, false, false, false, false, false, false, false] rfl rfl (any_of HT_.out (by kernel_rfl)) (fun _ _ _ h => h) (Or.inl ⟨by rfl, ?_⟩) ?_ ?_
                                        rotate_left
                                        · intro w'
                                          go_simp
                                          with_reducible rfl
                                        rotate_left
                                        · simp only [Act.put, List.setIfInBounds_toArray, List.set_cons_zero, List.set_cons_succ, i64_w, i32_w]
                                          rfl
                                        refine pure_ (i := 3) (N := some 111) (v := ?_) (a' := ?_) #[true, true, true, true, false, false, false, false, false, false, false, false, false, false, false] rfl rfl (any_of HT_.out (by kernel_rfl)) (fun _ _ _ h => h) (Or.inl ⟨by rfl, ?_⟩) ?_ ?_
                                        rotate_left
                                        · intro w'
                                          go_simp
                                          with_reducible rfl
                                        rotate_left
                                        · simp only [Act.put, List.setIfInBounds_toArray, List.set_cons_zero, List.set_cons_succ, i64_w, i32_w]
                                          rfl
                                        refine pure_ (i := 4) (N := some 112) (v := ?_) (a' := ?_) #[true, true, true, true, true, false, false, false, false, false, false, false, false, false, false] rfl rfl (any_of HT_.out (by kernel_rfl)) (fun _ _ _ h => h) (Or.inl ⟨by rfl, ?_⟩) ?_ ?_
                                        rotate_left
                                        · intro w'
                                          go_simp
                                          with_reducible rfl
                                        rotate_left
                                        · simp only [Act.put, List.setIfInBounds_toArray, List.set_cons_zero, List.set_cons_succ, i64_w, i32_w]
                                          rfl
                                        refine pure_ (i := 5) (N := some 113) (v := undef) (a' := ?_) #[true, true, true, true, true, true, false, false, false, false, false, false, false, false, false] rfl rfl (any_of HT_.out (by kernel_rfl)) (fun _ _ _ h => h) (Or.inr ⟨by rfl, rfl⟩) ?_ ?_
                                        rotate_left
                                        · simp only [Act.put, List.setIfInBounds_toArray, List.set_cons_zero, List.set_cons_succ, i64_w, i32_w]
                                          rfl
                                        refine pure_ (i := 6) (N := some 114) (v := undef) (a' := ?_) #[true, true, true, true, true, true, true, false, false, false, false, false, false, false, false] rfl rfl (any_of HT_.out (by kernel_rfl)) (fun _ _ _ h => h) (Or.inr ⟨by rfl, rfl⟩) ?_ ?_
                                        rotate_left
                                        · simp only [Act.put, List.setIfInBounds_toArray, List.set_cons_zero, List.set_cons_succ, i64_w, i32_w]
                                          rfl
                                        refine pure_ (i := 7) (N := some 115) (v := undef) (a' := ?_) #[true, true, true, true, true, true, true, true, false, false, false, false, false, false, false] rfl rfl (any_of HT_.out (by kernel_rfl)) (fun _ _ _ h => h) (Or.inr ⟨by rfl, rfl⟩) ?_ ?_
                                        rotate_left
                                        · simp only [Act.put, List.setIfInBounds_toArray, List.set_cons_zero, List.set_cons_succ, i64_w, i32_w]
                                          rfl
                                        refine pure_ (i := 8) (N := some 116) (v := undef) (a' := ?_) #[true, true, true, true, true, true, true, true, true, false, false, false, false, false, false] rfl rfl (any_of HT_.out (by kernel_rfl)) (fun _ _ _ h => h) (Or.inr ⟨by rfl, rfl⟩) ?_ ?_
                                        rotate_left
                                        · simp only [Act.put, List.setIfInBounds_toArray, List.set_cons_zero, List.set_cons_succ, i64_w, i32_w]
                                          rfl
                                        refine pure_ (i := 9) (N := some 117) (v := undef) (a' := ?_) #[true, true, true, true, true, true, true, true, true, true, false, false, false, false, false] rfl rfl (any_of HT_.out (by kernel_rfl)) (fun _ _ _ h => h) (Or.inr ⟨by rfl, rfl⟩) ?_ ?_
                                        rotate_left
                                        · simp only [Act.put, List.setIfInBounds_toArray, List.set_cons_zero, List.set_cons_succ, i64_w, i32_w]
                                          rfl
                                        refine pure_ (i := 10) (N := some 118) (v := undef) (a' := ?_) #[true, true, true, true, true, true, true, true, true, true, true, false, false, false, false] rfl rfl (any_of HT_.out (by kernel_rfl)) (fun _ _ _ h => h) (Or.inr ⟨by rfl, rfl⟩) ?_ ?_
                                        rotate_left
                                        · simp only [Act.put, List.setIfInBounds_toArray, List.set_cons_zero, List.set_cons_succ, i64_w, i32_w]
                                          rfl
                                        refine pure_ (i := 11) (N := some 119) (v := undef) (a' := ?_) #[true, true, true, true, true, true, true, true, true, true, true, true, false, false, false] rfl rfl (any_of HT_.out (by kernel_rfl)) (fun _ _ _ h => h) (Or.inr ⟨by rfl, rfl⟩) ?_ ?_
                                        rotate_left
                                        · simp only [Act.put, List.setIfInBounds_toArray, List.set_cons_zero, List.set_cons_succ, i64_w, i32_w]
                                          rfl
                                        refine pure_ (i := 12) (N := some 120) (v := undef) (a' := ?_) #[true, true, true, true, true, true, true, true, true, true, true, true, true, false, false] rfl rfl (any_of HT_.out (by kernel_rfl)) (fun _ _ _ h => h) (Or.inr ⟨by rfl, rfl⟩) ?_ ?_
                                        rotate_left
                                        · simp only [Act.put, List.setIfInBounds_toArray, List.set_cons_zero, List.set_cons_succ, i64_w, i32_w]
                                          rfl
                                        refine pure_ (i := 13) (N := some 121) (v := undef) (a' := ?_) #[true, true, true, true, true, true, true, true, true, true, true, true, true, true, false] rfl rfl (any_of HT_.out (by kernel_rfl)) (fun _ _ _ h => h) (Or.inr ⟨by rfl, rfl⟩) ?_ ?_
                                        rotate_left
                                        · simp only [Act.put, List.setIfInBounds_toArray, List.set_cons_zero, List.set_cons_succ, i64_w, i32_w]
                                          rfl
                                        refine pure_ (i := 14) (N := some 122) (v := ?_) (a' := ?_) #[true, true, true, true, true, true, true, true, true, true, true, true, true, true, true] rfl rfl (any_of HT_.out (by kernel_rfl)) (fun _ _ _ h => h) (Or.inl ⟨by rfl, ?_⟩) ?_ ?_
                                        rotate_left
                                        · intro w'
                                          go_simp
                                          with_reducible rfl
                                        rotate_left
                                        · simp only [Act.put, List.setIfInBounds_toArray, List.set_cons_zero, List.set_cons_succ, i64_w, i32_w]
                                          rfl
                                        refine done_ (done_of HT_.out (by kernel_rfl)) ?_
                                        try go_wp2
                                        go_ret
                                        exact ⟨by first | rfl | (simp [errW_none, errW_some] <;> rfl) | (simp [*, errW_none, errW_some] <;> rfl), by repeat (first | (with_reducible first | exact HB.out | apply below_alloc | apply pw_below_drewN | apply below_drew1) | exact HB.out)⟩
                                      · rw [if_neg c73] at H
                                        have c73b0 : decide ((t141.length : Int) ≤ x105_4) = false := decide_eq_false c73
                                        clear c73
                                        by_cases c76 : 0 ≤ x105_4
                                        · rw [if_pos c76] at H
                                          have c76b0 : decide (0 ≤ x105_4) = true := decide_eq_true c76
                                          clear c76
                                          by_cases c77 : x105_4 < (t141.length : Int)
                                          · rw [if_pos c77] at H
                                            have c77b0 : decide (x105_4 < (t141.length : Int)) = true := decide_eq_true c77
                                            clear c77
                                            by_cases c78 : x105_4 < (y165.length : Int)
                                            · rw [if_pos c78] at H
                                              have c78b0 : decide (x105_4 < (y165.length : Int)) = true := decide_eq_true c78
                                              clear c78
                                              by_cases c79 : (!(((rd_T30 t141 x105_4).f0) == ((rd_T30 y165 x105_4).f0)) || (!(((rd_T30 t141 x105_4).f1) == ((rd_T30 y165 x105_4).f1)))) = true
                                              · rw [if_pos c79] at H
                                                have c79b0 : (!(((rd_T30 t141 x105_4).f0) == ((rd_T30 y165 x105_4).f0)) || (!(((rd_T30 t141 x105_4).f1) == ((rd_T30 y165 x105_4).f1)))) = true := c79
                                                clear c79
                                                obtain rfl := Option.some.inj H
                                                try go_wp2
                                                have n0_ := Aside0.mk (Kd.R_drew HO_9.out)
                                                have n1_ := Aside0.mk (Kd.R_drew HO_18.out)
                                                have n2_ := Aside0.mk (below_drew1 HB.out)
                                                clear HO_9
                                                clear HO_18
                                                clear HB
                                                have HO_9 := n0_
                                                have HO_18 := n1_
                                                have HB := n2_
                                                clear n0_ n1_ n2_
                                                obtain ⟨Ao81, co81, eo81⟩ := Kd.R_slice HO_9.out
                                                (first | subst eo81 | (injection eo81 with f1_ f2_ f3_; have f4_ := f1_.symm; have f5_ := f3_.symm; clear f1_ f2_ f3_; subst f4_; subst f5_))
                                                have p168 : 0 ≤ (x105_4 : Int) := of_decide_eq_true (by first | (with_reducible assumption) | assumption)
                                                have q168 : x105_4 < (t141.length : Int) := of_decide_eq_true (by first | (with_reducible assumption) | assumption)
                                                obtain ⟨ad168, e168, hx168_0, hx168_1⟩ := at_T30 (Kd.R_reads' HO_9.out).2.2 x105_4 p168 q168
                                                cases e168
                                                replace p168 := eq_true p168
                                                replace q168 := eq_true q168
                                                have p169 : 0 ≤ (x105_4 : Int) := of_decide_eq_true (by first | (with_reducible assumption) | assumption)
                                                have q169 : x105_4 < (y165.length : Int) := of_decide_eq_true (by first | (with_reducible assumption) | assumption)
                                                obtain ⟨ad169, e169, hx169_0, hx169_1⟩ := at_T30 (Kd.R_reads' HO_18.out).2.2 x105_4 p169 q169
                                                cases e169
                                                replace p169 := eq_true p169
                                                replace q169 := eq_true q169
                                                refine start_ (n := 15) (S := fun w' => w'.cell? (ad168.add ((x105_4).toNat * 2)) = some (.int .i64 ((rd_T30 t141 x105_4).f0)) ∧ w'.cell? ⟨(ad168.add ((x105_4).toNat * 2)).block, (ad168.add ((x105_4).toNat * 2)).off + 1, none⟩ = some (.int .i64 ((rd_T30 t141 x105_4).f1)) ∧ w'.cell? (ad169.add ((x105_4).toNat * 2)) = some (.int .i64 ((rd_T30 y165 x105_4).f0)) ∧ w'.cell? ⟨(ad169.add ((x105_4).toNat * 2)).block, (ad169.add ((x105_4).toNat * 2)).off + 1, none⟩ = some (.int .i64 ((rd_T30 y165 x105_4).f1))) (ds := []) #[false, false, false, false, false, false, false, false, false, false, false, false, false, false, false] (by kernel_rfl) rfl rfl ⟨hx168_0, hx168_1, hx169_0, hx169_1⟩ (fun hHeld => ?_); refine with_tabW kissgatelaw13_TableRuns.tab25 kissgatelaw13_TableRuns.bits25 (fun HT_ HW_ => ?_)
                                                generalize wr.drew = w80 at HO_9 HO_18 HB hx168_0 hx168_1 hx169_0 hx169_1 hHeld ⊢
                                                refine pure_ (i := 0) (N := some 108) (v := ?_) (a' := ?_) #[true, false, false, false, false, false, false, false, false, false, false, false, false, false, false] rfl rfl (any_of HT_.out (by kernel_rfl)) (fun _ _ _ h => h) (Or.inl ⟨by rfl, ?_⟩) ?_ ?_
                                                rotate_left
                                                · intro w'
                                                  go_simp
                                                  with_reducible rfl
                                                rotate_left
                                                · simp only [Act.put, List.setIfInBounds_toArray, List.set_cons_zero, List.set_cons_succ, i64_w, i32_w]
                                                  rfl
                                                refine pure_ (i := 1) (N := some 109) (v := ?_) (a' := ?_) #[true, true, false, false, false, false, false, false, false, false, false, false, false, false, false] rfl rfl (any_of HT_.out (by kernel_rfl)) (fun _ _ _ h => h) (Or.inl ⟨by rfl, ?_⟩) ?_ ?_
                                                rotate_left
                                                · intro w'
                                                  go_simp
                                                  with_reducible rfl
                                                rotate_left
                                                · simp only [Act.put, List.setIfInBounds_toArray, List.set_cons_zero, List.set_cons_succ, i64_w, i32_w]
                                                  rfl
                                                refine pure_ (i := 2) (N := some 110) (v := ?_) (a' := ?_) #[true, true, true, false, false, false, false, false, false, false, false, false, false, false, false] rfl rfl (any_of HT_.out (by kernel_rfl)) (fun _ _ _ h => h) (Or.inl ⟨by rfl, ?_⟩) ?_ ?_
                                                rotate_left
                                                · intro w'
                                                  go_simp
                                                  with_reducible rfl
                                                rotate_left
                                                · simp only [Act.put, List.setIfInBounds_toArray, List.set_cons_zero, List.set_cons_succ, i64_w, i32_w]
                                                  rfl
                                                refine pure_ (i := 3) (N := some 111) (v := ?_) (a' := ?_) #[true, true, true, true, false, false, false, false, false, false, false, false, false, false, false] rfl rfl (any_of HT_.out (by kernel_rfl)) (fun _ _ _ h => h) (Or.inl ⟨by rfl, ?_⟩) ?_ ?_
                                                rotate_left
                                                · intro w'
                                                  go_simp
                                                  with_reducible rfl
                                                rotate_left
                                                · simp only [Act.put, List.setIfInBounds_toArray, List.set_cons_zero, List.set_cons_succ, i64_w, i32_w]
                                                  rfl
                                                refine pure_ (i := 4) (N := some 112) (v := ?_) (a' := ?_) #[true, true, true, true, true, false, false, false, false, false, false, false, false, false, false] rfl rfl (any_of HT_.out (by kernel_rfl)) (fun _ _ _ h => h) (Or.inl ⟨by rfl, ?_⟩) ?_ ?_
                                                rotate_left
                                                · intro w'
                                                  go_simp
                                                  with_reducible rfl
                                                rotate_left
                                                · simp only [Act.put, List.setIfInBounds_toArray, List.set_cons_zero, List.set_cons_succ, i64_w, i32_w]
                                                  rfl
                                                refine pure_ (i := 5) (N := some 113) (v := ?_) (a' := ?_) #[true, true, true, true, true, true, false, false, false, false, false, false, false, false, false] rfl rfl (any_of HT_.out (by kernel_rfl)) (fun _ _ _ h => h) (Or.inl ⟨by rfl, ?_⟩) ?_ ?_
                                                rotate_left
                                                · intro w'
                                                  go_simp
                                                  with_reducible rfl
                                                rotate_left
                                                · simp only [Act.put, List.setIfInBounds_toArray, List.set_cons_zero, List.set_cons_succ, i64_w, i32_w]
                                                  rfl
                                                refine pure_ (i := 6) (N := some 114) (v := ?_) (a' := ?_) #[true, true, true, true, true, true, true, false, false, false, false, false, false, false, false] rfl rfl (any_of HT_.out (by kernel_rfl)) (fun _ _ _ h => h) (Or.inl ⟨by rfl, ?_⟩) ?_ ?_
                                                rotate_left
                                                · intro w'
                                                  go_simp
                                                  with_reducible rfl
                                                rotate_left
                                                · simp only [Act.put, List.setIfInBounds_toArray, List.set_cons_zero, List.set_cons_succ, i64_w, i32_w]
                                                  rfl
                                                refine pure_ (i := 7) (N := some 115) (v := ?_) (a' := ?_) #[true, true, true, true, true, true, true, true, false, false, false, false, false, false, false] rfl rfl (any_of HT_.out (by kernel_rfl)) (fun _ _ _ h => h) (Or.inl ⟨by rfl, ?_⟩) ?_ ?_
                                                rotate_left
                                                · intro w'
                                                  go_simp
                                                  with_reducible rfl
                                                rotate_left
                                                · simp only [Act.put, List.setIfInBounds_toArray, List.set_cons_zero, List.set_cons_succ, i64_w, i32_w]
                                                  rfl
                                                refine pure_ (i := 9) (N := some 117) (v := ?_) (a' := ?_) #[true, true, true, true, true, true, true, true, false, true, false, false, false, false, false] rfl rfl (any_of HT_.out (by kernel_rfl)) (fun _ _ _ h => h) (Or.inl ⟨by rfl, ?_⟩) ?_ ?_
                                                rotate_left
                                                · intro w'
                                                  go_simp
                                                  with_reducible rfl
                                                rotate_left
                                                · simp only [Act.put, List.setIfInBounds_toArray, List.set_cons_zero, List.set_cons_succ, i64_w, i32_w]
                                                  rfl
                                                refine pure_ (i := 10) (N := some 118) (v := ?_) (a' := ?_) #[true, true, true, true, true, true, true, true, false, true, true, false, false, false, false] rfl rfl (any_of HT_.out (by kernel_rfl)) (fun _ _ _ h => h) (Or.inl ⟨by rfl, ?_⟩) ?_ ?_
                                                rotate_left
                                                · intro w'
                                                  go_simp
                                                  with_reducible rfl
                                                rotate_left
                                                · simp only [Act.put, List.setIfInBounds_toArray, List.set_cons_zero, List.set_cons_succ, i64_w, i32_w]
                                                  rfl
                                                refine pure_ (i := 11) (N := some 119) (v := ?_) (a' := ?_) #[true, true, true, true, true, true, true, true, false, true, true, true, false, false, false] rfl rfl (any_of HT_.out (by kernel_rfl)) (fun _ _ _ h => h) (Or.inl ⟨by rfl, ?_⟩) ?_ ?_
                                                rotate_left
                                                · intro w'
                                                  go_simp
                                                  with_reducible rfl
                                                rotate_left
                                                · simp only [Act.put, List.setIfInBounds_toArray, List.set_cons_zero, List.set_cons_succ, i64_w, i32_w]
                                                  rfl
                                                refine take_ (i := 8) (N := some 116) (v := ?_) (a' := ?_) #[true, true, true, true, true, true, true, true, true, true, true, true, false, false, false] rfl rfl (take_ofW HT_.out HW_.out (by kernel_rfl)) (fun _ _ _ h => h) (Or.inl ⟨by rfl, ?_⟩) hHeld ?_ ?_
                                                rotate_left
                                                · rintro w' ⟨s0, s1, s2, s3⟩
                                                  go_simp
                                                  with_reducible rfl
                                                rotate_left
                                                · simp only [Act.put, List.setIfInBounds_toArray, List.set_cons_zero, List.set_cons_succ, i64_w, i32_w]
                                                  rfl
                                                refine take_ (i := 12) (N := some 120) (v := ?_) (a' := ?_) #[true, true, true, true, true, true, true, true, true, true, true, true, true, false, false] rfl rfl (take_ofW HT_.out HW_.out (by kernel_rfl)) (fun _ _ _ h => h) (Or.inl ⟨by rfl, ?_⟩) hHeld ?_ ?_
                                                rotate_left
                                                · rintro w' ⟨s0, s1, s2, s3⟩
                                                  go_simp
                                                  with_reducible rfl
                                                rotate_left
                                                · simp only [Act.put, List.setIfInBounds_toArray, List.set_cons_zero, List.set_cons_succ, i64_w, i32_w]
                                                  rfl
                                                refine pure_ (i := 13) (N := some 121) (v := ?_) (a' := ?_) #[true, true, true, true, true, true, true, true, true, true, true, true, true, true, false] rfl rfl (any_of HT_.out (by kernel_rfl)) (fun _ _ _ h => h) (Or.inl ⟨by rfl, ?_⟩) ?_ ?_
                                                rotate_left
                                                · intro w'
                                                  go_simp
                                                  with_reducible rfl
                                                rotate_left
                                                · simp only [Act.put, List.setIfInBounds_toArray, List.set_cons_zero, List.set_cons_succ, i64_w, i32_w]
                                                  rfl
                                                refine pure_ (i := 14) (N := some 122) (v := ?_) (a' := ?_) #[true, true, true, true, true, true, true, true, true, true, true, true, true, true, true] rfl rfl (any_of HT_.out (by kernel_rfl)) (fun _ _ _ h => h) (Or.inl ⟨by rfl, ?_⟩) ?_ ?_
                                                rotate_left
                                                · intro w'
                                                  go_simp
                                                  with_reducible rfl
                                                rotate_left
                                                · simp only [Act.put, List.setIfInBounds_toArray, List.set_cons_zero, List.set_cons_succ, i64_w, i32_w]
                                                  rfl
                                                refine done_ (done_of HT_.out (by kernel_rfl)) ?_
                                                try go_wp2
                                                go_ret
                                                exact ⟨by first | rfl | (simp [errW_none, errW_some] <;> rfl) | (simp [*, errW_none, errW_some] <;> rfl), by repeat (first | (with_reducible first | exact HB.out | apply below_alloc | apply pw_below_drewN | apply below_drew1) | exact HB.out)⟩
                                              · rw [if_neg c79] at H
                                                have c79b0 : (!(((rd_T30 t141 x105_4).f0) == ((rd_T30 y165 x105_4).f0)) || (!(((rd_T30 t141 x105_4).f1) == ((rd_T30 y165 x105_4).f1)))) = false := by simpa using c79
                                                clear c79
                                                have H' := Aside0.mk H
                                                clear H
                                                try go_wp2
                                                have n0_ := Aside0.mk (Kd.R_drew HO_9.out)
                                                have n1_ := Aside0.mk (Kd.R_drew HO_18.out)
                                                have n2_ := Aside0.mk (below_drew1 HB.out)
                                                clear HO_9
                                                clear HO_18
                                                clear HB
                                                have HO_9 := n0_
                                                have HO_18 := n1_
                                                have HB := n2_
                                                clear n0_ n1_ n2_
                                                obtain ⟨Ao83, co83, eo83⟩ := Kd.R_slice HO_9.out
                                                (first | subst eo83 | (injection eo83 with f1_ f2_ f3_; have f4_ := f1_.symm; have f5_ := f3_.symm; clear f1_ f2_ f3_; subst f4_; subst f5_))
                                                have p168 : 0 ≤ (x105_4 : Int) := of_decide_eq_true (by first | (with_reducible assumption) | assumption)
                                                have q168 : x105_4 < (t141.length : Int) := of_decide_eq_true (by first | (with_reducible assumption) | assumption)
                                                obtain ⟨ad168, e168, hx168_0, hx168_1⟩ := at_T30 (Kd.R_reads' HO_9.out).2.2 x105_4 p168 q168
                                                cases e168
                                                replace p168 := eq_true p168
                                                replace q168 := eq_true q168
                                                have p169 : 0 ≤ (x105_4 : Int) := of_decide_eq_true (by first | (with_reducible assumption) | assumption)
                                                have q169 : x105_4 < (y165.length : Int) := of_decide_eq_true (by first | (with_reducible assumption) | assumption)
                                                obtain ⟨ad169, e169, hx169_0, hx169_1⟩ := at_T30 (Kd.R_reads' HO_18.out).2.2 x105_4 p169 q169
                                                cases e169
                                                replace p169 := eq_true p169
                                                replace q169 := eq_true q169
                                                refine start_ (n := 15) (S := fun w' => w'.cell? (ad168.add ((x105_4).toNat * 2)) = some (.int .i64 ((rd_T30 t141 x105_4).f0)) ∧ w'.cell? ⟨(ad168.add ((x105_4).toNat * 2)).block, (ad168.add ((x105_4).toNat * 2)).off + 1, none⟩ = some (.int .i64 ((rd_T30 t141 x105_4).f1)) ∧ w'.cell? (ad169.add ((x105_4).toNat * 2)) = some (.int .i64 ((rd_T30 y165 x105_4).f0)) ∧ w'.cell? ⟨(ad169.add ((x105_4).toNat * 2)).block, (ad169.add ((x105_4).toNat * 2)).off + 1, none⟩ = some (.int .i64 ((rd_T30 y165 x105_4).f1))) (ds := []) #[false, false, false, false, false, false, false, false, false, false, false, false, false, false, false] (by kernel_rfl) rfl rfl ⟨hx168_0, hx168_1, hx169_0, hx169_1⟩ (fun hHeld => ?_); refine with_tabW kissgatelaw13_TableRuns.tab25 kissgatelaw13_TableRuns.bits25 (fun HT_ HW_ => ?_)
                                                generalize wr.drew = w82 at HO_9 HO_18 HB hx168_0 hx168_1 hx169_0 hx169_1 hHeld ⊢
                                                refine pure_ (i := 0) (N := some 108) (v := ?_) (a' := ?_) #[true, false, false, false, false, false, false, false, false, false, false, false, false, false, false] rfl rfl (any_of HT_.out (by kernel_rfl)) (fun _ _ _ h => h) (Or.inl ⟨by rfl, ?_⟩) ?_ ?_
                                                rotate_left
                                                · intro w'
                                                  go_simp
                                                  with_reducible rfl
                                                rotate_left
                                                · simp only [Act.put, List.setIfInBounds_toArray, List.set_cons_zero, List.set_cons_succ, i64_w, i32_w]
                                                  rfl
                                                refine pure_ (i := 1) (N := some 109) (v := ?_) (a' := ?_) #[true, true, false, false, false, false, false, false, false, false, false, false, false, false, false] rfl rfl (any_of HT_.out (by kernel_rfl)) (fun _ _ _ h => h) (Or.inl ⟨by rfl, ?_⟩) ?_ ?_
                                                rotate_left
                                                · intro w'
                                                  go_simp
                                                  with_reducible rfl
                                                rotate_left
                                                · simp only [Act.put, List.setIfInBounds_toArray, List.set_cons_zero, List.set_cons_succ, i64_w, i32_w]
                                                  rfl
                                                refine pure_ (i := 2) (N := some 110) (v := ?_) (a' := ?_) #[true, true, true, false, false, false, false, false, false, false, false, false, false, false, false] rfl rfl (any_of HT_.out (by kernel_rfl)) (fun _ _ _ h => h) (Or.inl ⟨by rfl, ?_⟩) ?_ ?_
                                                rotate_left
                                                · intro w'
                                                  go_simp
                                                  with_reducible rfl
                                                rotate_left
                                                · simp only [Act.put, List.setIfInBounds_toArray, List.set_cons_zero, List.set_cons_succ, i64_w, i32_w]
                                                  rfl
                                                refine pure_ (i := 3) (N := some 111) (v := ?_) (a' := ?_) #[true, true, true, true, false, false, false, false, false, false, false, false, false, false, false] rfl rfl (any_of HT_.out (by kernel_rfl)) (fun _ _ _ h => h) (Or.inl ⟨by rfl, ?_⟩) ?_ ?_
                                                rotate_left
                                                · intro w'
                                                  go_simp
                                                  with_reducible rfl
                                                rotate_left
                                                · simp only [Act.put, List.setIfInBounds_toArray, List.set_cons_zero, List.set_cons_succ, i64_w, i32_w]
                                                  rfl
                                                refine pure_ (i := 4) (N := some 112) (v := ?_) (a' := ?_) #[true, true, true, true, true, false, false, false, false, false, false, false, false, false, false] rfl rfl (any_of HT_.out (by kernel_rfl)) (fun _ _ _ h => h) (Or.inl ⟨by rfl, ?_⟩) ?_ ?_
                                                rotate_left
                                                · intro w'
                                                  go_simp
                                                  with_reducible rfl
                                                rotate_left
                                                · simp only [Act.put, List.setIfInBounds_toArray, List.set_cons_zero, List.set_cons_succ, i64_w, i32_w]
                                                  rfl
                                                refine pure_ (i := 5) (N := some 113) (v := ?_) (a' := ?_) #[true, true, true, true, true, true, false, false, false, false, false, false, false, false, false] rfl rfl (any_of HT_.out (by kernel_rfl)) (fun _ _ _ h => h) (Or.inl ⟨by rfl, ?_⟩) ?_ ?_
                                                rotate_left
                                                · intro w'
                                                  go_simp
                                                  with_reducible rfl
                                                rotate_left
                                                · simp only [Act.put, List.setIfInBounds_toArray, List.set_cons_zero, List.set_cons_succ, i64_w, i32_w]
                                                  rfl
                                                refine pure_ (i := 6) (N := some 114) (v := ?_) (a' := ?_) #[true, true, true, true, true, true, true, false, false, false, false, false, false, false, false] rfl rfl (any_of HT_.out (by kernel_rfl)) (fun _ _ _ h => h) (Or.inl ⟨by rfl, ?_⟩) ?_ ?_
                                                rotate_left
                                                · intro w'
                                                  go_simp
                                                  with_reducible rfl
                                                rotate_left
                                                · simp only [Act.put, List.setIfInBounds_toArray, List.set_cons_zero, List.set_cons_succ, i64_w, i32_w]
                                                  rfl
                                                refine pure_ (i := 7) (N := some 115) (v := ?_) (a' := ?_) #[true, true, true, true, true, true, true, true, false, false, false, false, false, false, false] rfl rfl (any_of HT_.out (by kernel_rfl)) (fun _ _ _ h => h) (Or.inl ⟨by rfl, ?_⟩) ?_ ?_
                                                rotate_left
                                                · intro w'
                                                  go_simp
                                                  with_reducible rfl
                                                rotate_left
                                                · simp only [Act.put, List.setIfInBounds_toArray, List.set_cons_zero, List.set_cons_succ, i64_w, i32_w]
                                                  rfl
                                                refine pure_ (i := 9) (N := some 117) (v := ?_) (a' := ?_) #[true, true, true, true, true, true, true, true, false, true, false, false, false, false, false] rfl rfl (any_of HT_.out (by kernel_rfl)) (fun _ _ _ h => h) (Or.inl ⟨by rfl, ?_⟩) ?_ ?_
                                                rotate_left
                                                · intro w'
                                                  go_simp
                                                  with_reducible rfl
                                                rotate_left
                                                · simp only [Act.put, List.setIfInBounds_toArray, List.set_cons_zero, List.set_cons_succ, i64_w, i32_w]
                                                  rfl
                                                refine pure_ (i := 10) (N := some 118) (v := ?_) (a' := ?_) #[true, true, true, true, true, true, true, true, false, true, true, false, false, false, false] rfl rfl (any_of HT_.out (by kernel_rfl)) (fun _ _ _ h => h) (Or.inl ⟨by rfl, ?_⟩) ?_ ?_
                                                rotate_left
                                                · intro w'
                                                  go_simp
                                                  with_reducible rfl
                                                rotate_left
                                                · simp only [Act.put, List.setIfInBounds_toArray, List.set_cons_zero, List.set_cons_succ, i64_w, i32_w]
                                                  rfl
                                                refine pure_ (i := 11) (N := some 119) (v := ?_) (a' := ?_) #[true, true, true, true, true, true, true, true, false, true, true, true, false, false, false] rfl rfl (any_of HT_.out (by kernel_rfl)) (fun _ _ _ h => h) (Or.inl ⟨by rfl, ?_⟩) ?_ ?_
                                                rotate_left
                                                · intro w'
                                                  go_simp
                                                  with_reducible rfl
                                                rotate_left
                                                · simp only [Act.put, List.setIfInBounds_toArray, List.set_cons_zero, List.set_cons_succ, i64_w, i32_w]
                                                  rfl
                                                refine take_ (i := 8) (N := some 116) (v := ?_) (a' := ?_) #[true, true, true, true, true, true, true, true, true, true, true, true, false, false, false] rfl rfl (take_ofW HT_.out HW_.out (by kernel_rfl)) (fun _ _ _ h => h) (Or.inl ⟨by rfl, ?_⟩) hHeld ?_ ?_
                                                rotate_left
                                                · rintro w' ⟨s0, s1, s2, s3⟩
                                                  go_simp
                                                  with_reducible rfl
                                                rotate_left
                                                · simp only [Act.put, List.setIfInBounds_toArray, List.set_cons_zero, List.set_cons_succ, i64_w, i32_w]
                                                  rfl
                                                refine take_ (i := 12) (N := some 120) (v := ?_) (a' := ?_) #[true, true, true, true, true, true, true, true, true, true, true, true, true, false, false] rfl rfl (take_ofW HT_.out HW_.out (by kernel_rfl)) (fun _ _ _ h => h) (Or.inl ⟨by rfl, ?_⟩) hHeld ?_ ?_
                                                rotate_left
                                                · rintro w' ⟨s0, s1, s2, s3⟩
                                                  go_simp
                                                  with_reducible rfl
                                                rotate_left
                                                · simp only [Act.put, List.setIfInBounds_toArray, List.set_cons_zero, List.set_cons_succ, i64_w, i32_w]
                                                  rfl
                                                refine pure_ (i := 13) (N := some 121) (v := ?_) (a' := ?_) #[true, true, true, true, true, true, true, true, true, true, true, true, true, true, false] rfl rfl (any_of HT_.out (by kernel_rfl)) (fun _ _ _ h => h) (Or.inl ⟨by rfl, ?_⟩) ?_ ?_
                                                rotate_left
                                                · intro w'
                                                  go_simp
                                                  with_reducible rfl
                                                rotate_left
                                                · simp only [Act.put, List.setIfInBounds_toArray, List.set_cons_zero, List.set_cons_succ, i64_w, i32_w]
                                                  rfl
                                                refine pure_ (i := 14) (N := some 122) (v := ?_) (a' := ?_) #[true, true, true, true, true, true, true, true, true, true, true, true, true, true, true] rfl rfl (any_of HT_.out (by kernel_rfl)) (fun _ _ _ h => h) (Or.inl ⟨by rfl, ?_⟩) ?_ ?_
                                                rotate_left
                                                · intro w'
                                                  go_simp
                                                  with_reducible rfl
                                                rotate_left
                                                · simp only [Act.put, List.setIfInBounds_toArray, List.set_cons_zero, List.set_cons_succ, i64_w, i32_w]
                                                  rfl
                                                refine done_ (done_of HT_.out (by kernel_rfl)) ?_
                                                try go_wp2
                                                go_roundg k4
                                                case measure => have := HJ6.out; have := HK2.out; have := HJ49.out; have := HK4.out; omega
                                                case rel => exact ⟨(wrap64 (x105_4 + 1)), (by first | rfl | (simp; done) | (simp [*]; done)), H', ⟨by have := HJ6.out; have := HK2.out; have := HJ49.out; have := HK4.out; omega⟩, ⟨by (with_reducible repeat (first | apply Kd.R_alloc | apply Kd.R_drewN | apply Kd.R_drew)); exact HO_9.out⟩, ⟨by (with_reducible repeat (first | apply Kd.R_alloc | apply Kd.R_drewN | apply Kd.R_drew)); exact HO_18.out⟩, ⟨by repeat (first | (with_reducible first | exact HB.out | apply below_alloc | apply pw_below_drewN | apply below_drew1) | exact HB.out)⟩⟩
                                            · rw [if_neg c78] at H
                                              exact absurd H (by simp)
                                          · rw [if_neg c77] at H
                                            exact absurd H (by simp)
                                        · rw [if_neg c76] at H
                                          exact absurd H (by simp)
                                    · rw [if_neg c72] at H
                                      have c72b0 : decide (x105_4 < (y165.length : Int)) = false := decide_eq_false c72
                                      clear c72
                                      by_cases c84 : x11_2 = (t141.length : Int)
                                      · rw [if_pos c84] at H
                                        have c84b0 : (x11_2 == (t141.length : Int)) = true := beq_iff_eq.mpr c84
                                        have c84b1 : (x11_2 != (t141.length : Int)) = false := bne_eq_false_iff_eq.mpr c84
                                        clear c84
                                        obtain rfl := Option.some.inj H
                                        obtain ⟨Ao85, co85, eo85⟩ := Kd.R_slice HO_9.out
                                        subst eo85
                                        go_wp2
                                        go_ret
                                        exact ⟨by first | rfl | (simp [errW_none, errW_some] <;> rfl) | (simp [*, errW_none, errW_some] <;> rfl), by repeat (first | (with_reducible first | exact HB.out | apply below_alloc | apply pw_below_drewN | apply below_drew1) | exact HB.out)⟩
                                      · rw [if_neg c84] at H
                                        have c84b0 : (x11_2 == (t141.length : Int)) = false := beq_eq_false_iff_ne.mpr c84
                                        have c84b1 : (x11_2 != (t141.length : Int)) = true := bne_iff_ne.mpr c84
                                        obtain rfl := Option.some.inj H
                                        obtain ⟨Ao86, co86, eo86⟩ := Kd.R_slice HO_9.out
                                        subst eo86
                                        go_wp2
                                        go_ret
                                        exact ⟨by first | rfl | (simp [errW_none, errW_some] <;> rfl) | (simp [*, errW_none, errW_some] <;> rfl), by repeat (first | (with_reducible first | exact HB.out | apply below_alloc | apply pw_below_drewN | apply below_drew1) | exact HB.out)⟩
                              · rw [if_neg c62] at H
                                exact absurd H (by simp)
                            · rw [if_neg c60] at H
                              exact absurd H (by simp)
                          · rw [if_neg c59] at H
                            exact absurd H (by simp)
                        · rw [if_neg c58] at H
                          exact absurd H (by simp)
                  · rw [if_neg c48] at H
                    exact absurd H (by simp)
                · rw [if_neg c47] at H
                  exact absurd H (by simp)
  · replace c6 := Bool.eq_false_iff.mpr c6
    subst c6
    have H1 : (some false) = some r := by rw [if_neg (show ¬ (false = true) by decide)] at H; exact H
    clear H
    have H := H1
    clear H1
    obtain rfl := Option.some.inj H
    go_enter Try.func3, Try.ntmps3
    go_wp2_with (first | ((with_reducible refine gate_callee (f := 14) rfl ?_); refine goesL_ (some 20) rfl rfl Try.func14 (by kernel_rfl) rfl #[] rfl (by (try simp only [List.map_toArray, List.map_cons, List.map_nil]); first | done | rfl | (simp only [List.length_drop, List.length_take]; rfl)) ?_; (with_reducible refine (kissgatelaw13_alive.calls k  false _ A5.out).mono ?_); rintro e w87 ⟨rfl, hb⟩; refine ⟨_, rfl, ?_⟩; have n0_ := Aside0.mk (below_step (by repeat (first | (with_reducible first | exact HB.out | apply below_alloc | apply pw_below_drewN | apply below_drew1) | exact HB.out)) hb); clear HB; have HB := n0_; clear n0_; (try clear hb); (try clear hb2); (try clear hk); (try clear hi)))
    go_ret
    exact ⟨by first | rfl | (simp [errW_none, errW_some] <;> rfl) | (simp [*, errW_none, errW_some] <;> rfl), by repeat (first | (with_reducible first | exact HB.out | apply below_alloc | apply pw_below_drewN | apply below_drew1) | exact HB.out)⟩
end Go.Proofs.Ytbcngajkokjfjaa.QTab
namespace Go.Proofs.Ytbcngajkokjfjaa.Opn
open Go.ChangeShapes Go.WideShapes Go.Proofs.YtbcngajkokjfjaaW.PrintWords
variable {P : Program}
def Opens {α : Type} (P : Program) (t : TypeId) (d : Kd α) (good : α → Prop) : Prop :=
  ∀ (H : Type) (enc : TypeId × Value → H) (w : World) (fuel : Nat) (cs : List Value) (x : DataW H × List MemPlace),
    DataW.trod enc P w 0 (fun _ => true) true fuel t cs = some x → (∀ n ∈ x.1.weights P t, n ≤ reachBytes) → ∃ a : α, d.K w a cs ∧ good a
theorem opens_int {t : TypeId} {k : IntKind} (hu : P.underlying t = some (.int k)) : Opens P t (Kd.int k) (fun n => (Lit.int k n).wf = true) := by
  intro H enc w fuel cs x h _
  obtain ⟨n, rfl, _, hw⟩ := DataW.trod_int hu h
  exact ⟨n, rfl, hw⟩
theorem weightsAll_mem {H : Type} {e : TypeId} : ∀ {l : List (DataW H)} {d : DataW H}, d ∈ l → ∀ n ∈ d.weights P e, n ∈ DataW.weightsAll P e l
  | [], d, h, _, _ => by simp at h
  | d0 :: l, d, h, n, hn => by
    simp only [DataW.weightsAll, List.mem_append]
    rcases List.mem_cons.1 h with rfl | h
    · exact Or.inl hn
    · exact Or.inr (weightsAll_mem h n hn)
theorem add_at_ (a : Addr) (i j : Nat) : (a.add i).add j = a.add (i + j) := by
  unfold Addr.add
  by_cases hi : i = 0
  · subst hi; simp
  · by_cases hj : j = 0
    · subst hj; simp
    · simp [hi, hj, Nat.add_assoc]
theorem choose_list {α : Type} {Q : Nat → α → Prop} : ∀ (n : Nat), (∀ i, i < n → ∃ a, Q i a) → ∃ l : List α, l.length = n ∧ ∀ i a, l[i]? = some a → Q i a
  | 0, _ => ⟨[], rfl, fun i a h => by simp at h⟩
  | n + 1, h => by
    obtain ⟨l, hl, hq⟩ := choose_list n (fun i hi => h i (by omega))
    obtain ⟨a, ha⟩ := h n (by omega)
    refine ⟨l ++ [a], by simp [hl], fun i b hb => ?_⟩
    rcases Nat.lt_or_ge i l.length with hi | hi
    · rw [List.getElem?_append_left hi] at hb
      exact hq i b hb
    · rw [List.getElem?_append_right hi] at hb
      have hlt := (List.getElem?_eq_some_iff.1 hb).1
      simp at hlt
      have e : i = n := by omega
      subst e
      rw [show i - l.length = 0 from by omega] at hb
      have hb' : a = b := by simpa using hb
      subst hb'
      exact ha
theorem opens_slice_row {α : Type} {t e : TypeId} {d : Kd α} {good : α → Prop} (hu : P.underlying t = some (.slice e)) (hC : P.cellsOf e = d.sz) {B : Nat} (hB : P.bytesOf e = B) (ho : Opens P e d good)
    (H : Type) (enc : TypeId × Value → H) (w : World) (fuel : Nat) (A : Option Addr) (len cap : Nat) (x : DataW H × List MemPlace)
    (h : DataW.trod enc P w 0 (fun _ => true) true fuel t [.slice A len cap] = some x) (hz : ∀ n ∈ x.1.weights P t, n ≤ reachBytes) :
    ∃ l : List α, l.length = len ∧ len ≤ cap ∧ d.C w A len l ∧ len ≤ maxLen ∧ len * B ≤ 140737488351232 ∧ ∀ a ∈ l, good a := by
  rcases DataW.trod_slice hu h with ⟨h0, _⟩ | ⟨a, len', cap', elems, rest, n, _, hcs, hx, _, hl, hm, hlen, hel, _, _⟩
  · simp only [List.cons.injEq, Value.slice.injEq, and_true] at h0
    obtain ⟨rfl, rfl, rfl⟩ := h0
    exact ⟨[], rfl, Nat.le_refl _, ⟨rfl, Nat.zero_le _, fun h => absurd h (by omega)⟩, Nat.zero_le _, by simp, fun a ha => by simp at ha⟩
  · simp only [List.cons.injEq, Value.slice.injEq, and_true] at hcs
    obtain ⟨rfl, rfl, rfl⟩ := hcs
    have each : ∀ i, i < len → ∃ b : α, (∃ c, c.length = d.sz ∧ d.K w b c ∧ ∀ j u, c[j]? = some u → w.cell? (a.add (i * d.sz + j)) = some u) ∧ good b := by
      intro i hi
      have h1 := hel i hi
      have hie : i < elems.length := by omega
      rw [List.getElem?_eq_getElem hie, Option.bind_eq_some_iff] at h1
      obtain ⟨cs', hc, ht'⟩ := h1
      have hw' : ∀ n ∈ (elems[i]).1.weights P e, n ≤ reachBytes := by
        intro m hm'
        refine hz m ?_
        rw [hx]
        simp only [DataW.weights, hu]
        refine List.mem_cons_of_mem _ (List.mem_append_left _ ?_)
        exact weightsAll_mem (List.mem_map.2 ⟨elems[i], List.getElem_mem hie, rfl⟩) m hm'
      obtain ⟨b, hb, hg⟩ := ho H enc w _ cs' _ ht' hw'
      obtain ⟨_, hcl, hat⟩ := World.cells?_some hc
      refine ⟨b, ⟨cs', by rw [hcl, hC], hb, fun j u hu' => ?_⟩, hg⟩
      have hj : j < P.cellsOf e := by
        have := (List.getElem?_eq_some_iff.1 hu').1
        omega
      have := hat j hj
      rw [hC] at this
      rw [← add_at_, this, hu']
    obtain ⟨l, hll, hq⟩ := choose_list len each
    refine ⟨l, hll, hl, ⟨hll, by simp only [maxLen] at hm; omega, fun _ => ⟨a, rfl, fun j p hj => (hq j p hj).1⟩⟩, by omega, ?_, fun b hb => ?_⟩
    · have h1 := hz ((elems.length + rest.length) * P.bytesOf e) (by rw [hx]; simp [DataW.weights, hu])
      rw [hB] at h1
      simp only [reachBytes] at h1
      refine Nat.le_trans (Nat.mul_le_mul_right _ ?_) h1
      omega
    · obtain ⟨i, hi⟩ := List.getElem?_of_mem hb
      exact (hq i b hi).2
theorem opens_slice {α : Type} {t e : TypeId} {d : Kd α} {good : α → Prop} (hu : P.underlying t = some (.slice e)) (hC : P.cellsOf e = d.sz) {B : Nat} (hB : P.bytesOf e = B) (ho : Opens P e d good) :
    Opens P t (Kd.slice e d) (fun l => l.length ≤ maxLen ∧ l.length * B ≤ 140737488351232 ∧ ∀ a ∈ l, good a) := by
  intro H enc w fuel cs x h hz
  have hform : ∃ A len cap, cs = [.slice A len cap] := by
    rcases DataW.trod_slice hu h with ⟨h0, _⟩ | ⟨a, len', cap', elems, rest, n, _, hcs, _⟩
    · exact ⟨_, _, _, h0⟩
    · exact ⟨_, _, _, hcs⟩
  obtain ⟨A, len, cap, rfl⟩ := hform
  obtain ⟨l, rfl, hlc, hC', hm, hb, hg⟩ := opens_slice_row hu hC hB ho H enc w fuel A len cap x h hz
  exact ⟨l, ⟨A, cap, rfl, hlc, hC'⟩, hm, hb, hg⟩
def OpensFs {α : Type} (P : Program) (off : Nat) (fs : List Field) (d : Kd α) (good : α → Prop) : Prop :=
  ∀ (H : Type) (enc : TypeId × Value → H) (w : World) (fuel : Nat) (cs : List Value) (ys : List (DataW H × List MemPlace)),
    cs.length = off + d.sz → ys.length = fs.length → (∀ (i : Nat) (f : Field), fs[i]? = some f → DataW.trod enc P w 0 (fun _ => true) true fuel f.type ((cs.drop f.offset).take (P.cellsOf f.type)) = ys[i]?) →
    (∀ n ∈ DataW.weightsEach P (fs.map (·.type)) (ys.map (·.1)), n ≤ reachBytes) → ∃ a : α, d.K w a (cs.drop off) ∧ good a
theorem opensFs_one {α : Type} {off : Nat} {f : Field} {d : Kd α} {good : α → Prop} (ho : f.offset = off) (hC : P.cellsOf f.type = d.sz) (h : Opens P f.type d good) : OpensFs P off [f] d good := by
  intro H enc w fuel cs ys hcs hy hf hz
  match ys, hy with
  | [y], _ =>
    have h1 := hf 0 f rfl
    rw [ho, hC, List.take_of_length_le (by simp [List.length_drop]; omega)] at h1
    exact h H enc w fuel _ y h1 (fun n hn => hz n (by simp only [List.map_cons, DataW.weightsEach, List.mem_append]; exact Or.inl hn))
theorem opensFs_cons {α β : Type} {off : Nat} {f : Field} {fs : List Field} {d : Kd α} {e : Kd β} {g1 : α → Prop} {g2 : β → Prop} (ho : f.offset = off) (hC : P.cellsOf f.type = d.sz) (h : Opens P f.type d g1) (hs : OpensFs P (off + d.sz) fs e g2) :
    OpensFs P off (f :: fs) (Kd.pair d e) (fun p => g1 p.1 ∧ g2 p.2) := by
  intro H enc w fuel cs ys hcs hy hf hz
  match ys, hy with
  | y :: ys, hy =>
    have hsz : (Kd.pair d e).sz = d.sz + e.sz := rfl
    rw [hsz] at hcs
    have h1 := hf 0 f rfl
    rw [ho, hC] at h1
    obtain ⟨a, ha, hga⟩ := h H enc w fuel _ y h1 (fun n hn => hz n (by simp only [List.map_cons, DataW.weightsEach, List.mem_append]; exact Or.inl hn))
    obtain ⟨b, hb, hgb⟩ := hs H enc w fuel cs ys (by omega) (by simpa using hy) (fun i f' hi => by simpa using hf (i + 1) f' (by simpa using hi)) (fun n hn => hz n (by simp only [List.map_cons, DataW.weightsEach, List.mem_append]; exact Or.inr hn))
    refine ⟨(a, b), ⟨(cs.drop off).take d.sz, cs.drop (off + d.sz), ?_, ha, hb⟩, hga, hgb⟩
    rw [← List.drop_drop, List.take_append_drop]
theorem opens_struct {α : Type} {t : TypeId} {fs : Array Field} {d : Kd α} {good : α → Prop} (hu : P.underlying t = some (.struct fs)) (hC : P.cellsOf t = d.sz) (h : OpensFs P 0 fs.toList d good) : Opens P t d good := by
  intro H enc w fuel cs x hx hz
  obtain ⟨ys, n, _, hxe, hlen, hyl, hf⟩ := DataW.trod_struct hu hx
  obtain ⟨a, ha, hg⟩ := h H enc w n cs ys (by omega) (by simpa using hyl) (fun i f hi => hf i f (by simpa using hi)) (fun m hm => hz m (by rw [hxe]; simp only [DataW.weights, hu]; exact hm))
  exact ⟨a, by simpa using ha, hg⟩
theorem opens_iso {α β : Type} {t : TypeId} {d : Kd α} {good : α → Prop} (f : β → α) (g : α → β) (hfg : ∀ a, f (g a) = a) (h : Opens P t d good) : Opens P t (Kd.iso d f) (fun b => good (f b)) := by
  intro H enc w fuel cs x hx hz
  obtain ⟨a, ha, hga⟩ := h H enc w fuel cs x hx hz
  refine ⟨g a, ?_, by show good (f (g a)); rw [hfg]; exact hga⟩
  show d.K w (f (g a)) cs
  rw [hfg]
  exact ha
theorem opens_imp {α : Type} {t : TypeId} {d : Kd α} {g1 g2 : α → Prop} (h : Opens P t d g1) (hg : ∀ a, g1 a → g2 a) : Opens P t d g2 := by
  intro H enc w fuel cs x hx hz
  obtain ⟨a, ha, hga⟩ := h H enc w fuel cs x hx hz
  exact ⟨a, ha, hg a hga⟩
theorem weights_of {H : Type} {ts : List TypeId} {ds : List (DataW H)} (h : (DataW.weightsEach P ts ds).all (· ≤ reachBytes) = true) {j : Nat} {t : TypeId} {d : DataW H} (ht : ts[j]? = some t) (hd : ds[j]? = some d) : ∀ n ∈ d.weights P t, n ≤ reachBytes := by
  intro n hn
  have := List.all_eq_true.1 h _ (DataW.weights_mem_each ht hd n hn)
  simpa using this
theorem arg_slice {α : Type} {t e : TypeId} {d : Kd α} {good : α → Prop} (hu : P.underlying t = some (.slice e)) (hC : P.cellsOf e = d.sz) {B : Nat} (hB : P.bytesOf e = B) (ho : Opens P e d good)
    {H : Type} {enc : TypeId × Value → H} {w : World} {r : Reach} {b0 : Nat} {v : Value} {x : DataW H} {ps : List MemPlace} (hv : Value.okWide P w r b0 t v)
    (h : DataW.Trod enc P w 0 (fun _ => true) true t v x ps) (hz : ∀ n ∈ x.weights P t, n ≤ reachBytes) :
    ∃ (A : Option Addr) (c : Nat) (l : List α), v = .slice A l.length c ∧ l.length ≤ c ∧ d.C w A l.length l ∧ l.length ≤ maxLen ∧ l.length * B ≤ 140737488351232 ∧ ∀ a ∈ l, good a := by
  obtain ⟨A, len, c, rfl⟩ := okWide_slice hu hv
  obtain ⟨fuel, hf⟩ := h
  have hf' : DataW.trod enc P w 0 (fun _ => true) true fuel t [.slice A len c] = some (x, ps) := by simpa [Value.cells] using hf
  obtain ⟨l, rfl, hlc, hC', hm, hb, hg⟩ := opens_slice_row hu hC hB ho H enc w fuel A len c _ hf' hz
  exact ⟨A, c, l, rfl, hlc, hC', hm, hb, hg⟩
theorem arg_int {t : TypeId} {k : IntKind} (hu : P.underlying t = some (.int k))
    {H : Type} {enc : TypeId × Value → H} {w : World} {r : Reach} {b0 : Nat} {v : Value} {x : DataW H} {ps : List MemPlace} (hv : Value.okWide P w r b0 t v)
    (h : DataW.Trod enc P w 0 (fun _ => true) true t v x ps) : ∃ n, v = .int k n ∧ (Lit.int k n).wf = true := by
  obtain ⟨n, rfl⟩ := okWide_int hu hv
  obtain ⟨fuel, hf⟩ := h
  obtain ⟨m, hcs, _, hw⟩ := DataW.trod_int hu hf
  simp only [Value.cells] at hcs
  have e : n = m := by simpa using hcs
  subst e
  exact ⟨n, rfl, hw⟩
end Go.Proofs.Ytbcngajkokjfjaa.Opn
namespace Go.Proofs.Ytbcngajkokjfjaa.tableRuns
open Go.RowKit Go.Proofs.YtbcngajkokjfjaaW.PrintWords Go.Proofs.YtbcngajkokjfjaaW.PrintLast Go.Proofs.YtbcngajkokjfjaaW.PrintMore Go.Proofs.Ytbcngajkokjfjaa.QTab
set_option linter.unusedVariables false
def G30 (x : S30) : Prop := (Lit.int .i64 x.f0).wf = true ∧ (Lit.int .i64 x.f1).wf = true
def Pure : Prop := ∀ (x0 : (List (List S30))) (x1 : Int) (x2 : (List Int)) (x3 : Int), (x0.length ≤ maxLen ∧ x0.length * 24 ≤ 140737488351232 ∧ ∀ a ∈ x0, (a.length ≤ maxLen ∧ a.length * 16 ≤ 140737488351232 ∧ ∀ b ∈ a, G30 b)) → (Lit.int .i64 x1).wf = true → (x2.length ≤ maxLen ∧ x2.length * 8 ≤ 140737488351232 ∧ ∀ a ∈ x2, (Lit.int .i64 a).wf = true) → (Lit.int .i64 x3).wf = true → ∃ k, kissgatelaw13_TableRuns.f k x0 x1 x2 x3 = some true
end Go.Proofs.Ytbcngajkokjfjaa.tableRuns
namespace Go.Proofs.Ytbcngajkokjfjaa.TabR
open Go.RowKit Go.Proofs.Ytbcngajkokjfjaa.QTab Go.Proofs.YtbcngajkokjfjaaW.PrintWords Go.Proofs.YtbcngajkokjfjaaW.PrintLast
theorem wrap_up {i : Int} {n : Nat} (h0 : 0 ≤ i) (h : i < (n : Int)) (hn : n ≤ 100) : wrap64 (i + 1) = i + 1 := by
  unfold wrap64
  omega
def cellAt (t : List (List S30)) (st e : Int) : Option S30 :=
  if 0 ≤ st ∧ st < t.length ∧ 0 ≤ e ∧ e < (rd_L2 t st).length then some (rd_T30 (rd_L2 t st) e) else none
theorem at_some {t : List (List S30)} {st e : Int} {c : S30} (h : cellAt t st e = some c) : table_At.f t st e = some (c.f0, c.f1, true) := by
  unfold cellAt at h
  split at h
  · rename_i hc
    obtain ⟨h1, h2, h3, h4⟩ := hc
    cases h
    unfold table_At.f
    rw [if_neg (by omega), if_neg (by omega), if_neg (by omega), if_pos h1, if_pos h2, if_neg (by omega), if_pos h3, if_pos h4]
  · cases h
theorem at_none {t : List (List S30)} {st e : Int} (h : cellAt t st e = none) : table_At.f t st e = some (st, 0, false) := by
  unfold cellAt at h
  split at h
  · cases h
  · rename_i hc
    unfold table_At.f
    by_cases a : st < 0
    · rw [if_pos a]
    · rw [if_neg a]
      by_cases b : st ≥ (t.length : Int)
      · rw [if_pos b]
      · rw [if_neg b]
        by_cases c : e < 0
        · rw [if_pos c]
        · rw [if_neg c, if_pos (by omega), if_pos (by omega)]
          rw [if_pos (by
            apply Classical.byContradiction
            intro d
            exact hc ⟨by omega, by omega, by omega, by omega⟩)]
def runL (t : List (List S30)) (st : Int) : List Int → List S30
  | [] => []
  | e :: r => match cellAt t st e with
    | some c => c :: runL t c.f0 r
    | none => runL t st r
def endL (t : List (List S30)) (st : Int) : List Int → Int
  | [] => st
  | e :: r => match cellAt t st e with
    | some c => endL t c.f0 r
    | none => endL t st r
theorem runL_append (t : List (List S30)) (l m : List Int) : ∀ st, runL t st (l ++ m) = runL t st l ++ runL t (endL t st l) m := by
  induction l with
  | nil => intro st; rfl
  | cons e r ih =>
    intro st
    simp only [List.cons_append, runL, endL]
    cases cellAt t st e with
    | none => exact ih st
    | some c => simp only [List.cons_append]; rw [ih]
theorem runL_length (t : List (List S30)) (l : List Int) : ∀ st, (runL t st l).length ≤ l.length := by
  induction l with
  | nil => intro st; exact Nat.le_refl _
  | cons e r ih =>
    intro st
    simp only [runL]
    cases cellAt t st e with
    | none => have := ih st; simp only [List.length_cons]; omega
    | some c => have := ih c.f0; simp only [List.length_cons]; omega
theorem run_loop (t : List (List S30)) (l : List Int) (hn : l.length ≤ 100) (d : Nat) : ∀ (k : Nat) (i st : Int) (out : List S30), 0 ≤ i → i ≤ l.length → (l.length : Int) - i = d → d < k → (out.length : Int) ≤ i →
    table_Run.l0 k t st out l l.length i = some (out ++ runL t st (l.drop i.toNat)) := by
  induction d with
  | zero =>
    intro k i st out h0 h1 hd hk ho
    obtain ⟨k, rfl⟩ : ∃ m, k = m + 1 := ⟨k - 1, by omega⟩
    rw [table_Run.l0, if_neg (by omega), List.drop_of_length_le (by omega)]
    simp [runL]
  | succ d ih =>
    intro k i st out h0 h1 hd hk ho
    obtain ⟨k, rfl⟩ : ∃ m, k = m + 1 := ⟨k - 1, by omega⟩
    have hlt : i < (l.length : Int) := by omega
    have hlt' : i.toNat < l.length := by omega
    have hrd : rd l i = l[i.toNat] := by unfold rd; rw [List.getD_eq_getElem?_getD, List.getElem?_eq_getElem hlt']; rfl
    rw [table_Run.l0, if_pos hlt, if_pos h0, if_pos hlt, wrap_up h0 hlt hn, List.drop_eq_getElem_cons hlt', ← hrd, show i.toNat + 1 = (i + 1).toNat from by omega]
    simp only [runL]
    cases hc : cellAt t st (rd l i) with
    | none =>
      rw [at_none hc]
      simp only [Option.bind_some]
      rw [if_neg (by decide)]
      exact ih k (i + 1) st out (by omega) (by omega) (by omega) (by omega) (by omega)
    | some c =>
      rw [at_some hc]
      simp only [Option.bind_some, if_true]
      rw [if_pos (by omega), ih k (i + 1) c.f0 (out ++ [(⟨c.f0, c.f1⟩ : S30)]) (by omega) (by omega) (by omega) (by omega) (by simp; omega)]
      simp
theorem run_f (t : List (List S30)) (l : List Int) (hn : l.length ≤ 100) (st : Int) (k : Nat) (hk : l.length < k) : table_Run.f k t st l = some (runL t st l) := by
  unfold table_Run.f
  rw [run_loop t l hn l.length k 0 st [] (by omega) (by omega) (by omega) hk (by simp)]
  simp
end Go.Proofs.Ytbcngajkokjfjaa.TabR
namespace Go.Proofs.Ytbcngajkokjfjaa.tableRuns
open Go.RowKit Go.Proofs.YtbcngajkokjfjaaW.PrintWords Go.Proofs.YtbcngajkokjfjaaW.PrintLast Go.Proofs.YtbcngajkokjfjaaW.PrintMore Go.Proofs.Ytbcngajkokjfjaa.QTab Go.Proofs.Ytbcngajkokjfjaa.TabR
theorem alive : Ev (fun k => kissgatelaw13_alive.f k) true := Ev.of kissgatelaw13_alive.mono (k := 8) (by decide +kernel)
theorem great_loop (t : List (List S30)) (hn : t.length ≤ 9223372036854775000) (d : Nat) : ∀ i : Nat, i + d = t.length → ∃ b, Ev (fun k => kissgatelaw13_great.l0 k t t t.length i) b := by
  induction d with
  | zero =>
    intro i hi
    exact ⟨_, Ev.step (fun k => by rw [kissgatelaw13_great.l0, if_neg (by omega)]) (Ev.now _)⟩
  | succ d ih =>
    intro i hi
    have hw : wrap64 ((i : Int) + 1) = ((i + 1 : Nat) : Int) := by unfold wrap64; omega
    by_cases h : ((rd_L2 t i).length : Int) > 20
    · exact ⟨true, Ev.step (fun k => by rw [kissgatelaw13_great.l0, if_pos (by omega), if_pos (by omega), if_pos (by omega), if_pos h]) (Ev.now _)⟩
    · obtain ⟨b, hb⟩ := ih (i + 1) (by omega)
      exact ⟨b, Ev.step (fun k => by rw [kissgatelaw13_great.l0, if_pos (by omega), if_pos (by omega), if_pos (by omega), if_neg h, hw]) hb⟩
theorem great (t : List (List S30)) (hn : t.length ≤ 9223372036854775000) : ∃ b, Ev (fun k => kissgatelaw13_great.f k t) b := great_loop t hn t.length 0 (by omega)
theorem run_ev (t : List (List S30)) (l : List Int) (hn : l.length ≤ 100) (st : Int) : Ev (fun k => table_Run.f k t st l) (runL t st l) := ⟨l.length + 1, fun k hk => run_f t l hn st k (by omega)⟩
theorem endL_last (t : List (List S30)) (l : List Int) : ∀ st, endL t st l = match (runL t st l).getLast? with | some c => c.f0 | none => st := by
  induction l with
  | nil => intro st; rfl
  | cons e r ih =>
    intro st
    simp only [runL, endL]
    cases cellAt t st e with
    | none => exact ih st
    | some c =>
      simp only
      rw [ih c.f0, List.getLast?_cons]
      cases (runL t c.f0 r).getLast? <;> rfl
theorem rd30 {l : List S30} {i : Nat} (h : i < l.length) : rd_T30 l i = l[i] := by
  unfold rd_T30
  rw [Int.toNat_natCast, List.getD_eq_getElem?_getD, List.getElem?_eq_getElem h]; rfl
theorem loop1 (l : List S30) (hl : l.length ≤ 60) (d : Nat) : ∀ i : Nat, i + d = l.length → Ev (fun k => kissgatelaw13_TableRuns.l1 k l l.length l l.length i) true := by
  induction d with
  | zero =>
    intro i hi
    exact Ev.step (fun k => by rw [kissgatelaw13_TableRuns.l1, if_neg (by omega), if_pos rfl, beq_self_eq_true]) (Ev.now _)
  | succ d ih =>
    intro i hi
    have hw : wrap64 ((i : Int) + 1) = ((i + 1 : Nat) : Int) := by unfold wrap64; omega
    refine Ev.step (fun k => ?_) (ih (i + 1) (by omega))
    rw [kissgatelaw13_TableRuns.l1, if_pos (by omega), if_neg (by omega), if_pos (by omega), if_pos (by omega), if_pos (by omega), beq_self_eq_true, beq_self_eq_true, hw]
    rfl
theorem behind (t : List (List S30)) (st : Int) (ev : List Int) (cut : Nat) (hc : cut ≤ ev.length) (he : ev.length ≤ 60) :
    Ev (fun k => kissgatelaw13_TableRuns.j2 k t ev cut (runL t st ev) (runL t st ev).length (runL t st (ev.take cut)) (endL t st (ev.take cut))) true := by
  have h1 := runL_length t (ev.take cut) st
  have h2 := runL_length t ev st
  have h3 := runL_length t (ev.drop cut) (endL t st (ev.take cut))
  have h4 : (ev.take cut).length ≤ 60 := by rw [List.length_take]; omega
  have h5 : (ev.drop cut).length ≤ 60 := by rw [List.length_drop]; omega
  have hj : runL t st (ev.take cut) ++ runL t (endL t st (ev.take cut)) (ev.drop cut) = runL t st ev := by rw [← runL_append, List.take_append_drop]
  refine Ev.step (fun k => by rw [kissgatelaw13_TableRuns.j2, Option.bind_some, if_pos (by simp; omega), Option.bind_some, if_pos (by omega), if_pos (by omega), Int.toNat_natCast, List.nil_append]) ?_
  refine Ev.bind (run_ev t _ (by omega) _) ?_
  refine Ev.congr (fun k => by rw [if_pos (by omega), Option.bind_some, hj]) ?_
  exact loop1 _ (by omega) (runL t st ev).length 0 (by omega)
theorem part (t : List (List S30)) (st : Int) (ev : List Int) (cut : Nat) (hc : cut ≤ ev.length) (he : ev.length ≤ 60) (st' : Int) (k0 : Int) (hk : k0 = ev.length) :
    Ev (fun k => kissgatelaw13_TableRuns.l0 k t st ev cut (runL t st ev) st' (runL t st ev).length ev ev.length k0) true := by
  subst hk
  have hb := behind t st ev cut hc he
  have h4 : (ev.take cut).length ≤ 60 := by rw [List.length_take]; omega
  have h1 := runL_length t (ev.take cut) st
  have hend := endL_last t (ev.take cut) st
  refine Ev.step (fun k => by rw [kissgatelaw13_TableRuns.l0, if_neg (by omega), if_pos (by omega), if_pos (by omega), Int.toNat_natCast]) ?_
  refine Ev.bind (run_ev t _ (by omega) st) ?_
  generalize hr : runL t st (ev.take cut) = r at *
  by_cases h0 : r.length = 0
  · have hr0 : r = [] := List.eq_nil_of_length_eq_zero h0
    refine Ev.congr (fun k => by rw [if_neg (by omega)]) ?_
    rw [hr0] at hend
    simp only [List.getLast?_nil] at hend
    rw [hend] at hb
    exact hb
  · have hw : wrap64 ((r.length : Int) - 1) = ((r.length - 1 : Nat) : Int) := by unfold wrap64; omega
    have hlast : endL t st (ev.take cut) = (rd_T30 r ((r.length - 1 : Nat) : Int)).f0 := by
      rw [hend, List.getLast?_eq_getElem?, rd30 (by omega), List.getElem?_eq_getElem (by omega)]
    rw [hlast] at hb
    exact Ev.congr (fun k => by rw [if_pos (by omega), hw, if_pos (by omega), if_pos (by omega)]) hb
theorem loop0 (t : List (List S30)) (st : Int) (ev : List Int) (cut : Nat) (hc : cut ≤ ev.length) (he : ev.length ≤ 60) (d : Nat) : ∀ (i : Nat) (s : Int) (pre : List S30), i + d = ev.length → runL t st ev = pre ++ runL t s (ev.drop i) → pre.length ≤ i →
    Ev (fun k => kissgatelaw13_TableRuns.l0 k t st ev cut (runL t st ev) s pre.length ev ev.length i) true := by
  induction d with
  | zero =>
    intro i s pre hi hp _
    rw [List.drop_of_length_le (by omega)] at hp
    simp only [runL, List.append_nil] at hp
    rw [← hp]
    exact part t st ev cut hc he s i (by omega)
  | succ d ih =>
    intro i s pre hi hp hpl
    have hlt : i < ev.length := by omega
    have hw : wrap64 ((i : Int) + 1) = ((i + 1 : Nat) : Int) := by unfold wrap64; omega
    have hrd : rd ev i = ev[i] := by unfold rd; rw [Int.toNat_natCast, List.getD_eq_getElem?_getD, List.getElem?_eq_getElem hlt]; rfl
    rw [List.drop_eq_getElem_cons hlt] at hp
    simp only [runL] at hp
    rw [← hrd] at hp
    cases hcell : cellAt t s (rd ev i) with
    | none =>
      rw [hcell] at hp
      simp only at hp
      refine Ev.step (fun k => ?_) (ih (i + 1) s pre (by omega) hp (by omega))
      rw [kissgatelaw13_TableRuns.l0, if_pos (by omega), if_pos (by omega), if_pos (by omega), at_none hcell, Option.bind_some, if_neg (by simp), hw]
    | some c =>
      rw [hcell] at hp
      simp only at hp
      have hlen := runL_length t ev st
      have hpl2 : pre.length < (runL t st ev).length := by rw [hp]; simp
      have hget : rd_T30 (runL t st ev) pre.length = c := by
        rw [rd30 hpl2]
        simp only [hp]
        rw [List.getElem_append_right (by omega)]
        simp
      have hw2 : wrap64 ((pre.length : Int) + 1) = ((pre ++ [c]).length : Int) := by rw [List.length_append, List.length_singleton]; unfold wrap64; omega
      refine Ev.step (fun k => ?_) (ih (i + 1) c.f0 (pre ++ [c]) (by omega) (by rw [hp]; simp) (by simp; omega))
      rw [kissgatelaw13_TableRuns.l0, if_pos (by omega), if_pos (by omega), if_pos (by omega), at_some hcell, Option.bind_some, if_pos rfl, if_neg (by omega), if_pos (by omega), if_pos (by omega), hget, beq_self_eq_true, beq_self_eq_true, hw, hw2]
      rfl
theorem pure : Pure := by
  intro t st ev cut ht hst hev hcut
  obtain ⟨b, hb⟩ := great t (by have := ht.1; simp only [maxLen] at this; omega)
  refine Ev.rounds ?_
  have jt : ∀ c : Int, Ev (fun k => kissgatelaw13_TableRuns.j0 k t st ev c true) true := fun c => Ev.step (fun k => by rw [kissgatelaw13_TableRuns.j0, if_pos rfl]) (Ev.now _)
  unfold kissgatelaw13_TableRuns.f
  refine Ev.bind alive ?_
  simp only [if_true]
  refine Ev.bind hb ?_
  cases b with
  | true => simp only [if_true]; exact jt _
  | false =>
    simp only [Bool.false_eq_true, if_false]
    by_cases h1 : (ev.length : Int) > 60
    · simp only [if_pos h1]; exact jt _
    · simp only [if_neg h1]
      by_cases h2 : cut < 0
      · simp only [if_pos h2]; exact jt _
      · simp only [if_neg h2]
        by_cases h3 : cut > ev.length
        · rw [decide_eq_true h3]; exact jt _
        · rw [decide_eq_false h3]
          obtain ⟨cut, rfl⟩ := Int.eq_ofNat_of_zero_le (show 0 ≤ cut by omega)
          refine Ev.step (fun k => by rw [kissgatelaw13_TableRuns.j0, if_neg (by decide)]) ?_
          refine Ev.bind (run_ev t ev (by omega) st) ?_
          exact loop0 t st ev cut (by omega) (by omega) ev.length 0 st [] (by omega) rfl (Nat.le_refl _)
end Go.Proofs.Ytbcngajkokjfjaa.tableRuns
