/- Functions of the program as plain Lean functions, what their calls do, and what follows of it. Conditions: each theorem's own. -/
import Derived.Test.YtjhkbmdblfdlnaaCPrioWorse1
namespace Go.Proofs.Ytjhkbmdblfdlnaa.QPrio
open Go.RowKit Go.Proofs.YtjhkbmdblfdlnaaW.PrintWords Go.Proofs.YtjhkbmdblfdlnaaW.PrintLast Go.Proofs.YtjhkbmdblfdlnaaW.PrintMore
attribute [local go_sem] max2_int min2_int max_two min_two max_three min_three max_four min_four
set_option linter.unusedVariables false
set_option linter.unusedSimpArgs false
attribute [local go_sem high] eqA23
mutual
def kissgatelaw10_PrioWorse.j0 : Nat → Int → List (S45) → Int → Int → Bool → Option (Bool)
  | 0, _, _, _, _, _ => none
  | k + 1, x0, x1, x2, x3, x39 => if x39 = true then (some true) else ((prio_Roles.f k x0 x1).bind fun bt301 => (if bt301.2.2.2.2.2 = x2 then (kissgatelaw10_PrioWorse.j1 k x0 x1 x2 x3 bt301.1 bt301.2.2.2.2.2 true bt301.2.1 bt301.2.2.1 bt301.2.2.2.1 bt301.2.2.2.2.1) else (if bt301.2.2.1 > 1099511627776 then (kissgatelaw10_PrioWorse.j1 k x0 x1 x2 x3 bt301.1 bt301.2.2.2.2.2 true bt301.2.1 bt301.2.2.1 bt301.2.2.2.1 bt301.2.2.2.2.1) else (kissgatelaw10_PrioWorse.j1 k x0 x1 x2 x3 bt301.1 bt301.2.2.2.2.2 (decide (bt301.2.2.1 < 0)) bt301.2.1 bt301.2.2.1 bt301.2.2.2.1 bt301.2.2.2.2.1))))
def kissgatelaw10_PrioWorse.j1 : Nat → Int → List (S45) → Int → Int → List Int → Int → Bool → Int → Int → Int → Int → Option (Bool)
  | 0, _, _, _, _, _, _, _, _, _, _, _ => none
  | k + 1, x0, x1, x2, x3, x9, x11, x59, x310000, x310001, x310002, x310003 => if x59 = true then (some true) else ((some (([] : List (S45)) : List (S45))).bind fun y310 => (if y310.length + x1.length < 2513169434916 then ((some (y310 ++ x1 : List (S45))).bind fun y313 => (if 0 ≤ x2 then (if x2 < (x1.length : Int) then (if x2 < (y313.length : Int) then ((prio_Roles.f k x0 (y313.set (x2 : Int).toNat (⟨(⟨x310000, wrap64 (x310001 + x3), (rd_T45 x1 x2).f0.f2, (rd_T45 x1 x2).f0.f3⟩ : S23), 1, 1, false⟩ : S45))).bind fun bt319 => (if (!(bt319.2.1 == x310000) || (!(bt319.2.2.1 == x310001) || (!(bt319.2.2.2.1 == x310002) || (!(bt319.2.2.2.2.1 == x310003))))) = true then (kissgatelaw10_PrioWorse.j2 k x2 x9 bt319.1 true) else (if bt319.2.2.2.2.2 = x11 then (if x2 < (bt319.1.length : Int) then (kissgatelaw10_PrioWorse.j2 k x2 x9 bt319.1 ((rd bt319.1 x2) != 2)) else (none)) else (kissgatelaw10_PrioWorse.j2 k x2 x9 bt319.1 true)))) else (none)) else (none)) else (none))) else (none)))
def kissgatelaw10_PrioWorse.j2 : Nat → Int → List Int → List Int → Bool → Option (Bool)
  | 0, _, _, _, _ => none
  | k + 1, x2, x9, x13, x107 => if x107 = true then (some false) else (kissgatelaw10_PrioWorse.l0 k x2 x9 x13 (x9.length : Int) 0)
def kissgatelaw10_PrioWorse.l0 : Nat → Int → List Int → List Int → Int → Int → Option (Bool)
  | 0, _, _, _, _, _ => none
  | k + 1, x2, x9, x13, x109, x110 => if x110 < x109 then (if x110 = x2 then (kissgatelaw10_PrioWorse.l0 k x2 x9 x13 x109 (wrap64 (x110 + 1))) else (if 0 ≤ x110 then (if x110 < (x9.length : Int) then (if x110 < (x13.length : Int) then (if (rd x9 x110) = (rd x13 x110) then (kissgatelaw10_PrioWorse.l0 k x2 x9 x13 x109 (wrap64 (x110 + 1))) else (some false)) else (none)) else (none)) else (none))) else (some true)
end
def kissgatelaw10_PrioWorse.f (k : Nat) (a0 : Int) (l1 : List (S45)) (a2 : Int) (a3 : Int) : Option (Bool) := (kissgatelaw10_alive.f k).bind fun t300 => (if t300 = true then (if (l1.length : Int) > 20 then (kissgatelaw10_PrioWorse.j0 k a0 l1 a2 a3 true) else (if a2 < 0 then (kissgatelaw10_PrioWorse.j0 k a0 l1 a2 a3 true) else (if a2 ≥ (l1.length : Int) then (kissgatelaw10_PrioWorse.j0 k a0 l1 a2 a3 true) else (if a3 < 1 then (kissgatelaw10_PrioWorse.j0 k a0 l1 a2 a3 true) else (kissgatelaw10_PrioWorse.j0 k a0 l1 a2 a3 (decide (a3 > 1048576))))))) else (some false))
def kissgatelaw10_PrioWorse.T9 : Bool × List (List Nat × List Nat) := (true, [([], []), ([], []), ([], []), ([2], [2]), ([], []), ([4], [4]), ([], []), ([5, 6], [5, 6]), ([], []), ([], []), ([8, 9], [8, 9]), ([10], [10]), ([11], [11]), ([12], [12]), ([], []), ([], []), ([14, 15], [14, 15]), ([16], [16]), ([17], [17]), ([18], [18]), ([3, 7, 13, 19], [3, 7, 13, 19]), ([20], [20]), ([0, 1, 0, 1, 2, 3, 4, 5, 6, 7, 8, 9, 10, 11, 12, 13, 14, 15, 16, 17, 18, 19, 20, 21], [0, 1]), ([22, 21, 0, 1, 2, 3, 4, 5, 6, 7, 8, 9, 10, 11, 12, 13, 14, 15, 16, 17, 18, 19, 20, 21], [21, 22])])
def kissgatelaw10_PrioWorse.B9 : List Nat := [0, 0, 0, 4, 0, 16, 0, 112, 0, 0, 768, 1792, 3840, 7936, 0, 0, 49152, 114688, 245760, 507904, 1048572, 2097148, 4194303, 8388607]
theorem kissgatelaw10_PrioWorse.tab9 : rtab .any (opsOf Try.f8 9) = kissgatelaw10_PrioWorse.T9 := by kernel_rfl
theorem kissgatelaw10_PrioWorse.bits9 : waitsOk kissgatelaw10_PrioWorse.T9.2 kissgatelaw10_PrioWorse.B9 = true := by kernel_rfl
def kissgatelaw10_PrioWorse.T16 : Bool × List (List Nat × List Nat) := (true, [([], []), ([], []), ([0, 1], [0, 1]), ([2], [2]), ([3], [3]), ([3], [3]), ([4, 5, 3], [3, 4, 5]), ([6, 3], [3, 6]), ([3], [3]), ([3], [3]), ([8, 9, 3], [3, 8, 9]), ([10, 3], [3, 10]), ([7, 11, 3], [3, 7, 11]), ([3, 12], [3, 12])])
def kissgatelaw10_PrioWorse.B16 : List Nat := [0, 0, 3, 7, 15, 15, 63, 127, 15, 15, 783, 1807, 4095, 8191]
theorem kissgatelaw10_PrioWorse.tab16 : rtab .any (opsOf Try.f8 16) = kissgatelaw10_PrioWorse.T16 := by kernel_rfl
theorem kissgatelaw10_PrioWorse.bits16 : waitsOk kissgatelaw10_PrioWorse.T16.2 kissgatelaw10_PrioWorse.B16 = true := by kernel_rfl
set_option maxHeartbeats 8000000 in
set_option maxRecDepth 100000 in
theorem kissgatelaw10_PrioWorse.calls (k : Nat) (a0 : Int) (A1 : Option Addr) (c1 : Nat) (l1 : List (S45)) (a2 : Int) (a3 : Int) (r : Bool) (w : World) (hr1 : Kd.C k45 w A1 l1.length l1) (hc1 : l1.length ≤ c1) (h : kissgatelaw10_PrioWorse.f k a0 l1 a2 a3 = some r) :
    Calls Try.prog 8 #[.int .i64 a0, .slice A1 l1.length c1, .int .i64 a2, .int .i64 a3] w fun e w' => e = .returned (.bool r) ∧ Below w.heap.size w w' := by
  have hu23 := Try.underlying23
  have hu45 := Try.underlying45
  have HR1 := Aside0.mk hr1
  have HC1 := Aside0.mk hc1
  clear hr1 hc1
  have HB := Aside0.mk (Below.refl w.heap.size w)
  have H : ((kissgatelaw10_alive.f k).bind fun t300 => (if t300 = true then (if (l1.length : Int) > 20 then (kissgatelaw10_PrioWorse.j0 k a0 l1 a2 a3 true) else (if a2 < 0 then (kissgatelaw10_PrioWorse.j0 k a0 l1 a2 a3 true) else (if a2 ≥ (l1.length : Int) then (kissgatelaw10_PrioWorse.j0 k a0 l1 a2 a3 true) else (if a3 < 1 then (kissgatelaw10_PrioWorse.j0 k a0 l1 a2 a3 true) else (kissgatelaw10_PrioWorse.j0 k a0 l1 a2 a3 (decide (a3 > 1048576))))))) else (some false))) = some r := h
  clear h
  replace H := Option.bind_eq_some_iff.mp H
  obtain ⟨t300, A50, H⟩ := H
  replace H : (if t300 = true then (if (l1.length : Int) > 20 then (kissgatelaw10_PrioWorse.j0 k a0 l1 a2 a3 true) else (if a2 < 0 then (kissgatelaw10_PrioWorse.j0 k a0 l1 a2 a3 true) else (if a2 ≥ (l1.length : Int) then (kissgatelaw10_PrioWorse.j0 k a0 l1 a2 a3 true) else (if a3 < 1 then (kissgatelaw10_PrioWorse.j0 k a0 l1 a2 a3 true) else (kissgatelaw10_PrioWorse.j0 k a0 l1 a2 a3 (decide (a3 > 1048576))))))) else (some false)) = some r := H
  have A5 := Aside0.mk A50
  clear A50
  by_cases c6 : t300 = true
  · subst c6
    have H1 : (if (l1.length : Int) > 20 then (kissgatelaw10_PrioWorse.j0 k a0 l1 a2 a3 true) else (if a2 < 0 then (kissgatelaw10_PrioWorse.j0 k a0 l1 a2 a3 true) else (if a2 ≥ (l1.length : Int) then (kissgatelaw10_PrioWorse.j0 k a0 l1 a2 a3 true) else (if a3 < 1 then (kissgatelaw10_PrioWorse.j0 k a0 l1 a2 a3 true) else (kissgatelaw10_PrioWorse.j0 k a0 l1 a2 a3 (decide (a3 > 1048576))))))) = some r := by rw [if_pos rfl] at H; exact H
    clear H
    have H := H1
    clear H1
    have HC7 := Aside0.mk H
    clear H
    go_enter Try.func8, Try.ntmps8
    go_upto_region 3 with (first | ((with_reducible refine gate_callee (f := 12) rfl ?_); refine goesL_ (some 17) rfl rfl Try.func12 (by kernel_rfl) rfl #[] rfl (by (try simp only [List.map_toArray, List.map_cons, List.map_nil]); first | done | rfl | (simp only [List.length_drop, List.length_take]; rfl)) ?_; (with_reducible refine (kissgatelaw10_alive.calls k  true _ A5.out).mono ?_); rintro e w8 ⟨rfl, hb⟩; refine ⟨_, rfl, ?_⟩; have n0_ := Aside0.mk (below_step (by repeat (first | (with_reducible first | exact HB.out | apply below_alloc | apply pw_below_drewN | apply below_drew1) | exact HB.out)) hb); clear HB; have HB := n0_; clear n0_; (try clear hb); (try clear hb2); (try clear hk); (try clear hi)))
    (try simp only [Act.put, List.setIfInBounds_toArray, List.set_cons_zero, List.set_cons_succ])
    go_cut [39] (fun v39 wc => ∃ (kq : Nat) (x39_6 : Bool), v39 = .bool x39_6 ∧ Aside0 (kissgatelaw10_PrioWorse.j0 kq a0 l1 a2 a3 x39_6 = some r) ∧ Aside0 (kq ≤ k) ∧ Aside0 (Below w.heap.size w wc))
    case first =>
      have H := HC7.out
      clear HC7
      by_cases c9 : (l1.length : Int) > 20
      · rw [if_pos c9] at H
        have c9b0 : decide (20 < (l1.length : Int)) = true := decide_eq_true c9
        have c9b1 : decide (20 < l1.length) = true := decide_eq_true (by omega)
        clear c9
        (first | rw [c9b0] | (simp only [i64_w, i32_w]; rw [c9b0]) | skip)
        have H' := Aside0.mk H
        clear H
        go_wp2
        go_meet
        case rel => exact ⟨_, (true), (by first | rfl | (simp; done) | (simp [*]; done)), H', ⟨by first | omega | exact Nat.le_refl _⟩, ⟨by repeat (first | (with_reducible first | exact HB.out | apply below_alloc | apply pw_below_drewN | apply below_drew1) | exact HB.out)⟩⟩
      · rw [if_neg c9] at H
        have c9b0 : decide (20 < (l1.length : Int)) = false := decide_eq_false c9
        have c9b1 : decide (20 < l1.length) = false := decide_eq_false (by omega)
        clear c9
        (first | rw [c9b0] | (simp only [i64_w, i32_w]; rw [c9b0]) | skip)
        by_cases c10 : a2 < 0
        · rw [if_pos c10] at H
          have c10b0 : decide (a2 < 0) = true := decide_eq_true c10
          clear c10
          have H' := Aside0.mk H
          clear H
          go_wp2
          go_meet
          case rel => exact ⟨_, (true), (by first | rfl | (simp; done) | (simp [*]; done)), H', ⟨by first | omega | exact Nat.le_refl _⟩, ⟨by repeat (first | (with_reducible first | exact HB.out | apply below_alloc | apply pw_below_drewN | apply below_drew1) | exact HB.out)⟩⟩
        · rw [if_neg c10] at H
          have c10b0 : decide (a2 < 0) = false := decide_eq_false c10
          clear c10
          by_cases c11 : a2 ≥ (l1.length : Int)
          · rw [if_pos c11] at H
            have c11b0 : decide ((l1.length : Int) ≤ a2) = true := decide_eq_true c11
            clear c11
            have H' := Aside0.mk H
            clear H
            go_wp2
            go_meet
            case rel => exact ⟨_, (true), (by first | rfl | (simp; done) | (simp [*]; done)), H', ⟨by first | omega | exact Nat.le_refl _⟩, ⟨by repeat (first | (with_reducible first | exact HB.out | apply below_alloc | apply pw_below_drewN | apply below_drew1) | exact HB.out)⟩⟩
          · rw [if_neg c11] at H
            have c11b0 : decide ((l1.length : Int) ≤ a2) = false := decide_eq_false c11
            clear c11
            by_cases c12 : a3 < 1
            · rw [if_pos c12] at H
              have c12b0 : decide (a3 < 1) = true := decide_eq_true c12
              clear c12
              have H' := Aside0.mk H
              clear H
              go_wp2
              go_meet
              case rel => exact ⟨_, (true), (by first | rfl | (simp; done) | (simp [*]; done)), H', ⟨by first | omega | exact Nat.le_refl _⟩, ⟨by repeat (first | (with_reducible first | exact HB.out | apply below_alloc | apply pw_below_drewN | apply below_drew1) | exact HB.out)⟩⟩
            · rw [if_neg c12] at H
              have c12b0 : decide (a3 < 1) = false := decide_eq_false c12
              clear c12
              have H' := Aside0.mk H
              clear H
              go_wp2
              go_meet
              case rel => exact ⟨_, (decide (a3 > 1048576)), (by first | rfl | (simp; done) | (simp [*]; done)), H', ⟨by first | omega | exact Nat.le_refl _⟩, ⟨by repeat (first | (with_reducible first | exact HB.out | apply below_alloc | apply pw_below_drewN | apply below_drew1) | exact HB.out)⟩⟩
    case rest =>
      clear HC7
      try clear c1
      try clear p2
      try clear c6
      try clear c8
      try clear c9
      try clear c9b0
      try clear c9b1
      try clear c10
      try clear c10b0
      try clear c11
      try clear c11b0
      try clear c12
      try clear c12b0
      obtain ⟨kq, x39_6, rfl, HA, HJ6, HB⟩ := hcut
      cases kq with
      | zero => exact absurd HA.out (by simp [kissgatelaw10_PrioWorse.j0])
      | succ kj6 =>
        have H := HA.out
        clear HA
        simp only [kissgatelaw10_PrioWorse.j0] at H
        by_cases c13 : x39_6 = true
        · subst c13
          have H1 : (some true) = some r := by rw [if_pos rfl] at H; exact H
          clear H
          have H := H1
          clear H1
          obtain rfl := Option.some.inj H
          go_wp2
          go_ret
          exact ⟨by first | rfl | (simp [errW_none, errW_some] <;> rfl) | (simp [*, errW_none, errW_some] <;> rfl), by repeat (first | (with_reducible first | exact HB.out | apply below_alloc | apply pw_below_drewN | apply below_drew1) | exact HB.out)⟩
        · replace c13 := Bool.eq_false_iff.mpr c13
          subst c13
          have H1 : ((prio_Roles.f kj6 a0 l1).bind fun bt301 => (if bt301.2.2.2.2.2 = a2 then (kissgatelaw10_PrioWorse.j1 kj6 a0 l1 a2 a3 bt301.1 bt301.2.2.2.2.2 true bt301.2.1 bt301.2.2.1 bt301.2.2.2.1 bt301.2.2.2.2.1) else (if bt301.2.2.1 > 1099511627776 then (kissgatelaw10_PrioWorse.j1 kj6 a0 l1 a2 a3 bt301.1 bt301.2.2.2.2.2 true bt301.2.1 bt301.2.2.1 bt301.2.2.2.1 bt301.2.2.2.2.1) else (kissgatelaw10_PrioWorse.j1 kj6 a0 l1 a2 a3 bt301.1 bt301.2.2.2.2.2 (decide (bt301.2.2.1 < 0)) bt301.2.1 bt301.2.2.1 bt301.2.2.2.1 bt301.2.2.2.2.1)))) = some r := by rw [if_neg (show ¬ (false = true) by decide)] at H; exact H
          clear H
          have H := H1
          clear H1
          replace H := Option.bind_eq_some_iff.mp H
          obtain ⟨⟨t301, t304, t305, t306, t307, t308⟩, A140, H⟩ := H
          replace H : (if t308 = a2 then (kissgatelaw10_PrioWorse.j1 kj6 a0 l1 a2 a3 t301 t308 true t304 t305 t306 t307) else (if t305 > 1099511627776 then (kissgatelaw10_PrioWorse.j1 kj6 a0 l1 a2 a3 t301 t308 true t304 t305 t306 t307) else (kissgatelaw10_PrioWorse.j1 kj6 a0 l1 a2 a3 t301 t308 (decide (t305 < 0)) t304 t305 t306 t307))) = some r := H
          have A14 := Aside0.mk A140
          clear A140
          have HC15 := Aside0.mk H
          clear H
          go_upto_region 6 with (first | ((with_reducible refine gate_callee (f := 23) rfl ?_); refine goesL_ (some 43) rfl rfl Try.func23 (by kernel_rfl) rfl #[.int .i64 a0, .slice A1 l1.length c1] rfl (by (try simp only [List.map_toArray, List.map_cons, List.map_nil]); first | done | rfl | (simp only [List.length_drop, List.length_take]; rfl)) ?_; (with_reducible refine (prio_Roles.calls kj6 a0 _ _ l1 t301 t304 t305 t306 t307 t308 _ ?side1 ?side2 A14.out).mono ?_); (case side1 => repeat (first | exact (Kd.C_below HR1.out HB.out) | (with_reducible refine Kd.C_alloc ?_ _) | (with_reducible refine Kd.C_drewN ?_ _) | (with_reducible refine Kd.C_drew ?_))); (case side2 => exact HC1.out); rintro e w16 ⟨v302, rfl, ho0, hb⟩; refine ⟨_, rfl, ?_⟩; have n0_ := Aside0.mk (Kd.R_lower ho0 (below_size (by repeat (first | (with_reducible first | exact HB.out | apply below_alloc | apply pw_below_drewN | apply below_drew1) | exact HB.out)))); have n1_ := Aside0.mk (below_step (by repeat (first | (with_reducible first | exact HB.out | apply below_alloc | apply pw_below_drewN | apply below_drew1) | exact HB.out)) hb); clear HB; have HO303 := n0_; have HB := n1_; clear n0_ n1_; (try clear hb); (try clear hb2); (try clear hk); (try clear hi); (try clear ho0)) | ((with_reducible refine gate_dst (N := 10) rfl ?_); (try (refine gate_guard (by rfl) ?_; dsimp only)); refine box_event ?hg (N := 10) ?hd (cs := #[.int .i64 0, .int .i64 0, .int .i64 0, .int .i64 0]) (t := 23) ?hr ?_; (case hd => rfl); (case hg => rfl); (case hr => first | (go_simp; done) | (go_simp; rfl)); intro gb309 hg w17 hbox hb; have n0_ := Aside0.mk (Kd.R_below (by (with_reducible repeat (first | apply Kd.R_alloc | apply Kd.R_drewN | apply Kd.R_drew)); exact HO303.out) hb); have n1_ := Aside0.mk (below_step (by repeat (first | (with_reducible first | exact HB.out | apply below_alloc | apply pw_below_drewN | apply below_drew1) | exact HB.out)) hb); have n2_ := Aside0.mk (hbox); have n3_ := Aside0.mk ((by rw [hg]; exact (below_size (by repeat (first | (with_reducible first | exact HB.out | apply below_alloc | apply pw_below_drewN | apply below_drew1) | exact HB.out))) : w.heap.size ≤ gb309)); have n4_ := Aside0.mk ((by rw [hg]; exact (below_size (by repeat (first | (with_reducible first | exact HB.out | apply below_alloc | apply pw_below_drewN | apply below_drew1) | exact HB.out))) : w.heap.size ≤ gb309)); clear HO303; clear HB; have HO303 := n0_; have HB := n1_; have BK309 := n2_; have GW309 := n3_; have GE309 := n4_; clear n0_ n1_ n2_ n3_ n4_; clear hb hbox hg; have hcz18_0 : w17.cell? ⟨gb309, 0, none⟩ = some (.int .i64 0) := (blk_cell BK309.out 0).trans rfl; have hcz18_1 : w17.cell? ⟨gb309, 1, none⟩ = some (.int .i64 0) := (blk_cell BK309.out 1).trans rfl; have hcz18_2 : w17.cell? ⟨gb309, 2, none⟩ = some (.int .i64 0) := (blk_cell BK309.out 2).trans rfl; have hcz18_3 : w17.cell? ⟨gb309, 3, none⟩ = some (.int .i64 0) := (blk_cell BK309.out 3).trans rfl; have hfz18_0 := blk_frozen BK309.out 0; have hfz18_1 := blk_frozen BK309.out 1; have hfz18_2 := blk_frozen BK309.out 2; have hfz18_3 := blk_frozen BK309.out 3))
          (try simp only [Act.put, List.setIfInBounds_toArray, List.set_cons_zero, List.set_cons_succ])
          go_cut [59] (fun v59 wc => ∃ (kq : Nat) (x59_14 : Bool), v59 = .bool x59_14 ∧ Aside0 (kissgatelaw10_PrioWorse.j1 kq a0 l1 a2 a3 t301 t308 x59_14 t304 t305 t306 t307 = some r) ∧ Aside0 (kq ≤ kj6) ∧ Aside0 (Kd.R (Kd.int .i64) 3 wc w.heap.size (fun _ => True) v302 t301) ∧ Aside0 (wc.heap[gb309]? = some (.cells #[.int .i64 t304, .int .i64 t305, .int .i64 t306, .int .i64 t307] 23 (0, 0))) ∧ Aside0 (Below w.heap.size w wc))
          case first =>
            have H := HC15.out
            clear HC15
            by_cases c19 : t308 = a2
            · rw [if_pos c19] at H
              have c19b0 : (t308 == a2) = true := beq_iff_eq.mpr c19
              have c19b1 : (t308 != a2) = false := bne_eq_false_iff_eq.mpr c19
              clear c19
              (first | rw [c19b0] | (simp only [i64_w, i32_w]; rw [c19b0]) | skip)
              have H' := Aside0.mk H
              clear H
              go_wp2
              go_meet
              case rel => exact ⟨_, (true), (by first | rfl | (simp; done) | (simp [*]; done)), H', ⟨by have := HJ6.out; first | omega | exact Nat.le_refl _⟩, ⟨by (with_reducible repeat (first | apply Kd.R_alloc | apply Kd.R_drewN | apply Kd.R_drew)); exact Kd.R_mono (Kd.R_far (p := ⟨gb309, 3, none⟩) (Kd.R_far (p := ⟨gb309, 2, none⟩) (Kd.R_far (p := ⟨gb309, 1, none⟩) (Kd.R_far (p := ⟨gb309, 0, none⟩) (Kd.R_types HO303.out BK309.out (by decide)) (fun _ hk => hk.2) (.int .i64 t304)) (fun _ hk => hk.2) (.int .i64 t305)) (fun _ hk => hk.2) (.int .i64 t306)) (fun _ hk => hk.2) (.int .i64 t307)) (fun _ hk => trivial)⟩, ⟨by (with_reducible repeat (first | refine blk_drewN ?_ _ | refine blk_drew ?_ | refine blk_alloc ?_ _)); refine blk_put (cs := #[.int .i64 t304, .int .i64 t305, .int .i64 t306, .int .i64 0]) ?_ 3 _ rfl; (with_reducible repeat (first | refine blk_drewN ?_ _ | refine blk_drew ?_ | refine blk_alloc ?_ _)); refine blk_put (cs := #[.int .i64 t304, .int .i64 t305, .int .i64 0, .int .i64 0]) ?_ 2 _ rfl; (with_reducible repeat (first | refine blk_drewN ?_ _ | refine blk_drew ?_ | refine blk_alloc ?_ _)); refine blk_put (cs := #[.int .i64 t304, .int .i64 0, .int .i64 0, .int .i64 0]) ?_ 1 _ rfl; (with_reducible repeat (first | refine blk_drewN ?_ _ | refine blk_drew ?_ | refine blk_alloc ?_ _)); refine blk_put (cs := #[.int .i64 0, .int .i64 0, .int .i64 0, .int .i64 0]) ?_ 0 _ rfl; (with_reducible repeat (first | refine blk_drewN ?_ _ | refine blk_drew ?_ | refine blk_alloc ?_ _)); exact BK309.out⟩, ⟨by repeat (first | (with_reducible first | exact HB.out | apply below_alloc | apply pw_below_drewN | apply below_drew1 | refine below_set ?_ GE309.out) | exact HB.out)⟩⟩
            · rw [if_neg c19] at H
              have c19b0 : (t308 == a2) = false := beq_eq_false_iff_ne.mpr c19
              have c19b1 : (t308 != a2) = true := bne_iff_ne.mpr c19
              (first | rw [c19b0] | (simp only [i64_w, i32_w]; rw [c19b0]) | skip)
              by_cases c20 : t305 > 1099511627776
              · rw [if_pos c20] at H
                have c20b0 : decide (1099511627776 < t305) = true := decide_eq_true c20
                clear c20
                have H' := Aside0.mk H
                clear H
                have hcz21_0 : w17.cell? ⟨gb309, 0, none⟩ = some (.int .i64 0) := (blk_cell BK309.out 0).trans rfl
                have hcz21_1 : w17.cell? ⟨gb309, 1, none⟩ = some (.int .i64 0) := (blk_cell BK309.out 1).trans rfl
                have hcz21_2 : w17.cell? ⟨gb309, 2, none⟩ = some (.int .i64 0) := (blk_cell BK309.out 2).trans rfl
                have hcz21_3 : w17.cell? ⟨gb309, 3, none⟩ = some (.int .i64 0) := (blk_cell BK309.out 3).trans rfl
                have hfz21_0 := blk_frozen BK309.out 0
                have hfz21_1 := blk_frozen BK309.out 1
                have hfz21_2 := blk_frozen BK309.out 2
                have hfz21_3 := blk_frozen BK309.out 3
                go_wp2
                go_meet
                case rel => exact ⟨_, (true), (by first | rfl | (simp; done) | (simp [*]; done)), H', ⟨by have := HJ6.out; first | omega | exact Nat.le_refl _⟩, ⟨by (with_reducible repeat (first | apply Kd.R_alloc | apply Kd.R_drewN | apply Kd.R_drew)); exact Kd.R_mono (Kd.R_far (p := ⟨gb309, 3, none⟩) (Kd.R_far (p := ⟨gb309, 2, none⟩) (Kd.R_far (p := ⟨gb309, 1, none⟩) (Kd.R_far (p := ⟨gb309, 0, none⟩) (Kd.R_types HO303.out BK309.out (by decide)) (fun _ hk => hk.2) (.int .i64 t304)) (fun _ hk => hk.2) (.int .i64 t305)) (fun _ hk => hk.2) (.int .i64 t306)) (fun _ hk => hk.2) (.int .i64 t307)) (fun _ hk => trivial)⟩, ⟨by (with_reducible repeat (first | refine blk_drewN ?_ _ | refine blk_drew ?_ | refine blk_alloc ?_ _)); refine blk_put (cs := #[.int .i64 t304, .int .i64 t305, .int .i64 t306, .int .i64 0]) ?_ 3 _ rfl; (with_reducible repeat (first | refine blk_drewN ?_ _ | refine blk_drew ?_ | refine blk_alloc ?_ _)); refine blk_put (cs := #[.int .i64 t304, .int .i64 t305, .int .i64 0, .int .i64 0]) ?_ 2 _ rfl; (with_reducible repeat (first | refine blk_drewN ?_ _ | refine blk_drew ?_ | refine blk_alloc ?_ _)); refine blk_put (cs := #[.int .i64 t304, .int .i64 0, .int .i64 0, .int .i64 0]) ?_ 1 _ rfl; (with_reducible repeat (first | refine blk_drewN ?_ _ | refine blk_drew ?_ | refine blk_alloc ?_ _)); refine blk_put (cs := #[.int .i64 0, .int .i64 0, .int .i64 0, .int .i64 0]) ?_ 0 _ rfl; (with_reducible repeat (first | refine blk_drewN ?_ _ | refine blk_drew ?_ | refine blk_alloc ?_ _)); exact BK309.out⟩, ⟨by repeat (first | (with_reducible first | exact HB.out | apply below_alloc | apply pw_below_drewN | apply below_drew1 | refine below_set ?_ GE309.out) | exact HB.out)⟩⟩
              · rw [if_neg c20] at H
                have c20b0 : decide (1099511627776 < t305) = false := decide_eq_false c20
                clear c20
                have H' := Aside0.mk H
                clear H
                have hcz22_0 : w17.cell? ⟨gb309, 0, none⟩ = some (.int .i64 0) := (blk_cell BK309.out 0).trans rfl
                have hcz22_1 : w17.cell? ⟨gb309, 1, none⟩ = some (.int .i64 0) := (blk_cell BK309.out 1).trans rfl
                have hcz22_2 : w17.cell? ⟨gb309, 2, none⟩ = some (.int .i64 0) := (blk_cell BK309.out 2).trans rfl
                have hcz22_3 : w17.cell? ⟨gb309, 3, none⟩ = some (.int .i64 0) := (blk_cell BK309.out 3).trans rfl
                have hfz22_0 := blk_frozen BK309.out 0
                have hfz22_1 := blk_frozen BK309.out 1
                have hfz22_2 := blk_frozen BK309.out 2
                have hfz22_3 := blk_frozen BK309.out 3
                go_wp2
                go_meet
                case rel => exact ⟨_, (decide (t305 < 0)), (by first | rfl | (simp; done) | (simp [*]; done)), H', ⟨by have := HJ6.out; first | omega | exact Nat.le_refl _⟩, ⟨by (with_reducible repeat (first | apply Kd.R_alloc | apply Kd.R_drewN | apply Kd.R_drew)); exact Kd.R_mono (Kd.R_far (p := ⟨gb309, 3, none⟩) (Kd.R_far (p := ⟨gb309, 2, none⟩) (Kd.R_far (p := ⟨gb309, 1, none⟩) (Kd.R_far (p := ⟨gb309, 0, none⟩) (Kd.R_types HO303.out BK309.out (by decide)) (fun _ hk => hk.2) (.int .i64 t304)) (fun _ hk => hk.2) (.int .i64 t305)) (fun _ hk => hk.2) (.int .i64 t306)) (fun _ hk => hk.2) (.int .i64 t307)) (fun _ hk => trivial)⟩, ⟨by (with_reducible repeat (first | refine blk_drewN ?_ _ | refine blk_drew ?_ | refine blk_alloc ?_ _)); refine blk_put (cs := #[.int .i64 t304, .int .i64 t305, .int .i64 t306, .int .i64 0]) ?_ 3 _ rfl; (with_reducible repeat (first | refine blk_drewN ?_ _ | refine blk_drew ?_ | refine blk_alloc ?_ _)); refine blk_put (cs := #[.int .i64 t304, .int .i64 t305, .int .i64 0, .int .i64 0]) ?_ 2 _ rfl; (with_reducible repeat (first | refine blk_drewN ?_ _ | refine blk_drew ?_ | refine blk_alloc ?_ _)); refine blk_put (cs := #[.int .i64 t304, .int .i64 0, .int .i64 0, .int .i64 0]) ?_ 1 _ rfl; (with_reducible repeat (first | refine blk_drewN ?_ _ | refine blk_drew ?_ | refine blk_alloc ?_ _)); refine blk_put (cs := #[.int .i64 0, .int .i64 0, .int .i64 0, .int .i64 0]) ?_ 0 _ rfl; (with_reducible repeat (first | refine blk_drewN ?_ _ | refine blk_drew ?_ | refine blk_alloc ?_ _)); exact BK309.out⟩, ⟨by repeat (first | (with_reducible first | exact HB.out | apply below_alloc | apply pw_below_drewN | apply below_drew1 | refine below_set ?_ GE309.out) | exact HB.out)⟩⟩
          case rest =>
            clear HC15
            try clear c1
            try clear c2
            try clear p2
            try clear c6
            try clear c8
            try clear c9
            try clear c9b0
            try clear c9b1
            try clear c10
            try clear c10b0
            try clear c11
            try clear c11b0
            try clear c12
            try clear c12b0
            try clear c13
            try clear c19
            try clear c19b0
            try clear c19b1
            try clear c20
            try clear c20b0
            try clear hcz18_0
            try clear hcz18_1
            try clear hcz18_2
            try clear hcz18_3
            try clear hcz21_0
            try clear hcz21_1
            try clear hcz21_2
            try clear hcz21_3
            try clear hcz22_0
            try clear hcz22_1
            try clear hcz22_2
            try clear hcz22_3
            try clear hfz18_0
            try clear hfz18_1
            try clear hfz18_2
            try clear hfz18_3
            try clear hfz21_0
            try clear hfz21_1
            try clear hfz21_2
            try clear hfz21_3
            try clear hfz22_0
            try clear hfz22_1
            try clear hfz22_2
            try clear hfz22_3
            try clear p2
            obtain ⟨kq, x59_14, rfl, HA, HJ14, HO_9, BK309, HB⟩ := hcut
            cases kq with
            | zero => exact absurd HA.out (by simp [kissgatelaw10_PrioWorse.j1])
            | succ kj14 =>
              have H := HA.out
              clear HA
              simp only [kissgatelaw10_PrioWorse.j1] at H
              by_cases c23 : x59_14 = true
              · subst c23
                have H1 : (some true) = some r := by rw [if_pos rfl] at H; exact H
                clear H
                have H := H1
                clear H1
                obtain rfl := Option.some.inj H
                go_wp2
                go_ret
                exact ⟨by first | rfl | (simp [errW_none, errW_some] <;> rfl) | (simp [*, errW_none, errW_some] <;> rfl), by repeat (first | (with_reducible first | exact HB.out | apply below_alloc | apply pw_below_drewN | apply below_drew1 | refine below_set ?_ GE309.out) | exact HB.out)⟩
              · replace c23 := Bool.eq_false_iff.mpr c23
                subst c23
                have H1 : ((some (([] : List (S45)) : List (S45))).bind fun y310 => (if y310.length + l1.length < 2513169434916 then ((some (y310 ++ l1 : List (S45))).bind fun y313 => (if 0 ≤ a2 then (if a2 < (l1.length : Int) then (if a2 < (y313.length : Int) then ((prio_Roles.f kj14 a0 (y313.set (a2 : Int).toNat (⟨(⟨t304, wrap64 (t305 + a3), (rd_T45 l1 a2).f0.f2, (rd_T45 l1 a2).f0.f3⟩ : S23), 1, 1, false⟩ : S45))).bind fun bt319 => (if (!(bt319.2.1 == t304) || (!(bt319.2.2.1 == t305) || (!(bt319.2.2.2.1 == t306) || (!(bt319.2.2.2.2.1 == t307))))) = true then (kissgatelaw10_PrioWorse.j2 kj14 a2 t301 bt319.1 true) else (if bt319.2.2.2.2.2 = t308 then (if a2 < (bt319.1.length : Int) then (kissgatelaw10_PrioWorse.j2 kj14 a2 t301 bt319.1 ((rd bt319.1 a2) != 2)) else (none)) else (kissgatelaw10_PrioWorse.j2 kj14 a2 t301 bt319.1 true)))) else (none)) else (none)) else (none))) else (none))) = some r := by rw [if_neg (show ¬ (false = true) by decide)] at H; exact H
                clear H
                have H := H1
                clear H1
                obtain ⟨y310, hy310⟩ : ∃ y_ : List (S45), y_ = (([] : List (S45))) := ⟨_, rfl⟩
                replace H : (if y310.length + l1.length < 2513169434916 then ((some (y310 ++ l1 : List (S45))).bind fun y313 => (if 0 ≤ a2 then (if a2 < (l1.length : Int) then (if a2 < (y313.length : Int) then ((prio_Roles.f kj14 a0 (y313.set (a2 : Int).toNat (⟨(⟨t304, wrap64 (t305 + a3), (rd_T45 l1 a2).f0.f2, (rd_T45 l1 a2).f0.f3⟩ : S23), 1, 1, false⟩ : S45))).bind fun bt319 => (if (!(bt319.2.1 == t304) || (!(bt319.2.2.1 == t305) || (!(bt319.2.2.2.1 == t306) || (!(bt319.2.2.2.2.1 == t307))))) = true then (kissgatelaw10_PrioWorse.j2 kj14 a2 t301 bt319.1 true) else (if bt319.2.2.2.2.2 = t308 then (if a2 < (bt319.1.length : Int) then (kissgatelaw10_PrioWorse.j2 kj14 a2 t301 bt319.1 ((rd bt319.1 a2) != 2)) else (none)) else (kissgatelaw10_PrioWorse.j2 kj14 a2 t301 bt319.1 true)))) else (none)) else (none)) else (none))) else (none)) = some r := by first | (rw [hy310]; with_reducible exact H) | (have H2_ := (Option.bind_some _ _).symm.trans H; rw [hy310]; with_reducible exact H2_) | (have H2_ := (Option.bind_some _ _).symm.trans H; with_reducible exact H2_) | with_reducible exact H | (rw [hy310]; exact H) | exact H
                have Ny310 := Aside0.mk hy310
                clear hy310
                by_cases c24 : y310.length + l1.length < 2513169434916
                · rw [if_pos c24] at H
                  have LMc24 := Aside0.mk c24
                  clear c24
                  obtain ⟨y313, hy313⟩ : ∃ y_ : List (S45), y_ = (y310 ++ l1) := ⟨_, rfl⟩
                  replace H : (if 0 ≤ a2 then (if a2 < (l1.length : Int) then (if a2 < (y313.length : Int) then ((prio_Roles.f kj14 a0 (y313.set (a2 : Int).toNat (⟨(⟨t304, wrap64 (t305 + a3), (rd_T45 l1 a2).f0.f2, (rd_T45 l1 a2).f0.f3⟩ : S23), 1, 1, false⟩ : S45))).bind fun bt319 => (if (!(bt319.2.1 == t304) || (!(bt319.2.2.1 == t305) || (!(bt319.2.2.2.1 == t306) || (!(bt319.2.2.2.2.1 == t307))))) = true then (kissgatelaw10_PrioWorse.j2 kj14 a2 t301 bt319.1 true) else (if bt319.2.2.2.2.2 = t308 then (if a2 < (bt319.1.length : Int) then (kissgatelaw10_PrioWorse.j2 kj14 a2 t301 bt319.1 ((rd bt319.1 a2) != 2)) else (none)) else (kissgatelaw10_PrioWorse.j2 kj14 a2 t301 bt319.1 true)))) else (none)) else (none)) else (none)) = some r := by first | (rw [hy313]; with_reducible exact H) | (have H2_ := (Option.bind_some _ _).symm.trans H; rw [hy313]; with_reducible exact H2_) | (have H2_ := (Option.bind_some _ _).symm.trans H; with_reducible exact H2_) | with_reducible exact H | (rw [hy313]; exact H) | exact H
                  have Ny313 := Aside0.mk hy313
                  clear hy313
                  by_cases c25 : 0 ≤ a2
                  · rw [if_pos c25] at H
                    have c25b0 : decide (0 ≤ a2) = true := decide_eq_true c25
                    clear c25
                    by_cases c26 : a2 < (l1.length : Int)
                    · rw [if_pos c26] at H
                      have c26b0 : decide (a2 < (l1.length : Int)) = true := decide_eq_true c26
                      clear c26
                      by_cases c27 : a2 < (y313.length : Int)
                      · rw [if_pos c27] at H
                        have c27b0 : decide (a2 < (y313.length : Int)) = true := decide_eq_true c27
                        clear c27
                        obtain ⟨y318, hy318⟩ : ∃ y_ : List (S45), y_ = (y313.set (a2 : Int).toNat (⟨(⟨t304, wrap64 (t305 + a3), (rd_T45 l1 a2).f0.f2, (rd_T45 l1 a2).f0.f3⟩ : S23), 1, 1, false⟩ : S45)) := ⟨_, rfl⟩
                        replace H : ((prio_Roles.f kj14 a0 y318).bind fun bt319 => (if (!(bt319.2.1 == t304) || (!(bt319.2.2.1 == t305) || (!(bt319.2.2.2.1 == t306) || (!(bt319.2.2.2.2.1 == t307))))) = true then (kissgatelaw10_PrioWorse.j2 kj14 a2 t301 bt319.1 true) else (if bt319.2.2.2.2.2 = t308 then (if a2 < (bt319.1.length : Int) then (kissgatelaw10_PrioWorse.j2 kj14 a2 t301 bt319.1 ((rd bt319.1 a2) != 2)) else (none)) else (kissgatelaw10_PrioWorse.j2 kj14 a2 t301 bt319.1 true)))) = some r := by first | (rw [hy318]; with_reducible exact H) | (have H2_ := (Option.bind_some _ _).symm.trans H; rw [hy318]; with_reducible exact H2_) | (have H2_ := (Option.bind_some _ _).symm.trans H; with_reducible exact H2_) | with_reducible exact H | (rw [hy318]; exact H) | exact H
                        have Ny318 := Aside0.mk hy318
                        clear hy318
                        replace H := Option.bind_eq_some_iff.mp H
                        obtain ⟨⟨t319, t322, t323, t324, t325, t326⟩, A290, H⟩ := H
                        replace H : (if (!(t322 == t304) || (!(t323 == t305) || (!(t324 == t306) || (!(t325 == t307))))) = true then (kissgatelaw10_PrioWorse.j2 kj14 a2 t301 t319 true) else (if t326 = t308 then (if a2 < (t319.length : Int) then (kissgatelaw10_PrioWorse.j2 kj14 a2 t301 t319 ((rd t319 a2) != 2)) else (none)) else (kissgatelaw10_PrioWorse.j2 kj14 a2 t301 t319 true))) = some r := H
                        have A29 := Aside0.mk A290
                        clear A290
                        have HC30 := Aside0.mk H
                        clear H
                        try go_wp2_with (first | ((with_reducible refine gate_dst (N := 60) rfl ?_); (try (refine gate_guard (by rfl) ?_; dsimp only)); refine Kd.R_lit k45 _ 45 ?hg (N := 60) ?hd (xs := ([] : List (S45))) (inner := []) (ok := fun _ => True) (okp := fun _ => True) ?hr ?hp (fun _ hk => hk) trivial (Below.refl _ _) (Nat.le_refl _) (by simp) ?_; (case hd => rfl); (case hg => rfl); (case hr => first | (go_simp; done) | (go_simp; rfl)); (case hp => exact (Reps.none _ _)); intro v311 w31 ho32 hb hg_ hnew_; clear hg_ hnew_; (first | rw [← Ny310.out] at ho32 | (simp only [Int.reduceToNat] at ho32; rw [← Ny310.out] at ho32)); have n0_ := Aside0.mk (Kd.R_below (by (with_reducible repeat (first | apply Kd.R_alloc | apply Kd.R_drewN | apply Kd.R_drew)); exact HO_9.out) hb); have n1_ := Aside0.mk (Kd.R_lower ho32 (below_size (by repeat (first | (with_reducible first | exact HB.out | apply below_alloc | apply pw_below_drewN | apply below_drew1 | refine below_set ?_ GE309.out) | exact HB.out)))); have n2_ := Aside0.mk (blk_below (g := gb309) (o := .cells #[.int .i64 t304, .int .i64 t305, .int .i64 t306, .int .i64 t307] 23 (0, 0)) (by (with_reducible repeat (first | refine blk_drewN ?_ _ | refine blk_drew ?_ | refine blk_alloc ?_ _)); exact BK309.out) hb); have n3_ := Aside0.mk (below_step (by repeat (first | (with_reducible first | exact HB.out | apply below_alloc | apply pw_below_drewN | apply below_drew1 | refine below_set ?_ GE309.out) | exact HB.out)) hb); clear HO_9; clear BK309; clear HB; have HO_9 := n0_; have HO312 := n1_; have BK309 := n2_; have HB := n3_; clear n0_ n1_ n2_ n3_; clear hb ho32) | ((with_reducible refine gate_builtin (b := .append) (xs := #[.tmp 60, .tmp 61]) rfl ?_); (try (refine gate_guard (by rfl) ?_; dsimp only)); at_builtin; refine Kd.R_append_rows k45 (w0 := w) w.heap.size rfl (.tmp 60) (.tmp 61) 28 45 (.agg #[(.int .i64 0), (.int .i64 0), (.int .i64 0), (.int .i64 0), (.int .i64 0), (.int .i64 0), (.bool false)]) 56 rfl Try.underlying28 info45 rfl (by decide) (by omega) v311 y310 l1 _ _ _ (fun _ => True) (fun _ => False) rfl rfl ?aO ?aR (fun _ _ h => h) (fun _ h => h.elim) ?aF ?aB ?aS ?aL ?_; (case aR => repeat (first | exact (Kd.C_below HR1.out HB.out) | (with_reducible refine Kd.C_alloc ?_ _) | (with_reducible refine Kd.C_drewN ?_ _) | (with_reducible refine Kd.C_drew ?_))); (case aB => exact (by repeat (first | (with_reducible first | exact HB.out | apply below_alloc | apply pw_below_drewN | apply below_drew1 | refine below_set ?_ GE309.out) | exact HB.out))); (case aF => exact (fun _ _ => trivial)); (case aO => exact (by (with_reducible repeat (first | apply Kd.R_alloc | apply Kd.R_drewN | apply Kd.R_drew)); exact HO312.out)); (case aS => exact (below_size (by repeat (first | (with_reducible first | exact HB.out | apply below_alloc | apply pw_below_drewN | apply below_drew1 | refine below_set ?_ GE309.out) | exact HB.out)))); (case aL => have := LMc24.out; omega); intro v314 w33 ho hb hg hat; rw [← Ny313.out] at ho; have n0_ := Aside0.mk (Kd.R_over' (by (with_reducible repeat (first | apply Kd.R_alloc | apply Kd.R_drewN | apply Kd.R_drew)); exact HO_9.out) (Kd.R_typed (by (with_reducible repeat (first | apply Kd.R_alloc | apply Kd.R_drewN | apply Kd.R_drew)); exact HO312.out)) (by decide) hg); have n1_ := Aside0.mk (blk_grown (g := gb309) (o := .cells #[.int .i64 t304, .int .i64 t305, .int .i64 t306, .int .i64 t307] 23 (0, 0)) (by (with_reducible repeat (first | refine blk_drewN ?_ _ | refine blk_drew ?_ | refine blk_alloc ?_ _)); exact BK309.out) hg (Kd.R_ne HO312.out BK309.out (by decide))); have n2_ := Aside0.mk (hb); have n3_ := Aside0.mk (ho); clear HO_9; clear BK309; clear HB; clear HO312; have HO_9 := n0_; have BK309 := n1_; have HB := n2_; have HO315 := n3_; clear n0_ n1_ n2_ n3_; clear ho hb hg hat))
                        have n0_ := Aside0.mk (Kd.R_drew HO_9.out)
                        have n1_ := Aside0.mk (Kd.R_drew HO315.out)
                        have n2_ := Aside0.mk (blk_drew BK309.out)
                        have n3_ := Aside0.mk (below_drew1 HB.out)
                        clear HO_9
                        clear HO315
                        clear BK309
                        clear HB
                        have HO_9 := n0_
                        have HO315 := n1_
                        have BK309 := n2_
                        have HB := n3_
                        clear n0_ n1_ n2_ n3_
                        have p316 : 0 ≤ (a2 : Int) := of_decide_eq_true (by first | (with_reducible assumption) | assumption)
                        have q316 : a2 < (l1.length : Int) := of_decide_eq_true (by first | (with_reducible assumption) | assumption)
                        obtain ⟨ad316, e316, hx316_0, hx316_1, hx316_2, hx316_3, hx316_4, hx316_5, hx316_6⟩ := at_T45 HR1.out a2 p316 q316
                        have hw316_6 := hx316_6
                        have hw316_5 := hx316_5
                        have hw316_4 := hx316_4
                        have hw316_3 := hx316_3
                        have hw316_2 := hx316_2
                        have hw316_1 := hx316_1
                        have hw316_0 := hx316_0
                        cases e316
                        replace hx316_0 := (HB.out.cell (World.block_lt_of_cell? w _ hx316_0)).trans hx316_0
                        replace hx316_1 := (HB.out.cell (World.block_lt_of_cell? w _ hx316_1)).trans hx316_1
                        replace hx316_2 := (HB.out.cell (World.block_lt_of_cell? w _ hx316_2)).trans hx316_2
                        replace hx316_3 := (HB.out.cell (World.block_lt_of_cell? w _ hx316_3)).trans hx316_3
                        replace hx316_4 := (HB.out.cell (World.block_lt_of_cell? w _ hx316_4)).trans hx316_4
                        replace hx316_5 := (HB.out.cell (World.block_lt_of_cell? w _ hx316_5)).trans hx316_5
                        replace hx316_6 := (HB.out.cell (World.block_lt_of_cell? w _ hx316_6)).trans hx316_6
                        replace p316 := eq_true p316
                        replace q316 := eq_true q316
                        have p317 : 0 ≤ (a2 : Int) := of_decide_eq_true (by first | (with_reducible assumption) | assumption)
                        have q317 : a2 < (l1.length : Int) := of_decide_eq_true (by first | (with_reducible assumption) | assumption)
                        obtain ⟨ad317, e317, hx317_0, hx317_1, hx317_2, hx317_3, hx317_4, hx317_5, hx317_6⟩ := at_T45 HR1.out a2 p317 q317
                        have hw317_6 := hx317_6
                        have hw317_5 := hx317_5
                        have hw317_4 := hx317_4
                        have hw317_3 := hx317_3
                        have hw317_2 := hx317_2
                        have hw317_1 := hx317_1
                        have hw317_0 := hx317_0
                        obtain rfl : ad316 = ad317 := (by injection e317)
                        replace hx317_0 := (HB.out.cell (World.block_lt_of_cell? w _ hx317_0)).trans hx317_0
                        replace hx317_1 := (HB.out.cell (World.block_lt_of_cell? w _ hx317_1)).trans hx317_1
                        replace hx317_2 := (HB.out.cell (World.block_lt_of_cell? w _ hx317_2)).trans hx317_2
                        replace hx317_3 := (HB.out.cell (World.block_lt_of_cell? w _ hx317_3)).trans hx317_3
                        replace hx317_4 := (HB.out.cell (World.block_lt_of_cell? w _ hx317_4)).trans hx317_4
                        replace hx317_5 := (HB.out.cell (World.block_lt_of_cell? w _ hx317_5)).trans hx317_5
                        replace hx317_6 := (HB.out.cell (World.block_lt_of_cell? w _ hx317_6)).trans hx317_6
                        replace p317 := eq_true p317
                        replace q317 := eq_true q317
                        have p28 : 0 ≤ (a2 : Int) := of_decide_eq_true (by first | (with_reducible assumption) | assumption)
                        have q28 : (a2 : Int) < ((y313.length : Int) : Int) := of_decide_eq_true (by first | (with_reducible assumption) | assumption)
                        obtain ⟨go28, co28, eo28, gb28, gl28, cl28, HG28⟩ := Kd.R_form HO315.out (by omega)
                        (first | cases eo28 | (injection eo28 with ea_ en_ ec_; (first | subst ea_ | (injection ea_ with ea_; subst ea_)); subst ec_; clear en_))
                        have GB28 := Aside0.mk gb28
                        have GG28 := Aside0.mk HG28
                        clear gb28 gl28 HG28
                        obtain ⟨ce28, hcl28, hM28, hcc28, hfr28⟩ := Kd.R_elem HO315.out z45 (a2 : Int) p28 q28
                        obtain rfl := k45_openM hM28
                        have hx28_0 : World.cell? _ ⟨go28, (a2 : Int).toNat * 7, none⟩ = some (.int .i64 ((rd_T45 y313 a2).f0.f0)) := hcc28 0 _ rfl
                        have hx28_1 : World.cell? _ ⟨go28, (a2 : Int).toNat * 7 + 1, none⟩ = some (.int .i64 ((rd_T45 y313 a2).f0.f1)) := hcc28 1 _ rfl
                        have hx28_2 : World.cell? _ ⟨go28, (a2 : Int).toNat * 7 + 2, none⟩ = some (.int .i64 ((rd_T45 y313 a2).f0.f2)) := hcc28 2 _ rfl
                        have hx28_3 : World.cell? _ ⟨go28, (a2 : Int).toNat * 7 + 3, none⟩ = some (.int .i64 ((rd_T45 y313 a2).f0.f3)) := hcc28 3 _ rfl
                        have hx28_4 : World.cell? _ ⟨go28, (a2 : Int).toNat * 7 + 4, none⟩ = some (.int .i64 ((rd_T45 y313 a2).f1)) := hcc28 4 _ rfl
                        have hx28_5 : World.cell? _ ⟨go28, (a2 : Int).toNat * 7 + 5, none⟩ = some (.int .i64 ((rd_T45 y313 a2).f2)) := hcc28 5 _ rfl
                        have hx28_6 : World.cell? _ ⟨go28, (a2 : Int).toNat * 7 + 6, none⟩ = some (.bool ((rd_T45 y313 a2).f3)) := hcc28 6 _ rfl
                        have hf28_0 : World.frozen? _ ⟨go28, (a2 : Int).toNat * 7, none⟩ = false := hfr28 0
                        have hf28_1 : World.frozen? _ ⟨go28, (a2 : Int).toNat * 7 + 1, none⟩ = false := hfr28 1
                        have hf28_2 : World.frozen? _ ⟨go28, (a2 : Int).toNat * 7 + 2, none⟩ = false := hfr28 2
                        have hf28_3 : World.frozen? _ ⟨go28, (a2 : Int).toNat * 7 + 3, none⟩ = false := hfr28 3
                        have hf28_4 : World.frozen? _ ⟨go28, (a2 : Int).toNat * 7 + 4, none⟩ = false := hfr28 4
                        have hf28_5 : World.frozen? _ ⟨go28, (a2 : Int).toNat * 7 + 5, none⟩ = false := hfr28 5
                        have hf28_6 : World.frozen? _ ⟨go28, (a2 : Int).toNat * 7 + 6, none⟩ = false := hfr28 6
                        clear hcl28 hcc28 hfr28 hM28
                        replace p28 := eq_true p28
                        replace q28 := eq_true q28
                        obtain ⟨ce35, hcl35, hM35, hcc35, hfr35⟩ := Kd.R_elem HO315.out z45 (a2 : Int) (of_decide_eq_true (by first | (with_reducible assumption) | assumption)) (by have h_ : (a2 : Int) < ((y313.length : Int) : Int) := of_decide_eq_true (by first | (with_reducible assumption) | assumption); first | exact h_ | (have e_ := (Kd.R_reads' HO315.out).1; omega) | simpa using h_)
                        obtain rfl := k45_openM hM35
                        have HP35 := (Kd.R_seg HO315.out (a2 : Int) (of_decide_eq_true (by first | (with_reducible assumption) | assumption)) (by have h_ : (a2 : Int) < ((y313.length : Int) : Int) := of_decide_eq_true (by first | (with_reducible assumption) | assumption); first | exact h_ | (have e_ := (Kd.R_reads' HO315.out).1; omega) | simpa using h_) (seg := [.int .i64 t304, .int .i64 (wrap64 (t305 + a3)), .int .i64 ((rd_T45 l1 a2).f0.f2), .int .i64 ((rd_T45 l1 a2).f0.f3), .int .i64 1, .int .i64 1, .bool false]) (j := 0) hcl35 hcc35 (show 7 ≤ 7 from by decide) (x' := (⟨(⟨t304, wrap64 (t305 + a3), (rd_T45 l1 a2).f0.f2, (rd_T45 l1 a2).f0.f3⟩ : S23), 1, 1, false⟩ : S45)) (k45_mkM _ _ _ (⟨(⟨t304, wrap64 (t305 + a3), (rd_T45 l1 a2).f0.f2, (rd_T45 l1 a2).f0.f3⟩ : S23), 1, 1, false⟩ : S45) ) (fun _ hk => hk)).1
                        rw [← Ny318.out] at HP35
                        have HQ35 := Aside0.mk HP35
                        clear hcl35 hcc35 hfr35 hM35 HP35
                        refine start_ (n := 24) (S := fun w' => w'.cell? ⟨gb309, 0, none⟩ = some (.int .i64 t304) ∧ w'.cell? ⟨gb309, 1, none⟩ = some (.int .i64 t305) ∧ w'.cell? ⟨gb309, 2, none⟩ = some (.int .i64 t306) ∧ w'.cell? ⟨gb309, 3, none⟩ = some (.int .i64 t307) ∧ w'.cell? (ad316.add ((a2).toNat * 7)) = some (.int .i64 ((rd_T45 l1 a2).f0.f0)) ∧ w'.cell? ⟨(ad316.add ((a2).toNat * 7)).block, (ad316.add ((a2).toNat * 7)).off + 1, none⟩ = some (.int .i64 ((rd_T45 l1 a2).f0.f1)) ∧ w'.cell? ⟨(ad316.add ((a2).toNat * 7)).block, (ad316.add ((a2).toNat * 7)).off + 2, none⟩ = some (.int .i64 ((rd_T45 l1 a2).f0.f2)) ∧ w'.cell? ⟨(ad316.add ((a2).toNat * 7)).block, (ad316.add ((a2).toNat * 7)).off + 3, none⟩ = some (.int .i64 ((rd_T45 l1 a2).f0.f3)) ∧ w'.cell? ⟨(ad316.add ((a2).toNat * 7)).block, (ad316.add ((a2).toNat * 7)).off + 4, none⟩ = some (.int .i64 ((rd_T45 l1 a2).f1)) ∧ w'.cell? ⟨(ad316.add ((a2).toNat * 7)).block, (ad316.add ((a2).toNat * 7)).off + 5, none⟩ = some (.int .i64 ((rd_T45 l1 a2).f2)) ∧ w'.cell? ⟨(ad316.add ((a2).toNat * 7)).block, (ad316.add ((a2).toNat * 7)).off + 6, none⟩ = some (.bool ((rd_T45 l1 a2).f3)) ∧ w'.cell? (ad316.add ((a2).toNat * 7)) = some (.int .i64 ((rd_T45 l1 a2).f0.f0)) ∧ w'.cell? ⟨(ad316.add ((a2).toNat * 7)).block, (ad316.add ((a2).toNat * 7)).off + 1, none⟩ = some (.int .i64 ((rd_T45 l1 a2).f0.f1)) ∧ w'.cell? ⟨(ad316.add ((a2).toNat * 7)).block, (ad316.add ((a2).toNat * 7)).off + 2, none⟩ = some (.int .i64 ((rd_T45 l1 a2).f0.f2)) ∧ w'.cell? ⟨(ad316.add ((a2).toNat * 7)).block, (ad316.add ((a2).toNat * 7)).off + 3, none⟩ = some (.int .i64 ((rd_T45 l1 a2).f0.f3)) ∧ w'.cell? ⟨(ad316.add ((a2).toNat * 7)).block, (ad316.add ((a2).toNat * 7)).off + 4, none⟩ = some (.int .i64 ((rd_T45 l1 a2).f1)) ∧ w'.cell? ⟨(ad316.add ((a2).toNat * 7)).block, (ad316.add ((a2).toNat * 7)).off + 5, none⟩ = some (.int .i64 ((rd_T45 l1 a2).f2)) ∧ w'.cell? ⟨(ad316.add ((a2).toNat * 7)).block, (ad316.add ((a2).toNat * 7)).off + 6, none⟩ = some (.bool ((rd_T45 l1 a2).f3))) (ds := [23]) #[false, false, false, false, false, false, false, false, false, false, false, false, false, false, false, false, false, false, false, false, false, false, false, false] (by kernel_rfl) rfl rfl ⟨(blk_cell BK309.out 0).trans rfl, (blk_cell BK309.out 1).trans rfl, (blk_cell BK309.out 2).trans rfl, (blk_cell BK309.out 3).trans rfl, ((HB.out.cell (World.block_lt_of_cell? w _ hw316_0)).trans hw316_0), ((HB.out.cell (World.block_lt_of_cell? w _ hw316_1)).trans hw316_1), ((HB.out.cell (World.block_lt_of_cell? w _ hw316_2)).trans hw316_2), ((HB.out.cell (World.block_lt_of_cell? w _ hw316_3)).trans hw316_3), ((HB.out.cell (World.block_lt_of_cell? w _ hw316_4)).trans hw316_4), ((HB.out.cell (World.block_lt_of_cell? w _ hw316_5)).trans hw316_5), ((HB.out.cell (World.block_lt_of_cell? w _ hw316_6)).trans hw316_6), ((HB.out.cell (World.block_lt_of_cell? w _ hw317_0)).trans hw317_0), ((HB.out.cell (World.block_lt_of_cell? w _ hw317_1)).trans hw317_1), ((HB.out.cell (World.block_lt_of_cell? w _ hw317_2)).trans hw317_2), ((HB.out.cell (World.block_lt_of_cell? w _ hw317_3)).trans hw317_3), ((HB.out.cell (World.block_lt_of_cell? w _ hw317_4)).trans hw317_4), ((HB.out.cell (World.block_lt_of_cell? w _ hw317_5)).trans hw317_5), ((HB.out.cell (World.block_lt_of_cell? w _ hw317_6)).trans hw317_6)⟩ (fun hHeld => ?_); refine with_tabW kissgatelaw10_PrioWorse.tab9 kissgatelaw10_PrioWorse.bits9 (fun HT_ HW_ => ?_)
                        generalize w33.drew = w34 at HO_9 HO315 BK309 HB GG28 HQ35 hf28_0 hf28_1 hf28_2 hf28_3 hf28_4 hf28_5 hf28_6 hx28_0 hx28_1 hx28_2 hx28_3 hx28_4 hx28_5 hx28_6 hx316_0 hx316_1 hx316_2 hx316_3 hx316_4 hx316_5 hx316_6 hx317_0 hx317_1 hx317_2 hx317_3 hx317_4 hx317_5 hx317_6 hHeld ⊢
                        refine pure_ (i := 0) (N := some 63) (v := ?_) (a' := ?_) #[true, false, false, false, false, false, false, false, false, false, false, false, false, false, false, false, false, false, false, false, false, false, false, false] rfl rfl (any_of HT_.out (by kernel_rfl)) (fun _ _ _ h => h) (Or.inl ⟨by rfl, ?_⟩) ?_ ?_
                        rotate_left
                        · intro w'
                          go_simp
                          with_reducible rfl
                        rotate_left
                        · simp only [Act.put, List.setIfInBounds_toArray, List.set_cons_zero, List.set_cons_succ, i64_w, i32_w]
                          rfl
                        refine pure_ (i := 1) (N := some 64) (v := ?_) (a' := ?_) #[true, true, false, false, false, false, false, false, false, false, false, false, false, false, false, false, false, false, false, false, false, false, false, false] rfl rfl (any_of HT_.out (by kernel_rfl)) (fun _ _ _ h => h) (Or.inl ⟨by rfl, ?_⟩) ?_ ?_
                        rotate_left
                        · intro w'
                          go_simp
                          with_reducible rfl
                        rotate_left
                        · simp only [Act.put, List.setIfInBounds_toArray, List.set_cons_zero, List.set_cons_succ, i64_w, i32_w]
                          rfl
                        refine pure_ (i := 2) (N := some 65) (v := ?_) (a' := ?_) #[true, true, true, false, false, false, false, false, false, false, false, false, false, false, false, false, false, false, false, false, false, false, false, false] rfl rfl (any_of HT_.out (by kernel_rfl)) (fun _ _ _ h => h) (Or.inl ⟨by rfl, ?_⟩) ?_ ?_
                        rotate_left
                        · intro w'
                          go_simp
                          with_reducible rfl
                        rotate_left
                        · simp only [Act.put, List.setIfInBounds_toArray, List.set_cons_zero, List.set_cons_succ, i64_w, i32_w]
                          rfl
                        refine pure_ (i := 4) (N := some 67) (v := ?_) (a' := ?_) #[true, true, true, false, true, false, false, false, false, false, false, false, false, false, false, false, false, false, false, false, false, false, false, false] rfl rfl (any_of HT_.out (by kernel_rfl)) (fun _ _ _ h => h) (Or.inl ⟨by rfl, ?_⟩) ?_ ?_
                        rotate_left
                        · intro w'
                          go_simp
                          with_reducible rfl
                        rotate_left
                        · simp only [Act.put, List.setIfInBounds_toArray, List.set_cons_zero, List.set_cons_succ, i64_w, i32_w]
                          rfl
                        refine pure_ (i := 6) (N := some 69) (v := ?_) (a' := ?_) #[true, true, true, false, true, false, true, false, false, false, false, false, false, false, false, false, false, false, false, false, false, false, false, false] rfl rfl (any_of HT_.out (by kernel_rfl)) (fun _ _ _ h => h) (Or.inl ⟨by rfl, ?_⟩) ?_ ?_
                        rotate_left
                        · intro w'
                          go_simp
                          with_reducible rfl
                        rotate_left
                        · simp only [Act.put, List.setIfInBounds_toArray, List.set_cons_zero, List.set_cons_succ, i64_w, i32_w]
                          rfl
                        refine pure_ (i := 8) (N := some 71) (v := ?_) (a' := ?_) #[true, true, true, false, true, false, true, false, true, false, false, false, false, false, false, false, false, false, false, false, false, false, false, false] rfl rfl (any_of HT_.out (by kernel_rfl)) (fun _ _ _ h => h) (Or.inl ⟨by rfl, ?_⟩) ?_ ?_
                        rotate_left
                        · intro w'
                          go_simp
                          with_reducible rfl
                        rotate_left
                        · simp only [Act.put, List.setIfInBounds_toArray, List.set_cons_zero, List.set_cons_succ, i64_w, i32_w]
                          rfl
                        refine pure_ (i := 9) (N := some 72) (v := ?_) (a' := ?_) #[true, true, true, false, true, false, true, false, true, true, false, false, false, false, false, false, false, false, false, false, false, false, false, false] rfl rfl (any_of HT_.out (by kernel_rfl)) (fun _ _ _ h => h) (Or.inl ⟨by rfl, ?_⟩) ?_ ?_
                        rotate_left
                        · intro w'
                          go_simp
                          with_reducible rfl
                        rotate_left
                        · simp only [Act.put, List.setIfInBounds_toArray, List.set_cons_zero, List.set_cons_succ, i64_w, i32_w]
                          rfl
                        refine pure_ (i := 10) (N := some 73) (v := ?_) (a' := ?_) #[true, true, true, false, true, false, true, false, true, true, true, false, false, false, false, false, false, false, false, false, false, false, false, false] rfl rfl (any_of HT_.out (by kernel_rfl)) (fun _ _ _ h => h) (Or.inl ⟨by rfl, ?_⟩) ?_ ?_
                        rotate_left
                        · intro w'
                          go_simp
                          with_reducible rfl
                        rotate_left
                        · simp only [Act.put, List.setIfInBounds_toArray, List.set_cons_zero, List.set_cons_succ, i64_w, i32_w]
                          rfl
                        refine pure_ (i := 11) (N := some 74) (v := ?_) (a' := ?_) #[true, true, true, false, true, false, true, false, true, true, true, true, false, false, false, false, false, false, false, false, false, false, false, false] rfl rfl (any_of HT_.out (by kernel_rfl)) (fun _ _ _ h => h) (Or.inl ⟨by rfl, ?_⟩) ?_ ?_
                        rotate_left
                        · intro w'
                          go_simp
                          with_reducible rfl
                        rotate_left
                        · simp only [Act.put, List.setIfInBounds_toArray, List.set_cons_zero, List.set_cons_succ, i64_w, i32_w]
                          rfl
                        refine pure_ (i := 12) (N := some 75) (v := ?_) (a' := ?_) #[true, true, true, false, true, false, true, false, true, true, true, true, true, false, false, false, false, false, false, false, false, false, false, false] rfl rfl (any_of HT_.out (by kernel_rfl)) (fun _ _ _ h => h) (Or.inl ⟨by rfl, ?_⟩) ?_ ?_
                        rotate_left
                        · intro w'
                          go_simp
                          with_reducible rfl
                        rotate_left
                        · simp only [Act.put, List.setIfInBounds_toArray, List.set_cons_zero, List.set_cons_succ, i64_w, i32_w]
                          rfl
                        refine pure_ (i := 14) (N := some 77) (v := ?_) (a' := ?_) #[true, true, true, false, true, false, true, false, true, true, true, true, true, false, true, false, false, false, false, false, false, false, false, false] rfl rfl (any_of HT_.out (by kernel_rfl)) (fun _ _ _ h => h) (Or.inl ⟨by rfl, ?_⟩) ?_ ?_
                        rotate_left
                        · intro w'
                          go_simp
                          with_reducible rfl
                        rotate_left
                        · simp only [Act.put, List.setIfInBounds_toArray, List.set_cons_zero, List.set_cons_succ, i64_w, i32_w]
                          rfl
                        refine pure_ (i := 15) (N := some 78) (v := ?_) (a' := ?_) #[true, true, true, false, true, false, true, false, true, true, true, true, true, false, true, true, false, false, false, false, false, false, false, false] rfl rfl (any_of HT_.out (by kernel_rfl)) (fun _ _ _ h => h) (Or.inl ⟨by rfl, ?_⟩) ?_ ?_
                        rotate_left
                        · intro w'
                          go_simp
                          with_reducible rfl
                        rotate_left
                        · simp only [Act.put, List.setIfInBounds_toArray, List.set_cons_zero, List.set_cons_succ, i64_w, i32_w]
                          rfl
                        refine pure_ (i := 16) (N := some 79) (v := ?_) (a' := ?_) #[true, true, true, false, true, false, true, false, true, true, true, true, true, false, true, true, true, false, false, false, false, false, false, false] rfl rfl (any_of HT_.out (by kernel_rfl)) (fun _ _ _ h => h) (Or.inl ⟨by rfl, ?_⟩) ?_ ?_
                        rotate_left
                        · intro w'
                          go_simp
                          with_reducible rfl
                        rotate_left
                        · simp only [Act.put, List.setIfInBounds_toArray, List.set_cons_zero, List.set_cons_succ, i64_w, i32_w]
                          rfl
                        refine pure_ (i := 17) (N := some 80) (v := ?_) (a' := ?_) #[true, true, true, false, true, false, true, false, true, true, true, true, true, false, true, true, true, true, false, false, false, false, false, false] rfl rfl (any_of HT_.out (by kernel_rfl)) (fun _ _ _ h => h) (Or.inl ⟨by rfl, ?_⟩) ?_ ?_
                        rotate_left
                        · intro w'
                          go_simp
                          with_reducible rfl
                        rotate_left
                        · simp only [Act.put, List.setIfInBounds_toArray, List.set_cons_zero, List.set_cons_succ, i64_w, i32_w]
                          rfl
                        refine pure_ (i := 18) (N := some 81) (v := ?_) (a' := ?_) #[true, true, true, false, true, false, true, false, true, true, true, true, true, false, true, true, true, true, true, false, false, false, false, false] rfl rfl (any_of HT_.out (by kernel_rfl)) (fun _ _ _ h => h) (Or.inl ⟨by rfl, ?_⟩) ?_ ?_
                        rotate_left
                        · intro w'
                          go_simp
                          with_reducible rfl
                        rotate_left
                        · simp only [Act.put, List.setIfInBounds_toArray, List.set_cons_zero, List.set_cons_succ, i64_w, i32_w]
                          rfl
                        refine take_ (i := 3) (N := some 66) (v := ?_) (a' := ?_) #[true, true, true, true, true, false, true, false, true, true, true, true, true, false, true, true, true, true, true, false, false, false, false, false] rfl rfl (take_ofW HT_.out HW_.out (by kernel_rfl)) (fun _ _ _ h => h) (Or.inl ⟨by rfl, ?_⟩) hHeld ?_ ?_
                        rotate_left
                        · rintro w' ⟨s0, s1, s2, s3, s4, s5, s6, s7, s8, s9, s10, s11, s12, s13, s14, s15, s16, s17⟩
                          go_simp
                          with_reducible rfl
                        rotate_left
                        · simp only [Act.put, List.setIfInBounds_toArray, List.set_cons_zero, List.set_cons_succ, i64_w, i32_w]
                          rfl
                        refine take_ (i := 5) (N := some 68) (v := ?_) (a' := ?_) #[true, true, true, true, true, true, true, false, true, true, true, true, true, false, true, true, true, true, true, false, false, false, false, false] rfl rfl (take_ofW HT_.out HW_.out (by kernel_rfl)) (fun _ _ _ h => h) (Or.inl ⟨by rfl, ?_⟩) hHeld ?_ ?_
                        rotate_left
                        · rintro w' ⟨s0, s1, s2, s3, s4, s5, s6, s7, s8, s9, s10, s11, s12, s13, s14, s15, s16, s17⟩
                          go_simp
                          with_reducible rfl
                        rotate_left
                        · simp only [Act.put, List.setIfInBounds_toArray, List.set_cons_zero, List.set_cons_succ, i64_w, i32_w]
                          rfl
                        refine pure_ (i := 7) (N := some 70) (v := ?_) (a' := ?_) #[true, true, true, true, true, true, true, true, true, true, true, true, true, false, true, true, true, true, true, false, false, false, false, false] rfl rfl (any_of HT_.out (by kernel_rfl)) (fun _ _ _ h => h) (Or.inl ⟨by rfl, ?_⟩) ?_ ?_
                        rotate_left
                        · intro w'
                          go_simp
                          with_reducible rfl
                        rotate_left
                        · simp only [Act.put, List.setIfInBounds_toArray, List.set_cons_zero, List.set_cons_succ, i64_w, i32_w]
                          rfl
                        refine take_ (i := 13) (N := some 76) (v := ?_) (a' := ?_) #[true, true, true, true, true, true, true, true, true, true, true, true, true, true, true, true, true, true, true, false, false, false, false, false] rfl rfl (take_ofW HT_.out HW_.out (by kernel_rfl)) (fun _ _ _ h => h) (Or.inl ⟨by rfl, ?_⟩) hHeld ?_ ?_
                        rotate_left
                        · rintro w' ⟨s0, s1, s2, s3, s4, s5, s6, s7, s8, s9, s10, s11, s12, s13, s14, s15, s16, s17⟩
                          go_simp
                          with_reducible rfl
                        rotate_left
                        · simp only [Act.put, List.setIfInBounds_toArray, List.set_cons_zero, List.set_cons_succ, i64_w, i32_w]
                          rfl
                        refine take_ (i := 19) (N := some 82) (v := ?_) (a' := ?_) #[true, true, true, true, true, true, true, true, true, true, true, true, true, true, true, true, true, true, true, true, false, false, false, false] rfl rfl (take_ofW HT_.out HW_.out (by kernel_rfl)) (fun _ _ _ h => h) (Or.inl ⟨by rfl, ?_⟩) hHeld ?_ ?_
                        rotate_left
                        · rintro w' ⟨s0, s1, s2, s3, s4, s5, s6, s7, s8, s9, s10, s11, s12, s13, s14, s15, s16, s17⟩
                          go_simp
                          with_reducible rfl
                        rotate_left
                        · simp only [Act.put, List.setIfInBounds_toArray, List.set_cons_zero, List.set_cons_succ, i64_w, i32_w]
                          rfl
                        refine pure_ (i := 20) (N := some 83) (v := ?_) (a' := ?_) #[true, true, true, true, true, true, true, true, true, true, true, true, true, true, true, true, true, true, true, true, true, false, false, false] rfl rfl (any_of HT_.out (by kernel_rfl)) (fun _ _ _ h => h) (Or.inl ⟨by rfl, ?_⟩) ?_ ?_
                        rotate_left
                        · intro w'
                          go_simp
                          with_reducible rfl
                        rotate_left
                        · simp only [Act.put, List.setIfInBounds_toArray, List.set_cons_zero, List.set_cons_succ, i64_w, i32_w]
                          rfl
                        refine pure_ (i := 21) (N := some 84) (v := ?_) (a' := ?_) #[true, true, true, true, true, true, true, true, true, true, true, true, true, true, true, true, true, true, true, true, true, true, false, false] rfl rfl (any_of HT_.out (by kernel_rfl)) (fun _ _ _ h => h) (Or.inl ⟨by rfl, ?_⟩) ?_ ?_
                        rotate_left
                        · intro w'
                          go_simp
                          with_reducible rfl
                        rotate_left
                        · simp only [Act.put, List.setIfInBounds_toArray, List.set_cons_zero, List.set_cons_succ, i64_w, i32_w]
                          rfl
                        refine pure_ (i := 22) (N := some 85) (v := ?_) (a' := ?_) #[true, true, true, true, true, true, true, true, true, true, true, true, true, true, true, true, true, true, true, true, true, true, true, false] rfl rfl (any_of HT_.out (by kernel_rfl)) (fun _ _ _ h => h) (Or.inl ⟨by rfl, ?_⟩) ?_ ?_
                        rotate_left
                        · intro w'
                          go_simp
                          with_reducible rfl
                        rotate_left
                        · simp only [Act.put, List.setIfInBounds_toArray, List.set_cons_zero, List.set_cons_succ, i64_w, i32_w]
                          rfl
                        refine last_ (i := 23) (N := none) #[true, true, true, true, true, true, true, true, true, true, true, true, true, true, true, true, true, true, true, true, true, true, true, true] rfl rfl (one_of HT_.out (by kernel_rfl)) (by decide) (fun K hK => ?_)
                        refine skip_ (w1 := ?_) (by rfl) rfl ?_ ?_
                        rotate_left
                        · go_simp
                          rfl
                        refine hK.out _ _ ?_
                        clear hK K
                        refine done_ (done_of HT_.out (by kernel_rfl)) ?_
                        have n0_ : Aside0 (Kd.R (Kd.int .i64) 3 (((((((w34.setCell ⟨go28, (a2 : Int).toNat * 7, none⟩ (.int .i64 t304)).setCell ⟨go28, (a2 : Int).toNat * 7 + 1, none⟩ (.int .i64 (wrap64 (t305 + a3)))).setCell ⟨go28, (a2 : Int).toNat * 7 + 2, none⟩ (.int .i64 ((rd_T45 l1 a2).f0.f2))).setCell ⟨go28, (a2 : Int).toNat * 7 + 3, none⟩ (.int .i64 ((rd_T45 l1 a2).f0.f3))).setCell ⟨go28, (a2 : Int).toNat * 7 + 4, none⟩ (.int .i64 1)).setCell ⟨go28, (a2 : Int).toNat * 7 + 5, none⟩ (.int .i64 1)).setCell ⟨go28, (a2 : Int).toNat * 7 + 6, none⟩ (.bool false)) w.heap.size (fun _ => True) v302 t301) := ⟨by (with_reducible repeat (first | apply Kd.R_alloc | apply Kd.R_drewN | apply Kd.R_drew)); exact Kd.R_mono (Kd.R_far (p := ⟨go28, (a2 : Int).toNat * 7 + 6, none⟩) (Kd.R_far (p := ⟨go28, (a2 : Int).toNat * 7 + 5, none⟩) (Kd.R_far (p := ⟨go28, (a2 : Int).toNat * 7 + 4, none⟩) (Kd.R_far (p := ⟨go28, (a2 : Int).toNat * 7 + 3, none⟩) (Kd.R_far (p := ⟨go28, (a2 : Int).toNat * 7 + 2, none⟩) (Kd.R_far (p := ⟨go28, (a2 : Int).toNat * 7 + 1, none⟩) (Kd.R_far (p := ⟨go28, (a2 : Int).toNat * 7, none⟩) (Kd.R_types HO_9.out GG28.out (by decide)) (fun _ hk => hk.2) (.int .i64 t304)) (fun _ hk => hk.2) (.int .i64 (wrap64 (t305 + a3)))) (fun _ hk => hk.2) (.int .i64 ((rd_T45 l1 a2).f0.f2))) (fun _ hk => hk.2) (.int .i64 ((rd_T45 l1 a2).f0.f3))) (fun _ hk => hk.2) (.int .i64 1)) (fun _ hk => hk.2) (.int .i64 1)) (fun _ hk => hk.2) (.bool false)) (fun _ hk => trivial)⟩
                        have n1_ : Aside0 (Kd.R k45 45 (((((((w34.setCell ⟨go28, (a2 : Int).toNat * 7, none⟩ (.int .i64 t304)).setCell ⟨go28, (a2 : Int).toNat * 7 + 1, none⟩ (.int .i64 (wrap64 (t305 + a3)))).setCell ⟨go28, (a2 : Int).toNat * 7 + 2, none⟩ (.int .i64 ((rd_T45 l1 a2).f0.f2))).setCell ⟨go28, (a2 : Int).toNat * 7 + 3, none⟩ (.int .i64 ((rd_T45 l1 a2).f0.f3))).setCell ⟨go28, (a2 : Int).toNat * 7 + 4, none⟩ (.int .i64 1)).setCell ⟨go28, (a2 : Int).toNat * 7 + 5, none⟩ (.int .i64 1)).setCell ⟨go28, (a2 : Int).toNat * 7 + 6, none⟩ (.bool false)) w.heap.size (fun _ => True) (.slice (some ⟨go28, 0, none⟩) y313.length co28) y318) := ⟨by (with_reducible repeat (first | apply Kd.R_alloc | apply Kd.R_drewN | apply Kd.R_drew)); exact HQ35.out⟩
                        have n2_ : Aside0 ((((((((w34.setCell ⟨go28, (a2 : Int).toNat * 7, none⟩ (.int .i64 t304)).setCell ⟨go28, (a2 : Int).toNat * 7 + 1, none⟩ (.int .i64 (wrap64 (t305 + a3)))).setCell ⟨go28, (a2 : Int).toNat * 7 + 2, none⟩ (.int .i64 ((rd_T45 l1 a2).f0.f2))).setCell ⟨go28, (a2 : Int).toNat * 7 + 3, none⟩ (.int .i64 ((rd_T45 l1 a2).f0.f3))).setCell ⟨go28, (a2 : Int).toNat * 7 + 4, none⟩ (.int .i64 1)).setCell ⟨go28, (a2 : Int).toNat * 7 + 5, none⟩ (.int .i64 1)).setCell ⟨go28, (a2 : Int).toNat * 7 + 6, none⟩ (.bool false)).heap[gb309]? = some (.cells #[.int .i64 t304, .int .i64 t305, .int .i64 t306, .int .i64 t307] 23 (0, 0))) := ⟨by (with_reducible repeat (first | refine blk_drewN ?_ _ | refine blk_drew ?_ | refine blk_alloc ?_ _)); refine blk_far ?_ (by have h_ := Kd.R_ne HO315.out BK309.out (by decide); intro e_; exact h_ (by rw [e_]; rfl)) _; (with_reducible repeat (first | refine blk_drewN ?_ _ | refine blk_drew ?_ | refine blk_alloc ?_ _)); refine blk_far ?_ (by have h_ := Kd.R_ne HO315.out BK309.out (by decide); intro e_; exact h_ (by rw [e_]; rfl)) _; (with_reducible repeat (first | refine blk_drewN ?_ _ | refine blk_drew ?_ | refine blk_alloc ?_ _)); refine blk_far ?_ (by have h_ := Kd.R_ne HO315.out BK309.out (by decide); intro e_; exact h_ (by rw [e_]; rfl)) _; (with_reducible repeat (first | refine blk_drewN ?_ _ | refine blk_drew ?_ | refine blk_alloc ?_ _)); refine blk_far ?_ (by have h_ := Kd.R_ne HO315.out BK309.out (by decide); intro e_; exact h_ (by rw [e_]; rfl)) _; (with_reducible repeat (first | refine blk_drewN ?_ _ | refine blk_drew ?_ | refine blk_alloc ?_ _)); refine blk_far ?_ (by have h_ := Kd.R_ne HO315.out BK309.out (by decide); intro e_; exact h_ (by rw [e_]; rfl)) _; (with_reducible repeat (first | refine blk_drewN ?_ _ | refine blk_drew ?_ | refine blk_alloc ?_ _)); refine blk_far ?_ (by have h_ := Kd.R_ne HO315.out BK309.out (by decide); intro e_; exact h_ (by rw [e_]; rfl)) _; (with_reducible repeat (first | refine blk_drewN ?_ _ | refine blk_drew ?_ | refine blk_alloc ?_ _)); refine blk_far ?_ (by have h_ := Kd.R_ne HO315.out BK309.out (by decide); intro e_; exact h_ (by rw [e_]; rfl)) _; (with_reducible repeat (first | refine blk_drewN ?_ _ | refine blk_drew ?_ | refine blk_alloc ?_ _)); exact BK309.out⟩
                        have n3_ : Aside0 (Below w.heap.size w (((((((w34.setCell ⟨go28, (a2 : Int).toNat * 7, none⟩ (.int .i64 t304)).setCell ⟨go28, (a2 : Int).toNat * 7 + 1, none⟩ (.int .i64 (wrap64 (t305 + a3)))).setCell ⟨go28, (a2 : Int).toNat * 7 + 2, none⟩ (.int .i64 ((rd_T45 l1 a2).f0.f2))).setCell ⟨go28, (a2 : Int).toNat * 7 + 3, none⟩ (.int .i64 ((rd_T45 l1 a2).f0.f3))).setCell ⟨go28, (a2 : Int).toNat * 7 + 4, none⟩ (.int .i64 1)).setCell ⟨go28, (a2 : Int).toNat * 7 + 5, none⟩ (.int .i64 1)).setCell ⟨go28, (a2 : Int).toNat * 7 + 6, none⟩ (.bool false))) := ⟨by repeat (first | (with_reducible first | exact HB.out | apply below_alloc | apply pw_below_drewN | apply below_drew1 | refine below_set ?_ GB28.out | refine below_set ?_ GB28.out | refine below_set ?_ GB28.out | refine below_set ?_ GB28.out | refine below_set ?_ GB28.out | refine below_set ?_ GB28.out | refine below_set ?_ GB28.out | refine below_set ?_ GE309.out) | exact HB.out)⟩
                        (try clear HO_9)
                        (try clear HO315)
                        (try clear BK309)
                        (try clear HB)
                        generalize (((((((w34.setCell ⟨go28, (a2 : Int).toNat * 7, none⟩ (.int .i64 t304)).setCell ⟨go28, (a2 : Int).toNat * 7 + 1, none⟩ (.int .i64 (wrap64 (t305 + a3)))).setCell ⟨go28, (a2 : Int).toNat * 7 + 2, none⟩ (.int .i64 ((rd_T45 l1 a2).f0.f2))).setCell ⟨go28, (a2 : Int).toNat * 7 + 3, none⟩ (.int .i64 ((rd_T45 l1 a2).f0.f3))).setCell ⟨go28, (a2 : Int).toNat * 7 + 4, none⟩ (.int .i64 1)).setCell ⟨go28, (a2 : Int).toNat * 7 + 5, none⟩ (.int .i64 1)).setCell ⟨go28, (a2 : Int).toNat * 7 + 6, none⟩ (.bool false)) = w36 at n0_ n1_ n2_ n3_ ⊢
                        have HO_9 := n0_
                        have HO315 := n1_
                        have BK309 := n2_
                        have HB := n3_
                        clear n0_ n1_ n2_ n3_
                        go_upto_region 11 with (first | ((with_reducible refine gate_callee (f := 23) rfl ?_); refine goesL_ (some 89) rfl rfl Try.func23 (by kernel_rfl) rfl #[.int .i64 a0, .slice (some ⟨go28, 0, none⟩) y318.length co28] rfl (by (try simp only [List.map_toArray, List.map_cons, List.map_nil]); first | done | (rw [show y318.length = y313.length from (Kd.R_reads' HO315.out).1.symm] <;> rfl) | rfl | (simp only [List.length_drop, List.length_take]; rfl)) ?_; (with_reducible refine (prio_Roles.calls kj14 a0 _ _ y318 t319 t322 t323 t324 t325 t326 _ ?side1 ?side2 A29.out).mono ?_); (case side1 => repeat (first | exact (Kd.R_reads' HO315.out).2.2 | (with_reducible refine Kd.C_alloc ?_ _) | (with_reducible refine Kd.C_drewN ?_ _) | (with_reducible refine Kd.C_drew ?_))); (case side2 => rw [show y318.length = y313.length from (Kd.R_reads' HO315.out).1.symm]; exact (Kd.R_reads' HO315.out).2.1); rintro e w37 ⟨v320, rfl, ho0, hb⟩; refine ⟨_, rfl, ?_⟩; have n0_ := Aside0.mk (Kd.R_elder' (by (with_reducible repeat (first | apply Kd.R_alloc | apply Kd.R_drewN | apply Kd.R_drew)); exact HO_9.out) (Kd.R_base ho0) hb); have n1_ := Aside0.mk (Kd.R_below (by (with_reducible repeat (first | apply Kd.R_alloc | apply Kd.R_drewN | apply Kd.R_drew)); exact HO315.out) hb); have n2_ := Aside0.mk (Kd.R_lower (Kd.R_new' ho0 (Kd.R_lt (by (with_reducible repeat (first | apply Kd.R_alloc | apply Kd.R_drewN | apply Kd.R_drew)); exact HO_9.out))) (below_size (by repeat (first | (with_reducible first | exact HB.out | apply below_alloc | apply pw_below_drewN | apply below_drew1 | refine below_set ?_ GE309.out) | exact HB.out)))); have n3_ := Aside0.mk (blk_below (g := gb309) (o := .cells #[.int .i64 t304, .int .i64 t305, .int .i64 t306, .int .i64 t307] 23 (0, 0)) (by (with_reducible repeat (first | refine blk_drewN ?_ _ | refine blk_drew ?_ | refine blk_alloc ?_ _)); exact BK309.out) hb); have n4_ := Aside0.mk (below_step (by repeat (first | (with_reducible first | exact HB.out | apply below_alloc | apply pw_below_drewN | apply below_drew1 | refine below_set ?_ GE309.out) | exact HB.out)) hb); clear HO_9; clear HO315; clear BK309; clear HB; have HO_9 := n0_; have HO315 := n1_; have HO321 := n2_; have BK309 := n3_; have HB := n4_; clear n0_ n1_ n2_ n3_ n4_; (try clear hb); (try clear hb2); (try clear hk); (try clear hi); (try clear ho0)) | ((with_reducible refine gate_dst (N := 14) rfl ?_); (try (refine gate_guard (by rfl) ?_; dsimp only)); refine box_event ?hg (N := 14) ?hd (cs := #[.int .i64 0, .int .i64 0, .int .i64 0, .int .i64 0]) (t := 23) ?hr ?_; (case hd => rfl); (case hg => rfl); (case hr => first | (go_simp; done) | (go_simp; rfl)); intro gb327 hg w38 hbox hb; have n0_ := Aside0.mk (Kd.R_below (by (with_reducible repeat (first | apply Kd.R_alloc | apply Kd.R_drewN | apply Kd.R_drew)); exact HO_9.out) hb); have n1_ := Aside0.mk (Kd.R_below (by (with_reducible repeat (first | apply Kd.R_alloc | apply Kd.R_drewN | apply Kd.R_drew)); exact HO315.out) hb); have n2_ := Aside0.mk (Kd.R_below (by (with_reducible repeat (first | apply Kd.R_alloc | apply Kd.R_drewN | apply Kd.R_drew)); exact HO321.out) hb); have n3_ := Aside0.mk (blk_below (g := gb309) (o := .cells #[.int .i64 t304, .int .i64 t305, .int .i64 t306, .int .i64 t307] 23 (0, 0)) (by (with_reducible repeat (first | refine blk_drewN ?_ _ | refine blk_drew ?_ | refine blk_alloc ?_ _)); exact BK309.out) hb); have n4_ := Aside0.mk (below_step (by repeat (first | (with_reducible first | exact HB.out | apply below_alloc | apply pw_below_drewN | apply below_drew1 | refine below_set ?_ GE309.out) | exact HB.out)) hb); have n5_ := Aside0.mk (hbox); have n6_ := Aside0.mk ((by rw [hg]; exact (below_size (by repeat (first | (with_reducible first | exact HB.out | apply below_alloc | apply pw_below_drewN | apply below_drew1 | refine below_set ?_ GE309.out) | exact HB.out))) : w.heap.size ≤ gb327)); have n7_ := Aside0.mk ((by rw [hg]; exact (below_size (by repeat (first | (with_reducible first | exact HB.out | apply below_alloc | apply pw_below_drewN | apply below_drew1 | refine below_set ?_ GE309.out) | exact HB.out))) : w.heap.size ≤ gb327)); have n8_ := Aside0.mk ((by rw [hg]; exact Nat.ne_of_lt (blk_lt (g := gb309) (o := .cells #[.int .i64 t304, .int .i64 t305, .int .i64 t306, .int .i64 t307] 23 (0, 0)) (by (with_reducible repeat (first | refine blk_drewN ?_ _ | refine blk_drew ?_ | refine blk_alloc ?_ _)); exact BK309.out)) : gb309 ≠ gb327)); have n9_ := Aside0.mk ((by rw [hg]; exact Nat.ne_of_gt (blk_lt (g := gb309) (o := .cells #[.int .i64 t304, .int .i64 t305, .int .i64 t306, .int .i64 t307] 23 (0, 0)) (by (with_reducible repeat (first | refine blk_drewN ?_ _ | refine blk_drew ?_ | refine blk_alloc ?_ _)); exact BK309.out)) : gb327 ≠ gb309)); clear HO_9; clear HO315; clear HO321; clear BK309; clear HB; have HO_9 := n0_; have HO315 := n1_; have HO321 := n2_; have BK309 := n3_; have HB := n4_; have BK327 := n5_; have GW327 := n6_; have GE327 := n7_; have NB309_327 := n8_; have NB327_309 := n9_; clear n0_ n1_ n2_ n3_ n4_ n5_ n6_ n7_ n8_ n9_; clear hb hbox hg; have hnb39 := NB327_309.out; have hnc39 := NB309_327.out; have hcz40_0 : w38.cell? ⟨gb327, 0, none⟩ = some (.int .i64 0) := (blk_cell BK327.out 0).trans rfl; have hcz40_1 : w38.cell? ⟨gb327, 1, none⟩ = some (.int .i64 0) := (blk_cell BK327.out 1).trans rfl; have hcz40_2 : w38.cell? ⟨gb327, 2, none⟩ = some (.int .i64 0) := (blk_cell BK327.out 2).trans rfl; have hcz40_3 : w38.cell? ⟨gb327, 3, none⟩ = some (.int .i64 0) := (blk_cell BK327.out 3).trans rfl; have hfz40_0 := blk_frozen BK327.out 0; have hfz40_1 := blk_frozen BK327.out 1; have hfz40_2 := blk_frozen BK327.out 2; have hfz40_3 := blk_frozen BK327.out 3))
                        (try simp only [Act.put, List.setIfInBounds_toArray, List.set_cons_zero, List.set_cons_succ])
                        go_cut [107] (fun v107 wc => ∃ (kq : Nat) (x107_29 : Bool), v107 = .bool x107_29 ∧ Aside0 (kissgatelaw10_PrioWorse.j2 kq a2 t301 t319 x107_29 = some r) ∧ Aside0 (kq ≤ kj14) ∧ Aside0 (Kd.R (Kd.int .i64) 3 wc w.heap.size (fun k_ => some k_ ≠ (v320 : Value).ownBlock) v302 t301) ∧ Aside0 (Kd.R (Kd.int .i64) 3 wc w.heap.size (fun k_ => some k_ ≠ (v302 : Value).ownBlock) v320 t319) ∧ Aside0 (wc.heap[gb309]? = some (.cells #[.int .i64 t304, .int .i64 t305, .int .i64 t306, .int .i64 t307] 23 (0, 0))) ∧ Aside0 (wc.heap[gb327]? = some (.cells #[.int .i64 t322, .int .i64 t323, .int .i64 t324, .int .i64 t325] 23 (0, 0))) ∧ Aside0 (Below w.heap.size w wc))
                        case first =>
                          have H := HC30.out
                          clear HC30
                          by_cases c41 : (!(t322 == t304) || (!(t323 == t305) || (!(t324 == t306) || (!(t325 == t307))))) = true
                          · rw [if_pos c41] at H
                            have c41b0 : (!(t322 == t304) || (!(t323 == t305) || (!(t324 == t306) || (!(t325 == t307))))) = true := c41
                            clear c41
                            (first | rw [c41b0] | (simp only [i64_w, i32_w]; rw [c41b0]) | skip)
                            have H' := Aside0.mk H
                            clear H
                            have hnb42 := NB327_309.out
                            have hnc42 := NB309_327.out
                            have hcz43_0 : w38.cell? ⟨gb327, 0, none⟩ = some (.int .i64 0) := (blk_cell BK327.out 0).trans rfl
                            have hcz43_1 : w38.cell? ⟨gb327, 1, none⟩ = some (.int .i64 0) := (blk_cell BK327.out 1).trans rfl
                            have hcz43_2 : w38.cell? ⟨gb327, 2, none⟩ = some (.int .i64 0) := (blk_cell BK327.out 2).trans rfl
                            have hcz43_3 : w38.cell? ⟨gb327, 3, none⟩ = some (.int .i64 0) := (blk_cell BK327.out 3).trans rfl
                            have hfz43_0 := blk_frozen BK327.out 0
                            have hfz43_1 := blk_frozen BK327.out 1
                            have hfz43_2 := blk_frozen BK327.out 2
                            have hfz43_3 := blk_frozen BK327.out 3
                            have hcz44_0 : w38.cell? ⟨gb309, 0, none⟩ = some (.int .i64 t304) := (blk_cell BK309.out 0).trans rfl
                            have hcz44_1 : w38.cell? ⟨gb309, 1, none⟩ = some (.int .i64 t305) := (blk_cell BK309.out 1).trans rfl
                            have hcz44_2 : w38.cell? ⟨gb309, 2, none⟩ = some (.int .i64 t306) := (blk_cell BK309.out 2).trans rfl
                            have hcz44_3 : w38.cell? ⟨gb309, 3, none⟩ = some (.int .i64 t307) := (blk_cell BK309.out 3).trans rfl
                            have hfz44_0 := blk_frozen BK309.out 0
                            have hfz44_1 := blk_frozen BK309.out 1
                            have hfz44_2 := blk_frozen BK309.out 2
                            have hfz44_3 := blk_frozen BK309.out 3
                            go_wp2
                            go_meet
                            case rel => exact ⟨_, (true), (by first | rfl | (simp; done) | (simp [*]; done)), H', ⟨by have := HJ6.out; have := HJ14.out; first | omega | exact Nat.le_refl _⟩, ⟨by (with_reducible repeat (first | apply Kd.R_alloc | apply Kd.R_drewN | apply Kd.R_drew)); exact Kd.R_mono (Kd.R_far (p := ⟨gb327, 3, none⟩) (Kd.R_far (p := ⟨gb327, 2, none⟩) (Kd.R_far (p := ⟨gb327, 1, none⟩) (Kd.R_far (p := ⟨gb327, 0, none⟩) (Kd.R_types HO_9.out BK327.out (by decide)) (fun _ hk => hk.2) (.int .i64 t322)) (fun _ hk => hk.2) (.int .i64 t323)) (fun _ hk => hk.2) (.int .i64 t324)) (fun _ hk => hk.2) (.int .i64 t325)) (fun _ hk => hk.1.2)⟩, ⟨by (with_reducible repeat (first | apply Kd.R_alloc | apply Kd.R_drewN | apply Kd.R_drew)); exact Kd.R_mono (Kd.R_far (p := ⟨gb327, 3, none⟩) (Kd.R_far (p := ⟨gb327, 2, none⟩) (Kd.R_far (p := ⟨gb327, 1, none⟩) (Kd.R_far (p := ⟨gb327, 0, none⟩) (Kd.R_types HO321.out BK327.out (by decide)) (fun _ hk => hk.2) (.int .i64 t322)) (fun _ hk => hk.2) (.int .i64 t323)) (fun _ hk => hk.2) (.int .i64 t324)) (fun _ hk => hk.2) (.int .i64 t325)) (fun _ hk => hk.1.2)⟩, ⟨by (with_reducible repeat (first | refine blk_drewN ?_ _ | refine blk_drew ?_ | refine blk_alloc ?_ _)); refine blk_far ?_ NB309_327.out _; (with_reducible repeat (first | refine blk_drewN ?_ _ | refine blk_drew ?_ | refine blk_alloc ?_ _)); refine blk_far ?_ NB309_327.out _; (with_reducible repeat (first | refine blk_drewN ?_ _ | refine blk_drew ?_ | refine blk_alloc ?_ _)); refine blk_far ?_ NB309_327.out _; (with_reducible repeat (first | refine blk_drewN ?_ _ | refine blk_drew ?_ | refine blk_alloc ?_ _)); refine blk_far ?_ NB309_327.out _; (with_reducible repeat (first | refine blk_drewN ?_ _ | refine blk_drew ?_ | refine blk_alloc ?_ _)); exact BK309.out⟩, ⟨by (with_reducible repeat (first | refine blk_drewN ?_ _ | refine blk_drew ?_ | refine blk_alloc ?_ _)); refine blk_put (cs := #[.int .i64 t322, .int .i64 t323, .int .i64 t324, .int .i64 0]) ?_ 3 _ rfl; (with_reducible repeat (first | refine blk_drewN ?_ _ | refine blk_drew ?_ | refine blk_alloc ?_ _)); refine blk_put (cs := #[.int .i64 t322, .int .i64 t323, .int .i64 0, .int .i64 0]) ?_ 2 _ rfl; (with_reducible repeat (first | refine blk_drewN ?_ _ | refine blk_drew ?_ | refine blk_alloc ?_ _)); refine blk_put (cs := #[.int .i64 t322, .int .i64 0, .int .i64 0, .int .i64 0]) ?_ 1 _ rfl; (with_reducible repeat (first | refine blk_drewN ?_ _ | refine blk_drew ?_ | refine blk_alloc ?_ _)); refine blk_put (cs := #[.int .i64 0, .int .i64 0, .int .i64 0, .int .i64 0]) ?_ 0 _ rfl; (with_reducible repeat (first | refine blk_drewN ?_ _ | refine blk_drew ?_ | refine blk_alloc ?_ _)); exact BK327.out⟩, ⟨by repeat (first | (with_reducible first | exact HB.out | apply below_alloc | apply pw_below_drewN | apply below_drew1 | refine below_set ?_ GE309.out | refine below_set ?_ GE327.out) | exact HB.out)⟩⟩
                          · rw [if_neg c41] at H
                            have c41b0 : (!(t322 == t304) || (!(t323 == t305) || (!(t324 == t306) || (!(t325 == t307))))) = false := by simpa using c41
                            clear c41
                            (first | rw [c41b0] | (simp only [i64_w, i32_w]; rw [c41b0]) | skip)
                            by_cases c45 : t326 = t308
                            · rw [if_pos c45] at H
                              have c45b0 : (t326 == t308) = true := beq_iff_eq.mpr c45
                              have c45b1 : (t326 != t308) = false := bne_eq_false_iff_eq.mpr c45
                              clear c45
                              by_cases c46 : a2 < (t319.length : Int)
                              · rw [if_pos c46] at H
                                have c46b0 : decide (a2 < (t319.length : Int)) = true := decide_eq_true c46
                                clear c46
                                have H' := Aside0.mk H
                                clear H
                                have hnb47 := NB327_309.out
                                have hnc47 := NB309_327.out
                                have hcz48_0 : w38.cell? ⟨gb327, 0, none⟩ = some (.int .i64 0) := (blk_cell BK327.out 0).trans rfl
                                have hcz48_1 : w38.cell? ⟨gb327, 1, none⟩ = some (.int .i64 0) := (blk_cell BK327.out 1).trans rfl
                                have hcz48_2 : w38.cell? ⟨gb327, 2, none⟩ = some (.int .i64 0) := (blk_cell BK327.out 2).trans rfl
                                have hcz48_3 : w38.cell? ⟨gb327, 3, none⟩ = some (.int .i64 0) := (blk_cell BK327.out 3).trans rfl
                                have hfz48_0 := blk_frozen BK327.out 0
                                have hfz48_1 := blk_frozen BK327.out 1
                                have hfz48_2 := blk_frozen BK327.out 2
                                have hfz48_3 := blk_frozen BK327.out 3
                                have hcz49_0 : w38.cell? ⟨gb309, 0, none⟩ = some (.int .i64 t304) := (blk_cell BK309.out 0).trans rfl
                                have hcz49_1 : w38.cell? ⟨gb309, 1, none⟩ = some (.int .i64 t305) := (blk_cell BK309.out 1).trans rfl
                                have hcz49_2 : w38.cell? ⟨gb309, 2, none⟩ = some (.int .i64 t306) := (blk_cell BK309.out 2).trans rfl
                                have hcz49_3 : w38.cell? ⟨gb309, 3, none⟩ = some (.int .i64 t307) := (blk_cell BK309.out 3).trans rfl
                                have hfz49_0 := blk_frozen BK309.out 0
                                have hfz49_1 := blk_frozen BK309.out 1
                                have hfz49_2 := blk_frozen BK309.out 2
                                have hfz49_3 := blk_frozen BK309.out 3
                                obtain ⟨Ao50, co50, eo50⟩ := Kd.R_slice HO321.out
                                subst eo50
                                have p328 : 0 ≤ (a2 : Int) := of_decide_eq_true (by first | (with_reducible assumption) | assumption)
                                have q328 : a2 < (t319.length : Int) := of_decide_eq_true (by first | (with_reducible assumption) | assumption)
                                obtain ⟨ad328, e328, hx328_0⟩ := Kd.at_int (Kd.R_reads' HO321.out).2.2 a2 p328 q328
                                cases e328
                                have hn328_0 : ad328.block ≠ gb327 := Kd.own_blk (Kd.R_ne HO321.out BK327.out (by decide))
                                have hn328_1 : ad328.block ≠ gb327 := Kd.own_blk (Kd.R_ne HO321.out BK327.out (by decide))
                                have hn328_2 : ad328.block ≠ gb327 := Kd.own_blk (Kd.R_ne HO321.out BK327.out (by decide))
                                have hn328_3 : ad328.block ≠ gb327 := Kd.own_blk (Kd.R_ne HO321.out BK327.out (by decide))
                                replace hx328_0 := (cell_far (p := ⟨gb327, 0, none⟩) (by first | (rw [add_block]; exact hn328_0) | (show (Addr.add _ _).block ≠ _; rw [add_block]; exact hn328_0) | exact hn328_0) (.int .i64 t322)).trans hx328_0
                                replace hx328_0 := (cell_far (p := ⟨gb327, 1, none⟩) (by first | (rw [add_block]; exact hn328_1) | (show (Addr.add _ _).block ≠ _; rw [add_block]; exact hn328_1) | exact hn328_1) (.int .i64 t323)).trans hx328_0
                                replace hx328_0 := (cell_far (p := ⟨gb327, 2, none⟩) (by first | (rw [add_block]; exact hn328_2) | (show (Addr.add _ _).block ≠ _; rw [add_block]; exact hn328_2) | exact hn328_2) (.int .i64 t324)).trans hx328_0
                                replace hx328_0 := (cell_far (p := ⟨gb327, 3, none⟩) (by first | (rw [add_block]; exact hn328_3) | (show (Addr.add _ _).block ≠ _; rw [add_block]; exact hn328_3) | exact hn328_3) (.int .i64 t325)).trans hx328_0
                                clear hn328_0
                                clear hn328_1
                                clear hn328_2
                                clear hn328_3
                                replace p328 := eq_true p328
                                replace q328 := eq_true q328
                                go_wp2
                                go_meet
                                case rel => exact ⟨_, (((rd t319 a2) != 2)), (by first | rfl | (simp; done) | (simp [*]; done)), H', ⟨by have := HJ6.out; have := HJ14.out; first | omega | exact Nat.le_refl _⟩, ⟨by (with_reducible repeat (first | apply Kd.R_alloc | apply Kd.R_drewN | apply Kd.R_drew)); exact Kd.R_mono (Kd.R_far (p := ⟨gb327, 3, none⟩) (Kd.R_far (p := ⟨gb327, 2, none⟩) (Kd.R_far (p := ⟨gb327, 1, none⟩) (Kd.R_far (p := ⟨gb327, 0, none⟩) (Kd.R_types HO_9.out BK327.out (by decide)) (fun _ hk => hk.2) (.int .i64 t322)) (fun _ hk => hk.2) (.int .i64 t323)) (fun _ hk => hk.2) (.int .i64 t324)) (fun _ hk => hk.2) (.int .i64 t325)) (fun _ hk => hk.1.2)⟩, ⟨by (with_reducible repeat (first | apply Kd.R_alloc | apply Kd.R_drewN | apply Kd.R_drew)); exact Kd.R_mono (Kd.R_far (p := ⟨gb327, 3, none⟩) (Kd.R_far (p := ⟨gb327, 2, none⟩) (Kd.R_far (p := ⟨gb327, 1, none⟩) (Kd.R_far (p := ⟨gb327, 0, none⟩) (Kd.R_types HO321.out BK327.out (by decide)) (fun _ hk => hk.2) (.int .i64 t322)) (fun _ hk => hk.2) (.int .i64 t323)) (fun _ hk => hk.2) (.int .i64 t324)) (fun _ hk => hk.2) (.int .i64 t325)) (fun _ hk => hk.1.2)⟩, ⟨by (with_reducible repeat (first | refine blk_drewN ?_ _ | refine blk_drew ?_ | refine blk_alloc ?_ _)); refine blk_far ?_ NB309_327.out _; (with_reducible repeat (first | refine blk_drewN ?_ _ | refine blk_drew ?_ | refine blk_alloc ?_ _)); refine blk_far ?_ NB309_327.out _; (with_reducible repeat (first | refine blk_drewN ?_ _ | refine blk_drew ?_ | refine blk_alloc ?_ _)); refine blk_far ?_ NB309_327.out _; (with_reducible repeat (first | refine blk_drewN ?_ _ | refine blk_drew ?_ | refine blk_alloc ?_ _)); refine blk_far ?_ NB309_327.out _; (with_reducible repeat (first | refine blk_drewN ?_ _ | refine blk_drew ?_ | refine blk_alloc ?_ _)); exact BK309.out⟩, ⟨by (with_reducible repeat (first | refine blk_drewN ?_ _ | refine blk_drew ?_ | refine blk_alloc ?_ _)); refine blk_put (cs := #[.int .i64 t322, .int .i64 t323, .int .i64 t324, .int .i64 0]) ?_ 3 _ rfl; (with_reducible repeat (first | refine blk_drewN ?_ _ | refine blk_drew ?_ | refine blk_alloc ?_ _)); refine blk_put (cs := #[.int .i64 t322, .int .i64 t323, .int .i64 0, .int .i64 0]) ?_ 2 _ rfl; (with_reducible repeat (first | refine blk_drewN ?_ _ | refine blk_drew ?_ | refine blk_alloc ?_ _)); refine blk_put (cs := #[.int .i64 t322, .int .i64 0, .int .i64 0, .int .i64 0]) ?_ 1 _ rfl; (with_reducible repeat (first | refine blk_drewN ?_ _ | refine blk_drew ?_ | refine blk_alloc ?_ _)); refine blk_put (cs := #[.int .i64 0, .int .i64 0, .int .i64 0, .int .i64 0]) ?_ 0 _ rfl; (with_reducible repeat (first | refine blk_drewN ?_ _ | refine blk_drew ?_ | refine blk_alloc ?_ _)); exact BK327.out⟩, ⟨by repeat (first | (with_reducible first | exact HB.out | apply below_alloc | apply pw_below_drewN | apply below_drew1 | refine below_set ?_ GE309.out | refine below_set ?_ GE327.out) | exact HB.out)⟩⟩
                              · rw [if_neg c46] at H
                                exact absurd H (by simp)
                            · rw [if_neg c45] at H
                              have c45b0 : (t326 == t308) = false := beq_eq_false_iff_ne.mpr c45
                              have c45b1 : (t326 != t308) = true := bne_iff_ne.mpr c45
                              have H' := Aside0.mk H
                              clear H
                              have hnb51 := NB327_309.out
                              have hnc51 := NB309_327.out
                              have hcz52_0 : w38.cell? ⟨gb327, 0, none⟩ = some (.int .i64 0) := (blk_cell BK327.out 0).trans rfl
                              have hcz52_1 : w38.cell? ⟨gb327, 1, none⟩ = some (.int .i64 0) := (blk_cell BK327.out 1).trans rfl
                              have hcz52_2 : w38.cell? ⟨gb327, 2, none⟩ = some (.int .i64 0) := (blk_cell BK327.out 2).trans rfl
                              have hcz52_3 : w38.cell? ⟨gb327, 3, none⟩ = some (.int .i64 0) := (blk_cell BK327.out 3).trans rfl
                              have hfz52_0 := blk_frozen BK327.out 0
                              have hfz52_1 := blk_frozen BK327.out 1
                              have hfz52_2 := blk_frozen BK327.out 2
                              have hfz52_3 := blk_frozen BK327.out 3
                              have hcz53_0 : w38.cell? ⟨gb309, 0, none⟩ = some (.int .i64 t304) := (blk_cell BK309.out 0).trans rfl
                              have hcz53_1 : w38.cell? ⟨gb309, 1, none⟩ = some (.int .i64 t305) := (blk_cell BK309.out 1).trans rfl
                              have hcz53_2 : w38.cell? ⟨gb309, 2, none⟩ = some (.int .i64 t306) := (blk_cell BK309.out 2).trans rfl
                              have hcz53_3 : w38.cell? ⟨gb309, 3, none⟩ = some (.int .i64 t307) := (blk_cell BK309.out 3).trans rfl
                              have hfz53_0 := blk_frozen BK309.out 0
                              have hfz53_1 := blk_frozen BK309.out 1
                              have hfz53_2 := blk_frozen BK309.out 2
                              have hfz53_3 := blk_frozen BK309.out 3
                              go_wp2
                              go_meet
                              case rel => exact ⟨_, (true), (by first | rfl | (simp; done) | (simp [*]; done)), H', ⟨by have := HJ6.out; have := HJ14.out; first | omega | exact Nat.le_refl _⟩, ⟨by (with_reducible repeat (first | apply Kd.R_alloc | apply Kd.R_drewN | apply Kd.R_drew)); exact Kd.R_mono (Kd.R_far (p := ⟨gb327, 3, none⟩) (Kd.R_far (p := ⟨gb327, 2, none⟩) (Kd.R_far (p := ⟨gb327, 1, none⟩) (Kd.R_far (p := ⟨gb327, 0, none⟩) (Kd.R_types HO_9.out BK327.out (by decide)) (fun _ hk => hk.2) (.int .i64 t322)) (fun _ hk => hk.2) (.int .i64 t323)) (fun _ hk => hk.2) (.int .i64 t324)) (fun _ hk => hk.2) (.int .i64 t325)) (fun _ hk => hk.1.2)⟩, ⟨by (with_reducible repeat (first | apply Kd.R_alloc | apply Kd.R_drewN | apply Kd.R_drew)); exact Kd.R_mono (Kd.R_far (p := ⟨gb327, 3, none⟩) (Kd.R_far (p := ⟨gb327, 2, none⟩) (Kd.R_far (p := ⟨gb327, 1, none⟩) (Kd.R_far (p := ⟨gb327, 0, none⟩) (Kd.R_types HO321.out BK327.out (by decide)) (fun _ hk => hk.2) (.int .i64 t322)) (fun _ hk => hk.2) (.int .i64 t323)) (fun _ hk => hk.2) (.int .i64 t324)) (fun _ hk => hk.2) (.int .i64 t325)) (fun _ hk => hk.1.2)⟩, ⟨by (with_reducible repeat (first | refine blk_drewN ?_ _ | refine blk_drew ?_ | refine blk_alloc ?_ _)); refine blk_far ?_ NB309_327.out _; (with_reducible repeat (first | refine blk_drewN ?_ _ | refine blk_drew ?_ | refine blk_alloc ?_ _)); refine blk_far ?_ NB309_327.out _; (with_reducible repeat (first | refine blk_drewN ?_ _ | refine blk_drew ?_ | refine blk_alloc ?_ _)); refine blk_far ?_ NB309_327.out _; (with_reducible repeat (first | refine blk_drewN ?_ _ | refine blk_drew ?_ | refine blk_alloc ?_ _)); refine blk_far ?_ NB309_327.out _; (with_reducible repeat (first | refine blk_drewN ?_ _ | refine blk_drew ?_ | refine blk_alloc ?_ _)); exact BK309.out⟩, ⟨by (with_reducible repeat (first | refine blk_drewN ?_ _ | refine blk_drew ?_ | refine blk_alloc ?_ _)); refine blk_put (cs := #[.int .i64 t322, .int .i64 t323, .int .i64 t324, .int .i64 0]) ?_ 3 _ rfl; (with_reducible repeat (first | refine blk_drewN ?_ _ | refine blk_drew ?_ | refine blk_alloc ?_ _)); refine blk_put (cs := #[.int .i64 t322, .int .i64 t323, .int .i64 0, .int .i64 0]) ?_ 2 _ rfl; (with_reducible repeat (first | refine blk_drewN ?_ _ | refine blk_drew ?_ | refine blk_alloc ?_ _)); refine blk_put (cs := #[.int .i64 t322, .int .i64 0, .int .i64 0, .int .i64 0]) ?_ 1 _ rfl; (with_reducible repeat (first | refine blk_drewN ?_ _ | refine blk_drew ?_ | refine blk_alloc ?_ _)); refine blk_put (cs := #[.int .i64 0, .int .i64 0, .int .i64 0, .int .i64 0]) ?_ 0 _ rfl; (with_reducible repeat (first | refine blk_drewN ?_ _ | refine blk_drew ?_ | refine blk_alloc ?_ _)); exact BK327.out⟩, ⟨by repeat (first | (with_reducible first | exact HB.out | apply below_alloc | apply pw_below_drewN | apply below_drew1 | refine below_set ?_ GE309.out | refine below_set ?_ GE327.out) | exact HB.out)⟩⟩
                        case rest =>
                          clear HC30
                          try clear c1
                          try clear c2
                          try clear p2
                          try clear q2
                          try clear hx2
                          try clear c3
                          try clear p3
                          try clear q3
                          try clear hx3
                          try clear c4
                          try clear c5
                          try clear c6
                          try clear p6
                          try clear c8
                          try clear c9
                          try clear c9b0
                          try clear c9b1
                          try clear c10
                          try clear c10b0
                          try clear c11
                          try clear c11b0
                          try clear c12
                          try clear c12b0
                          try clear c13
                          try clear c19
                          try clear c19b0
                          try clear c19b1
                          try clear c20
                          try clear c20b0
                          try clear c23
                          try clear c24
                          try clear c25
                          try clear c25b0
                          try clear c26
                          try clear c26b0
                          try clear c27
                          try clear c27b0
                          try clear c28
                          try clear p28
                          try clear q28
                          try clear hx28
                          try clear hf28
                          try clear p31
                          try clear q31
                          try clear hx31
                          try clear p32
                          try clear q32
                          try clear hx32
                          try clear c35
                          try clear c39
                          try clear c41
                          try clear c41b0
                          try clear c42
                          try clear c45
                          try clear c45b0
                          try clear c45b1
                          try clear c46
                          try clear c46b0
                          try clear c47
                          try clear c51
                          try clear hcz18_0
                          try clear hcz18_1
                          try clear hcz18_2
                          try clear hcz18_3
                          try clear hcz21_0
                          try clear hcz21_1
                          try clear hcz21_2
                          try clear hcz21_3
                          try clear hcz22_0
                          try clear hcz22_1
                          try clear hcz22_2
                          try clear hcz22_3
                          try clear hcz40_0
                          try clear hcz40_1
                          try clear hcz40_2
                          try clear hcz40_3
                          try clear hcz43_0
                          try clear hcz43_1
                          try clear hcz43_2
                          try clear hcz43_3
                          try clear hcz44_0
                          try clear hcz44_1
                          try clear hcz44_2
                          try clear hcz44_3
                          try clear hcz48_0
                          try clear hcz48_1
                          try clear hcz48_2
                          try clear hcz48_3
                          try clear hcz49_0
                          try clear hcz49_1
                          try clear hcz49_2
                          try clear hcz49_3
                          try clear hcz52_0
                          try clear hcz52_1
                          try clear hcz52_2
                          try clear hcz52_3
                          try clear hcz53_0
                          try clear hcz53_1
                          try clear hcz53_2
                          try clear hcz53_3
                          try clear hfz18_0
                          try clear hfz18_1
                          try clear hfz18_2
                          try clear hfz18_3
                          try clear hfz21_0
                          try clear hfz21_1
                          try clear hfz21_2
                          try clear hfz21_3
                          try clear hfz22_0
                          try clear hfz22_1
                          try clear hfz22_2
                          try clear hfz22_3
                          try clear hfz40_0
                          try clear hfz40_1
                          try clear hfz40_2
                          try clear hfz40_3
                          try clear hfz43_0
                          try clear hfz43_1
                          try clear hfz43_2
                          try clear hfz43_3
                          try clear hfz44_0
                          try clear hfz44_1
                          try clear hfz44_2
                          try clear hfz44_3
                          try clear hfz48_0
                          try clear hfz48_1
                          try clear hfz48_2
                          try clear hfz48_3
                          try clear hfz49_0
                          try clear hfz49_1
                          try clear hfz49_2
                          try clear hfz49_3
                          try clear hfz52_0
                          try clear hfz52_1
                          try clear hfz52_2
                          try clear hfz52_3
                          try clear hfz53_0
                          try clear hfz53_1
                          try clear hfz53_2
                          try clear hfz53_3
                          try clear hx28_0
                          try clear hx28_1
                          try clear hx28_2
                          try clear hx28_3
                          try clear hx28_4
                          try clear hx28_5
                          try clear hx28_6
                          try clear hx316_0
                          try clear hx316_1
                          try clear hx316_2
                          try clear hx316_3
                          try clear hx316_4
                          try clear hx316_5
                          try clear hx316_6
                          try clear hx317_0
                          try clear hx317_1
                          try clear hx317_2
                          try clear hx317_3
                          try clear hx317_4
                          try clear hx317_5
                          try clear hx317_6
                          try clear hx328_0
                          try clear p2
                          try clear p28
                          try clear p316
                          try clear p317
                          try clear p328
                          try clear q28
                          try clear q316
                          try clear q317
                          try clear q328
                          obtain ⟨kq, x107_29, rfl, HA, HJ29, HO_9, HO_13, BK309, BK327, HB⟩ := hcut
                          cases kq with
                          | zero => exact absurd HA.out (by simp [kissgatelaw10_PrioWorse.j2])
                          | succ kj29 =>
                            have H := HA.out
                            clear HA
                            simp only [kissgatelaw10_PrioWorse.j2] at H
                            by_cases c54 : x107_29 = true
                            · subst c54
                              have H1 : (some false) = some r := by rw [if_pos rfl] at H; exact H
                              clear H
                              have H := H1
                              clear H1
                              obtain rfl := Option.some.inj H
                              go_wp2
                              go_ret
                              exact ⟨by first | rfl | (simp [errW_none, errW_some] <;> rfl) | (simp [*, errW_none, errW_some] <;> rfl), by repeat (first | (with_reducible first | exact HB.out | apply below_alloc | apply pw_below_drewN | apply below_drew1 | refine below_set ?_ GE309.out | refine below_set ?_ GE327.out) | exact HB.out)⟩
                            · replace c54 := Bool.eq_false_iff.mpr c54
                              subst c54
                              have H1 : (kissgatelaw10_PrioWorse.l0 kj29 a2 t301 t319 (t301.length : Int) 0) = some r := by rw [if_neg (show ¬ (false = true) by decide)] at H; exact H
                              clear H
                              have H := H1
                              clear H1
                              have H' := Aside0.mk H
                              clear H
                              obtain ⟨Ao55, co55, eo55⟩ := Kd.R_slice HO_9.out
                              subst eo55
                              go_wp2
                              go_loopg [110] kj29 (fun kq v110 w' => ∃ (x110_4 : Int), v110 = .int .i64 x110_4 ∧ Aside0 (kissgatelaw10_PrioWorse.l0 kq a2 t301 t319 (t301.length : Int) x110_4 = some r) ∧ Aside0 (kq ≤ kj29) ∧ Aside0 (Kd.R (Kd.int .i64) 3 w' w.heap.size (fun k_ => some k_ ≠ (v320 : Value).ownBlock) (.slice Ao55 t301.length co55) t301) ∧ Aside0 (Kd.R (Kd.int .i64) 3 w' w.heap.size (fun k_ => some k_ ≠ ((.slice Ao55 t301.length co55) : Value).ownBlock) v320 t319) ∧ Aside0 (w'.heap[gb309]? = some (.cells #[.int .i64 t304, .int .i64 t305, .int .i64 t306, .int .i64 t307] 23 (0, 0))) ∧ Aside0 (w'.heap[gb327]? = some (.cells #[.int .i64 t322, .int .i64 t323, .int .i64 t324, .int .i64 t325] 23 (0, 0))) ∧ Aside0 (Below w.heap.size w w'))
                              case atStart => exact ⟨(0), (by first | rfl | (simp; done) | (simp [*]; done)), H', ⟨Nat.le_refl _⟩, ⟨by (with_reducible repeat (first | apply Kd.R_alloc | apply Kd.R_drewN | apply Kd.R_drew)); exact HO_9.out⟩, ⟨by (with_reducible repeat (first | apply Kd.R_alloc | apply Kd.R_drewN | apply Kd.R_drew)); exact HO_13.out⟩, ⟨by (with_reducible repeat (first | refine blk_drewN ?_ _ | refine blk_drew ?_ | refine blk_alloc ?_ _)); exact BK309.out⟩, ⟨by (with_reducible repeat (first | refine blk_drewN ?_ _ | refine blk_drew ?_ | refine blk_alloc ?_ _)); exact BK327.out⟩, ⟨by repeat (first | (with_reducible first | exact HB.out | apply below_alloc | apply pw_below_drewN | apply below_drew1 | refine below_set ?_ GE309.out | refine below_set ?_ GE327.out) | exact HB.out)⟩⟩
                              case round =>
                                clear H'
                                try clear c1
                                try clear c2
                                try clear p2
                                try clear q2
                                try clear hx2
                                try clear c3
                                try clear p3
                                try clear q3
                                try clear hx3
                                try clear c4
                                try clear c5
                                try clear c6
                                try clear p6
                                try clear c8
                                try clear c9
                                try clear c9b0
                                try clear c9b1
                                try clear c10
                                try clear c10b0
                                try clear c11
                                try clear c11b0
                                try clear c12
                                try clear c12b0
                                try clear c13
                                try clear c19
                                try clear c19b0
                                try clear c19b1
                                try clear c20
                                try clear c20b0
                                try clear c23
                                try clear c24
                                try clear c25
                                try clear c25b0
                                try clear c26
                                try clear c26b0
                                try clear c27
                                try clear c27b0
                                try clear c28
                                try clear p28
                                try clear q28
                                try clear hx28
                                try clear hf28
                                try clear p31
                                try clear q31
                                try clear hx31
                                try clear p32
                                try clear q32
                                try clear hx32
                                try clear c35
                                try clear c39
                                try clear c41
                                try clear c41b0
                                try clear c42
                                try clear c45
                                try clear c45b0
                                try clear c45b1
                                try clear c46
                                try clear c46b0
                                try clear c47
                                try clear c51
                                try clear c54
                                try clear hcz18_0
                                try clear hcz18_1
                                try clear hcz18_2
                                try clear hcz18_3
                                try clear hcz21_0
                                try clear hcz21_1
                                try clear hcz21_2
                                try clear hcz21_3
                                try clear hcz22_0
                                try clear hcz22_1
                                try clear hcz22_2
                                try clear hcz22_3
                                try clear hcz40_0
                                try clear hcz40_1
                                try clear hcz40_2
                                try clear hcz40_3
                                try clear hcz43_0
                                try clear hcz43_1
                                try clear hcz43_2
                                try clear hcz43_3
                                try clear hcz44_0
                                try clear hcz44_1
                                try clear hcz44_2
                                try clear hcz44_3
                                try clear hcz48_0
                                try clear hcz48_1
                                try clear hcz48_2
                                try clear hcz48_3
                                try clear hcz49_0
                                try clear hcz49_1
                                try clear hcz49_2
                                try clear hcz49_3
                                try clear hcz52_0
                                try clear hcz52_1
                                try clear hcz52_2
                                try clear hcz52_3
                                try clear hcz53_0
                                try clear hcz53_1
                                try clear hcz53_2
                                try clear hcz53_3
                                try clear hfz18_0
                                try clear hfz18_1
                                try clear hfz18_2
                                try clear hfz18_3
                                try clear hfz21_0
                                try clear hfz21_1
                                try clear hfz21_2
                                try clear hfz21_3
                                try clear hfz22_0
                                try clear hfz22_1
                                try clear hfz22_2
                                try clear hfz22_3
                                try clear hfz40_0
                                try clear hfz40_1
                                try clear hfz40_2
                                try clear hfz40_3
                                try clear hfz43_0
                                try clear hfz43_1
                                try clear hfz43_2
                                try clear hfz43_3
                                try clear hfz44_0
                                try clear hfz44_1
                                try clear hfz44_2
                                try clear hfz44_3
                                try clear hfz48_0
                                try clear hfz48_1
                                try clear hfz48_2
                                try clear hfz48_3
                                try clear hfz49_0
                                try clear hfz49_1
                                try clear hfz49_2
                                try clear hfz49_3
                                try clear hfz52_0
                                try clear hfz52_1
                                try clear hfz52_2
                                try clear hfz52_3
                                try clear hfz53_0
                                try clear hfz53_1
                                try clear hfz53_2
                                try clear hfz53_3
                                try clear hx28_0
                                try clear hx28_1
                                try clear hx28_2
                                try clear hx28_3
                                try clear hx28_4
                                try clear hx28_5
                                try clear hx28_6
                                try clear hx316_0
                                try clear hx316_1
                                try clear hx316_2
                                try clear hx316_3
                                try clear hx316_4
                                try clear hx316_5
                                try clear hx316_6
                                try clear hx317_0
                                try clear hx317_1
                                try clear hx317_2
                                try clear hx317_3
                                try clear hx317_4
                                try clear hx317_5
                                try clear hx317_6
                                try clear hx328_0
                                try clear p2
                                try clear p28
                                try clear p3
                                try clear p31
                                try clear p316
                                try clear p317
                                try clear p32
                                try clear p328
                                try clear p6
                                try clear q2
                                try clear q28
                                try clear q3
                                try clear q31
                                try clear q316
                                try clear q317
                                try clear q32
                                try clear q328
                                obtain ⟨x110_4, rfl, HA, HK4, HO_9, HO_13, BK309, BK327, HB⟩ := hrel
                                cases gk with
                                | zero => exact absurd HA.out (by simp [kissgatelaw10_PrioWorse.l0])
                                | succ k4 =>
                                  have H := HA.out
                                  clear HA
                                  simp only [kissgatelaw10_PrioWorse.l0] at H
                                  by_cases c56 : x110_4 < (t301.length : Int)
                                  · rw [if_pos c56] at H
                                    have c56b0 : decide (x110_4 < (t301.length : Int)) = true := decide_eq_true c56
                                    clear c56
                                    by_cases c57 : x110_4 = a2
                                    · rw [if_pos c57] at H
                                      have c57b0 : (x110_4 == a2) = true := beq_iff_eq.mpr c57
                                      have c57b1 : (x110_4 != a2) = false := bne_eq_false_iff_eq.mpr c57
                                      clear c57
                                      have H' := Aside0.mk H
                                      clear H
                                      try go_wp2
                                      have n0_ := Aside0.mk (Kd.R_drew HO_9.out)
                                      have n1_ := Aside0.mk (Kd.R_drew HO_13.out)
                                      have n2_ := Aside0.mk (blk_drew BK309.out)
                                      have n3_ := Aside0.mk (blk_drew BK327.out)
                                      have n4_ := Aside0.mk (below_drew1 HB.out)
                                      clear HO_9
                                      clear HO_13
                                      clear BK309
                                      clear BK327
                                      clear HB
                                      have HO_9 := n0_
                                      have HO_13 := n1_
                                      have BK309 := n2_
                                      have BK327 := n3_
                                      have HB := n4_
                                      clear n0_ n1_ n2_ n3_ n4_
                                      refine start_ (n := 14) (S := fun w' => True) (ds := []) #[false, false, false, false, false, false, false, false, false, false, false, false, false, false] (by kernel_rfl) rfl rfl trivial (fun hHeld => ?_); refine with_tabW kissgatelaw10_PrioWorse.tab16 kissgatelaw10_PrioWorse.bits16 (fun HT_ HW_ => ?_)
                                      generalize wr.drew = w58 at HO_9 HO_13 BK309 BK327 HB hHeld ⊢
                                      refine pure_ (i := 0) (N := some 113) (v := ?_) (a' := ?_) #[true, false, false, false, false, false, false, false, false, false, false, false, false, false] rfl rfl (any_of HT_.out (by kernel_rfl)) (fun _ _ _ h => h) (Or.inl ⟨by rfl, ?_⟩) ?_ ?_
                                      rotate_left
                                      · intro w'
                                        go_simp
                                        with_reducible rfl
                                      rotate_left
                                      · simp only [Act.put, List.setIfInBounds_toArray, List.set_cons_zero, List.set_cons_succ, i64_w, i32_w]
                                        rfl
                                      refine pure_ (i := 1) (N := some 114) (v := ?_) (a' := ?_) #[true, true, false, false, false, false, false, false, false, false, false, false, false, false] rfl rfl (any_of HT_.out (by kernel_rfl)) (fun _ _ _ h => h) (Or.inl ⟨by rfl, ?_⟩) ?_ ?_
                                      rotate_left
                                      · intro w'
                                        go_simp
                                        with_reducible rfl
                                      rotate_left
                                      · simp only [Act.put, List.setIfInBounds_toArray, List.set_cons_zero, List.set_cons_succ, i64_w, i32_w]
                                        rfl
                                      refine pure_ (i := 2) (N := some 115) (v := ?_) (a' := ?_) #[true, true, true, false, false, false, false, false, false, false, false, false, false, false] rfl rfl (any_of HT_.out (by kernel_rfl)) (fun _ _ _ h => h) (Or.inl ⟨by rfl, ?_⟩) ?_ ?_
                                      rotate_left
                                      · intro w'
                                        go_simp
                                        with_reducible rfl
                                      rotate_left
                                      · simp only [Act.put, List.setIfInBounds_toArray, List.set_cons_zero, List.set_cons_succ, i64_w, i32_w]
                                        rfl
                                      refine pure_ (i := 3) (N := some 116) (v := ?_) (a' := ?_) #[true, true, true, true, false, false, false, false, false, false, false, false, false, false] rfl rfl (any_of HT_.out (by kernel_rfl)) (fun _ _ _ h => h) (Or.inl ⟨by rfl, ?_⟩) ?_ ?_
                                      rotate_left
                                      · intro w'
                                        go_simp
                                        with_reducible rfl
                                      rotate_left
                                      · simp only [Act.put, List.setIfInBounds_toArray, List.set_cons_zero, List.set_cons_succ, i64_w, i32_w]
                                        rfl
                                      refine pure_ (i := 4) (N := some 117) (v := undef) (a' := ?_) #[true, true, true, true, true, false, false, false, false, false, false, false, false, false] rfl rfl (any_of HT_.out (by kernel_rfl)) (fun _ _ _ h => h) (Or.inr ⟨by rfl, rfl⟩) ?_ ?_
                                      rotate_left
                                      · simp only [Act.put, List.setIfInBounds_toArray, List.set_cons_zero, List.set_cons_succ, i64_w, i32_w]
                                        rfl
                                      refine pure_ (i := 5) (N := some 118) (v := undef) (a' := ?_) #[true, true, true, true, true, true, false, false, false, false, false, false, false, false] rfl rfl (any_of HT_.out (by kernel_rfl)) (fun _ _ _ h => h) (Or.inr ⟨by rfl, rfl⟩) ?_ ?_
                                      rotate_left
                                      · simp only [Act.put, List.setIfInBounds_toArray, List.set_cons_zero, List.set_cons_succ, i64_w, i32_w]
                                        rfl
                                      refine pure_ (i := 6) (N := some 119) (v := undef) (a' := ?_) #[true, true, true, true, true, true, true, false, false, false, false, false, false, false] rfl rfl (any_of HT_.out (by kernel_rfl)) (fun _ _ _ h => h) (Or.inr ⟨by rfl, rfl⟩) ?_ ?_
                                      rotate_left
                                      · simp only [Act.put, List.setIfInBounds_toArray, List.set_cons_zero, List.set_cons_succ, i64_w, i32_w]
                                        rfl
                                      refine pure_ (i := 7) (N := some 120) (v := undef) (a' := ?_) #[true, true, true, true, true, true, true, true, false, false, false, false, false, false] rfl rfl (any_of HT_.out (by kernel_rfl)) (fun _ _ _ h => h) (Or.inr ⟨by rfl, rfl⟩) ?_ ?_
                                      rotate_left
                                      · simp only [Act.put, List.setIfInBounds_toArray, List.set_cons_zero, List.set_cons_succ, i64_w, i32_w]
                                        rfl
                                      refine pure_ (i := 8) (N := some 121) (v := undef) (a' := ?_) #[true, true, true, true, true, true, true, true, true, false, false, false, false, false] rfl rfl (any_of HT_.out (by kernel_rfl)) (fun _ _ _ h => h) (Or.inr ⟨by rfl, rfl⟩) ?_ ?_
                                      rotate_left
                                      · simp only [Act.put, List.setIfInBounds_toArray, List.set_cons_zero, List.set_cons_succ, i64_w, i32_w]
                                        rfl
                                      refine pure_ (i := 9) (N := some 122) (v := undef) (a' := ?_) #[true, true, true, true, true, true, true, true, true, true, false, false, false, false] rfl rfl (any_of HT_.out (by kernel_rfl)) (fun _ _ _ h => h) (Or.inr ⟨by rfl, rfl⟩) ?_ ?_
                                      rotate_left
                                      · simp only [Act.put, List.setIfInBounds_toArray, List.set_cons_zero, List.set_cons_succ, i64_w, i32_w]
                                        rfl
                                      refine pure_ (i := 10) (N := some 123) (v := undef) (a' := ?_) #[true, true, true, true, true, true, true, true, true, true, true, false, false, false] rfl rfl (any_of HT_.out (by kernel_rfl)) (fun _ _ _ h => h) (Or.inr ⟨by rfl, rfl⟩) ?_ ?_
                                      rotate_left
                                      · simp only [Act.put, List.setIfInBounds_toArray, List.set_cons_zero, List.set_cons_succ, i64_w, i32_w]
                                        rfl
                                      refine pure_ (i := 11) (N := some 124) (v := undef) (a' := ?_) #[true, true, true, true, true, true, true, true, true, true, true, true, false, false] rfl rfl (any_of HT_.out (by kernel_rfl)) (fun _ _ _ h => h) (Or.inr ⟨by rfl, rfl⟩) ?_ ?_
                                      rotate_left
                                      · simp only [Act.put, List.setIfInBounds_toArray, List.set_cons_zero, List.set_cons_succ, i64_w, i32_w]
                                        rfl
                                      refine pure_ (i := 12) (N := some 125) (v := undef) (a' := ?_) #[true, true, true, true, true, true, true, true, true, true, true, true, true, false] rfl rfl (any_of HT_.out (by kernel_rfl)) (fun _ _ _ h => h) (Or.inr ⟨by rfl, rfl⟩) ?_ ?_
                                      rotate_left
                                      · simp only [Act.put, List.setIfInBounds_toArray, List.set_cons_zero, List.set_cons_succ, i64_w, i32_w]
                                        rfl
                                      refine pure_ (i := 13) (N := some 126) (v := ?_) (a' := ?_) #[true, true, true, true, true, true, true, true, true, true, true, true, true, true] rfl rfl (any_of HT_.out (by kernel_rfl)) (fun _ _ _ h => h) (Or.inl ⟨by rfl, ?_⟩) ?_ ?_
                                      rotate_left
                                      · intro w'
                                        go_simp
                                        with_reducible rfl
                                      rotate_left
                                      · simp only [Act.put, List.setIfInBounds_toArray, List.set_cons_zero, List.set_cons_succ, i64_w, i32_w]
                                        rfl
                                      refine done_ (done_of HT_.out (by kernel_rfl)) ?_
                                      try go_wp2
                                      go_roundg k4
                                      case measure => have := HJ6.out; have := HJ14.out; have := HJ29.out; have := HK4.out; omega
                                      case rel => exact ⟨(wrap64 (x110_4 + 1)), (by first | rfl | (simp; done) | (simp [*]; done)), H', ⟨by have := HJ6.out; have := HJ14.out; have := HJ29.out; have := HK4.out; omega⟩, ⟨by (with_reducible repeat (first | apply Kd.R_alloc | apply Kd.R_drewN | apply Kd.R_drew)); exact HO_9.out⟩, ⟨by (with_reducible repeat (first | apply Kd.R_alloc | apply Kd.R_drewN | apply Kd.R_drew)); exact HO_13.out⟩, ⟨by (with_reducible repeat (first | refine blk_drewN ?_ _ | refine blk_drew ?_ | refine blk_alloc ?_ _)); exact BK309.out⟩, ⟨by (with_reducible repeat (first | refine blk_drewN ?_ _ | refine blk_drew ?_ | refine blk_alloc ?_ _)); exact BK327.out⟩, ⟨by repeat (first | (with_reducible first | exact HB.out | apply below_alloc | apply pw_below_drewN | apply below_drew1 | refine below_set ?_ GE309.out | refine below_set ?_ GE327.out) | exact HB.out)⟩⟩
                                    · rw [if_neg c57] at H
                                      have c57b0 : (x110_4 == a2) = false := beq_eq_false_iff_ne.mpr c57
                                      have c57b1 : (x110_4 != a2) = true := bne_iff_ne.mpr c57
                                      by_cases c59 : 0 ≤ x110_4
                                      · rw [if_pos c59] at H
                                        have c59b0 : decide (0 ≤ x110_4) = true := decide_eq_true c59
                                        clear c59
                                        by_cases c60 : x110_4 < (t301.length : Int)
                                        · rw [if_pos c60] at H
                                          have c60b0 : decide (x110_4 < (t301.length : Int)) = true := decide_eq_true c60
                                          clear c60
                                          by_cases c61 : x110_4 < (t319.length : Int)
                                          · rw [if_pos c61] at H
                                            have c61b0 : decide (x110_4 < (t319.length : Int)) = true := decide_eq_true c61
                                            clear c61
                                            by_cases c62 : (rd t301 x110_4) = (rd t319 x110_4)
                                            · rw [if_pos c62] at H
                                              have c62b0 : ((rd t301 x110_4) == (rd t319 x110_4)) = true := beq_iff_eq.mpr c62
                                              have c62b1 : ((rd t301 x110_4) != (rd t319 x110_4)) = false := bne_eq_false_iff_eq.mpr c62
                                              clear c62
                                              have H' := Aside0.mk H
                                              clear H
                                              try go_wp2
                                              have n0_ := Aside0.mk (Kd.R_drew HO_9.out)
                                              have n1_ := Aside0.mk (Kd.R_drew HO_13.out)
                                              have n2_ := Aside0.mk (blk_drew BK309.out)
                                              have n3_ := Aside0.mk (blk_drew BK327.out)
                                              have n4_ := Aside0.mk (below_drew1 HB.out)
                                              clear HO_9
                                              clear HO_13
                                              clear BK309
                                              clear BK327
                                              clear HB
                                              have HO_9 := n0_
                                              have HO_13 := n1_
                                              have BK309 := n2_
                                              have BK327 := n3_
                                              have HB := n4_
                                              clear n0_ n1_ n2_ n3_ n4_
                                              have p329 : 0 ≤ (x110_4 : Int) := of_decide_eq_true (by first | (with_reducible assumption) | assumption)
                                              have q329 : x110_4 < (t301.length : Int) := of_decide_eq_true (by first | (with_reducible assumption) | assumption)
                                              obtain ⟨ad329, e329, hx329_0⟩ := Kd.at_int (Kd.R_reads' HO_9.out).2.2 x110_4 p329 q329
                                              cases e329
                                              replace p329 := eq_true p329
                                              replace q329 := eq_true q329
                                              obtain ⟨Ao64, co64, eo64⟩ := Kd.R_slice HO_13.out
                                              (first | subst eo64 | (injection eo64 with f1_ f2_ f3_; have f4_ := f1_.symm; have f5_ := f3_.symm; clear f1_ f2_ f3_; subst f4_; subst f5_))
                                              have p330 : 0 ≤ (x110_4 : Int) := of_decide_eq_true (by first | (with_reducible assumption) | assumption)
                                              have q330 : x110_4 < (t319.length : Int) := of_decide_eq_true (by first | (with_reducible assumption) | assumption)
                                              obtain ⟨ad330, e330, hx330_0⟩ := Kd.at_int (Kd.R_reads' HO_13.out).2.2 x110_4 p330 q330
                                              cases e330
                                              replace p330 := eq_true p330
                                              replace q330 := eq_true q330
                                              refine start_ (n := 14) (S := fun w' => w'.cell? (ad329.add (x110_4).toNat) = some (.int .i64 (rd t301 x110_4)) ∧ w'.cell? (ad330.add (x110_4).toNat) = some (.int .i64 (rd t319 x110_4))) (ds := []) #[false, false, false, false, false, false, false, false, false, false, false, false, false, false] (by kernel_rfl) rfl rfl ⟨hx329_0, hx330_0⟩ (fun hHeld => ?_); refine with_tabW kissgatelaw10_PrioWorse.tab16 kissgatelaw10_PrioWorse.bits16 (fun HT_ HW_ => ?_)
                                              generalize wr.drew = w63 at HO_9 HO_13 BK309 BK327 HB hx329_0 hx330_0 hHeld ⊢
                                              refine pure_ (i := 0) (N := some 113) (v := ?_) (a' := ?_) #[true, false, false, false, false, false, false, false, false, false, false, false, false, false] rfl rfl (any_of HT_.out (by kernel_rfl)) (fun _ _ _ h => h) (Or.inl ⟨by rfl, ?_⟩) ?_ ?_
                                              rotate_left
                                              · intro w'
                                                go_simp
                                                with_reducible rfl
                                              rotate_left
                                              · simp only [Act.put, List.setIfInBounds_toArray, List.set_cons_zero, List.set_cons_succ, i64_w, i32_w]
                                                rfl
                                              refine pure_ (i := 1) (N := some 114) (v := ?_) (a' := ?_) #[true, true, false, false, false, false, false, false, false, false, false, false, false, false] rfl rfl (any_of HT_.out (by kernel_rfl)) (fun _ _ _ h => h) (Or.inl ⟨by rfl, ?_⟩) ?_ ?_
                                              rotate_left
                                              · intro w'
                                                go_simp
                                                with_reducible rfl
                                              rotate_left
                                              · simp only [Act.put, List.setIfInBounds_toArray, List.set_cons_zero, List.set_cons_succ, i64_w, i32_w]
                                                rfl
                                              refine pure_ (i := 2) (N := some 115) (v := ?_) (a' := ?_) #[true, true, true, false, false, false, false, false, false, false, false, false, false, false] rfl rfl (any_of HT_.out (by kernel_rfl)) (fun _ _ _ h => h) (Or.inl ⟨by rfl, ?_⟩) ?_ ?_
                                              rotate_left
                                              · intro w'
                                                go_simp
                                                with_reducible rfl
                                              rotate_left
                                              · simp only [Act.put, List.setIfInBounds_toArray, List.set_cons_zero, List.set_cons_succ, i64_w, i32_w]
                                                rfl
                                              refine pure_ (i := 3) (N := some 116) (v := ?_) (a' := ?_) #[true, true, true, true, false, false, false, false, false, false, false, false, false, false] rfl rfl (any_of HT_.out (by kernel_rfl)) (fun _ _ _ h => h) (Or.inl ⟨by rfl, ?_⟩) ?_ ?_
                                              rotate_left
                                              · intro w'
                                                go_simp
                                                with_reducible rfl
                                              rotate_left
                                              · simp only [Act.put, List.setIfInBounds_toArray, List.set_cons_zero, List.set_cons_succ, i64_w, i32_w]
                                                rfl
                                              refine pure_ (i := 4) (N := some 117) (v := ?_) (a' := ?_) #[true, true, true, true, true, false, false, false, false, false, false, false, false, false] rfl rfl (any_of HT_.out (by kernel_rfl)) (fun _ _ _ h => h) (Or.inl ⟨by rfl, ?_⟩) ?_ ?_
                                              rotate_left
                                              · intro w'
                                                go_simp
                                                with_reducible rfl
                                              rotate_left
                                              · simp only [Act.put, List.setIfInBounds_toArray, List.set_cons_zero, List.set_cons_succ, i64_w, i32_w]
                                                rfl
                                              refine pure_ (i := 5) (N := some 118) (v := ?_) (a' := ?_) #[true, true, true, true, true, true, false, false, false, false, false, false, false, false] rfl rfl (any_of HT_.out (by kernel_rfl)) (fun _ _ _ h => h) (Or.inl ⟨by rfl, ?_⟩) ?_ ?_
                                              rotate_left
                                              · intro w'
                                                go_simp
                                                with_reducible rfl
                                              rotate_left
                                              · simp only [Act.put, List.setIfInBounds_toArray, List.set_cons_zero, List.set_cons_succ, i64_w, i32_w]
                                                rfl
                                              refine pure_ (i := 6) (N := some 119) (v := ?_) (a' := ?_) #[true, true, true, true, true, true, true, false, false, false, false, false, false, false] rfl rfl (any_of HT_.out (by kernel_rfl)) (fun _ _ _ h => h) (Or.inl ⟨by rfl, ?_⟩) ?_ ?_
                                              rotate_left
                                              · intro w'
                                                go_simp
                                                with_reducible rfl
                                              rotate_left
                                              · simp only [Act.put, List.setIfInBounds_toArray, List.set_cons_zero, List.set_cons_succ, i64_w, i32_w]
                                                rfl
                                              refine pure_ (i := 8) (N := some 121) (v := ?_) (a' := ?_) #[true, true, true, true, true, true, true, false, true, false, false, false, false, false] rfl rfl (any_of HT_.out (by kernel_rfl)) (fun _ _ _ h => h) (Or.inl ⟨by rfl, ?_⟩) ?_ ?_
                                              rotate_left
                                              · intro w'
                                                go_simp
                                                with_reducible rfl
                                              rotate_left
                                              · simp only [Act.put, List.setIfInBounds_toArray, List.set_cons_zero, List.set_cons_succ, i64_w, i32_w]
                                                rfl
                                              refine pure_ (i := 9) (N := some 122) (v := ?_) (a' := ?_) #[true, true, true, true, true, true, true, false, true, true, false, false, false, false] rfl rfl (any_of HT_.out (by kernel_rfl)) (fun _ _ _ h => h) (Or.inl ⟨by rfl, ?_⟩) ?_ ?_
                                              rotate_left
                                              · intro w'
                                                go_simp
                                                with_reducible rfl
                                              rotate_left
                                              · simp only [Act.put, List.setIfInBounds_toArray, List.set_cons_zero, List.set_cons_succ, i64_w, i32_w]
                                                rfl
                                              refine pure_ (i := 10) (N := some 123) (v := ?_) (a' := ?_) #[true, true, true, true, true, true, true, false, true, true, true, false, false, false] rfl rfl (any_of HT_.out (by kernel_rfl)) (fun _ _ _ h => h) (Or.inl ⟨by rfl, ?_⟩) ?_ ?_
                                              rotate_left
                                              · intro w'
                                                go_simp
                                                with_reducible rfl
                                              rotate_left
                                              · simp only [Act.put, List.setIfInBounds_toArray, List.set_cons_zero, List.set_cons_succ, i64_w, i32_w]
                                                rfl
                                              refine take_ (i := 7) (N := some 120) (v := ?_) (a' := ?_) #[true, true, true, true, true, true, true, true, true, true, true, false, false, false] rfl rfl (take_ofW HT_.out HW_.out (by kernel_rfl)) (fun _ _ _ h => h) (Or.inl ⟨by rfl, ?_⟩) hHeld ?_ ?_
                                              rotate_left
                                              · rintro w' ⟨s0, s1⟩
                                                go_simp
                                                with_reducible rfl
                                              rotate_left
                                              · simp only [Act.put, List.setIfInBounds_toArray, List.set_cons_zero, List.set_cons_succ, i64_w, i32_w]
                                                rfl
                                              refine take_ (i := 11) (N := some 124) (v := ?_) (a' := ?_) #[true, true, true, true, true, true, true, true, true, true, true, true, false, false] rfl rfl (take_ofW HT_.out HW_.out (by kernel_rfl)) (fun _ _ _ h => h) (Or.inl ⟨by rfl, ?_⟩) hHeld ?_ ?_
                                              rotate_left
                                              · rintro w' ⟨s0, s1⟩
                                                go_simp
                                                with_reducible rfl
                                              rotate_left
                                              · simp only [Act.put, List.setIfInBounds_toArray, List.set_cons_zero, List.set_cons_succ, i64_w, i32_w]
                                                rfl
                                              refine pure_ (i := 12) (N := some 125) (v := ?_) (a' := ?_) #[true, true, true, true, true, true, true, true, true, true, true, true, true, false] rfl rfl (any_of HT_.out (by kernel_rfl)) (fun _ _ _ h => h) (Or.inl ⟨by rfl, ?_⟩) ?_ ?_
                                              rotate_left
                                              · intro w'
                                                go_simp
                                                with_reducible rfl
                                              rotate_left
                                              · simp only [Act.put, List.setIfInBounds_toArray, List.set_cons_zero, List.set_cons_succ, i64_w, i32_w]
                                                rfl
                                              refine pure_ (i := 13) (N := some 126) (v := ?_) (a' := ?_) #[true, true, true, true, true, true, true, true, true, true, true, true, true, true] rfl rfl (any_of HT_.out (by kernel_rfl)) (fun _ _ _ h => h) (Or.inl ⟨by rfl, ?_⟩) ?_ ?_
                                              rotate_left
                                              · intro w'
                                                go_simp
                                                with_reducible rfl
                                              rotate_left
                                              · simp only [Act.put, List.setIfInBounds_toArray, List.set_cons_zero, List.set_cons_succ, i64_w, i32_w]
                                                rfl
                                              refine done_ (done_of HT_.out (by kernel_rfl)) ?_
                                              try go_wp2
                                              go_roundg k4
                                              case measure => have := HJ6.out; have := HJ14.out; have := HJ29.out; have := HK4.out; omega
                                              case rel => exact ⟨(wrap64 (x110_4 + 1)), (by first | rfl | (simp; done) | (simp [*]; done)), H', ⟨by have := HJ6.out; have := HJ14.out; have := HJ29.out; have := HK4.out; omega⟩, ⟨by (with_reducible repeat (first | apply Kd.R_alloc | apply Kd.R_drewN | apply Kd.R_drew)); exact HO_9.out⟩, ⟨by (with_reducible repeat (first | apply Kd.R_alloc | apply Kd.R_drewN | apply Kd.R_drew)); exact HO_13.out⟩, ⟨by (with_reducible repeat (first | refine blk_drewN ?_ _ | refine blk_drew ?_ | refine blk_alloc ?_ _)); exact BK309.out⟩, ⟨by (with_reducible repeat (first | refine blk_drewN ?_ _ | refine blk_drew ?_ | refine blk_alloc ?_ _)); exact BK327.out⟩, ⟨by repeat (first | (with_reducible first | exact HB.out | apply below_alloc | apply pw_below_drewN | apply below_drew1 | refine below_set ?_ GE309.out | refine below_set ?_ GE327.out) | exact HB.out)⟩⟩
                                            · rw [if_neg c62] at H
                                              have c62b0 : ((rd t301 x110_4) == (rd t319 x110_4)) = false := beq_eq_false_iff_ne.mpr c62
                                              have c62b1 : ((rd t301 x110_4) != (rd t319 x110_4)) = true := bne_iff_ne.mpr c62
                                              obtain rfl := Option.some.inj H
                                              try go_wp2
                                              have n0_ := Aside0.mk (Kd.R_drew HO_9.out)
                                              have n1_ := Aside0.mk (Kd.R_drew HO_13.out)
                                              have n2_ := Aside0.mk (blk_drew BK309.out)
                                              have n3_ := Aside0.mk (blk_drew BK327.out)
                                              have n4_ := Aside0.mk (below_drew1 HB.out)
                                              clear HO_9
                                              clear HO_13
                                              clear BK309
                                              clear BK327
                                              clear HB
                                              have HO_9 := n0_
                                              have HO_13 := n1_
                                              have BK309 := n2_
                                              have BK327 := n3_
                                              have HB := n4_
                                              clear n0_ n1_ n2_ n3_ n4_
                                              have p329 : 0 ≤ (x110_4 : Int) := of_decide_eq_true (by first | (with_reducible assumption) | assumption)
                                              have q329 : x110_4 < (t301.length : Int) := of_decide_eq_true (by first | (with_reducible assumption) | assumption)
                                              obtain ⟨ad329, e329, hx329_0⟩ := Kd.at_int (Kd.R_reads' HO_9.out).2.2 x110_4 p329 q329
                                              cases e329
                                              replace p329 := eq_true p329
                                              replace q329 := eq_true q329
                                              obtain ⟨Ao66, co66, eo66⟩ := Kd.R_slice HO_13.out
                                              (first | subst eo66 | (injection eo66 with f1_ f2_ f3_; have f4_ := f1_.symm; have f5_ := f3_.symm; clear f1_ f2_ f3_; subst f4_; subst f5_))
                                              have p330 : 0 ≤ (x110_4 : Int) := of_decide_eq_true (by first | (with_reducible assumption) | assumption)
                                              have q330 : x110_4 < (t319.length : Int) := of_decide_eq_true (by first | (with_reducible assumption) | assumption)
                                              obtain ⟨ad330, e330, hx330_0⟩ := Kd.at_int (Kd.R_reads' HO_13.out).2.2 x110_4 p330 q330
                                              cases e330
                                              replace p330 := eq_true p330
                                              replace q330 := eq_true q330
                                              refine start_ (n := 14) (S := fun w' => w'.cell? (ad329.add (x110_4).toNat) = some (.int .i64 (rd t301 x110_4)) ∧ w'.cell? (ad330.add (x110_4).toNat) = some (.int .i64 (rd t319 x110_4))) (ds := []) #[false, false, false, false, false, false, false, false, false, false, false, false, false, false] (by kernel_rfl) rfl rfl ⟨hx329_0, hx330_0⟩ (fun hHeld => ?_); refine with_tabW kissgatelaw10_PrioWorse.tab16 kissgatelaw10_PrioWorse.bits16 (fun HT_ HW_ => ?_)
                                              generalize wr.drew = w65 at HO_9 HO_13 BK309 BK327 HB hx329_0 hx330_0 hHeld ⊢
                                              refine pure_ (i := 0) (N := some 113) (v := ?_) (a' := ?_) #[true, false, false, false, false, false, false, false, false, false, false, false, false, false] rfl rfl (any_of HT_.out (by kernel_rfl)) (fun _ _ _ h => h) (Or.inl ⟨by rfl, ?_⟩) ?_ ?_
                                              rotate_left
                                              · intro w'
                                                go_simp
                                                with_reducible rfl
                                              rotate_left
                                              · simp only [Act.put, List.setIfInBounds_toArray, List.set_cons_zero, List.set_cons_succ, i64_w, i32_w]
                                                rfl
                                              refine pure_ (i := 1) (N := some 114) (v := ?_) (a' := ?_) #[true, true, false, false, false, false, false, false, false, false, false, false, false, false] rfl rfl (any_of HT_.out (by kernel_rfl)) (fun _ _ _ h => h) (Or.inl ⟨by rfl, ?_⟩) ?_ ?_
                                              rotate_left
                                              · intro w'
                                                go_simp
                                                with_reducible rfl
                                              rotate_left
                                              · simp only [Act.put, List.setIfInBounds_toArray, List.set_cons_zero, List.set_cons_succ, i64_w, i32_w]
                                                rfl
                                              refine pure_ (i := 2) (N := some 115) (v := ?_) (a' := ?_) #[true, true, true, false, false, false, false, false, false, false, false, false, false, false] rfl rfl (any_of HT_.out (by kernel_rfl)) (fun _ _ _ h => h) (Or.inl ⟨by rfl, ?_⟩) ?_ ?_
                                              rotate_left
                                              · intro w'
                                                go_simp
                                                with_reducible rfl
                                              rotate_left
                                              · simp only [Act.put, List.setIfInBounds_toArray, List.set_cons_zero, List.set_cons_succ, i64_w, i32_w]
                                                rfl
                                              refine pure_ (i := 3) (N := some 116) (v := ?_) (a' := ?_) #[true, true, true, true, false, false, false, false, false, false, false, false, false, false] rfl rfl (any_of HT_.out (by kernel_rfl)) (fun _ _ _ h => h) (Or.inl ⟨by rfl, ?_⟩) ?_ ?_
                                              rotate_left
                                              · intro w'
                                                go_simp
                                                with_reducible rfl
                                              rotate_left
                                              · simp only [Act.put, List.setIfInBounds_toArray, List.set_cons_zero, List.set_cons_succ, i64_w, i32_w]
                                                rfl
                                              refine pure_ (i := 4) (N := some 117) (v := ?_) (a' := ?_) #[true, true, true, true, true, false, false, false, false, false, false, false, false, false] rfl rfl (any_of HT_.out (by kernel_rfl)) (fun _ _ _ h => h) (Or.inl ⟨by rfl, ?_⟩) ?_ ?_
                                              rotate_left
                                              · intro w'
                                                go_simp
                                                with_reducible rfl
                                              rotate_left
                                              · simp only [Act.put, List.setIfInBounds_toArray, List.set_cons_zero, List.set_cons_succ, i64_w, i32_w]
                                                rfl
                                              refine pure_ (i := 5) (N := some 118) (v := ?_) (a' := ?_) #[true, true, true, true, true, true, false, false, false, false, false, false, false, false] rfl rfl (any_of HT_.out (by kernel_rfl)) (fun _ _ _ h => h) (Or.inl ⟨by rfl, ?_⟩) ?_ ?_
                                              rotate_left
                                              · intro w'
                                                go_simp
                                                with_reducible rfl
                                              rotate_left
                                              · simp only [Act.put, List.setIfInBounds_toArray, List.set_cons_zero, List.set_cons_succ, i64_w, i32_w]
                                                rfl
                                              refine pure_ (i := 6) (N := some 119) (v := ?_) (a' := ?_) #[true, true, true, true, true, true, true, false, false, false, false, false, false, false] rfl rfl (any_of HT_.out (by kernel_rfl)) (fun _ _ _ h => h) (Or.inl ⟨by rfl, ?_⟩) ?_ ?_
                                              rotate_left
                                              · intro w'
                                                go_simp
                                                with_reducible rfl
                                              rotate_left
                                              · simp only [Act.put, List.setIfInBounds_toArray, List.set_cons_zero, List.set_cons_succ, i64_w, i32_w]
                                                rfl
                                              refine pure_ (i := 8) (N := some 121) (v := ?_) (a' := ?_) #[true, true, true, true, true, true, true, false, true, false, false, false, false, false] rfl rfl (any_of HT_.out (by kernel_rfl)) (fun _ _ _ h => h) (Or.inl ⟨by rfl, ?_⟩) ?_ ?_
                                              rotate_left
                                              · intro w'
                                                go_simp
                                                with_reducible rfl
                                              rotate_left
                                              · simp only [Act.put, List.setIfInBounds_toArray, List.set_cons_zero, List.set_cons_succ, i64_w, i32_w]
                                                rfl
                                              refine pure_ (i := 9) (N := some 122) (v := ?_) (a' := ?_) #[true, true, true, true, true, true, true, false, true, true, false, false, false, false] rfl rfl (any_of HT_.out (by kernel_rfl)) (fun _ _ _ h => h) (Or.inl ⟨by rfl, ?_⟩) ?_ ?_
                                              rotate_left
                                              · intro w'
                                                go_simp
                                                with_reducible rfl
                                              rotate_left
                                              · simp only [Act.put, List.setIfInBounds_toArray, List.set_cons_zero, List.set_cons_succ, i64_w, i32_w]
                                                rfl
                                              refine pure_ (i := 10) (N := some 123) (v := ?_) (a' := ?_) #[true, true, true, true, true, true, true, false, true, true, true, false, false, false] rfl rfl (any_of HT_.out (by kernel_rfl)) (fun _ _ _ h => h) (Or.inl ⟨by rfl, ?_⟩) ?_ ?_
                                              rotate_left
                                              · intro w'
                                                go_simp
                                                with_reducible rfl
                                              rotate_left
                                              · simp only [Act.put, List.setIfInBounds_toArray, List.set_cons_zero, List.set_cons_succ, i64_w, i32_w]
                                                rfl
                                              refine take_ (i := 7) (N := some 120) (v := ?_) (a' := ?_) #[true, true, true, true, true, true, true, true, true, true, true, false, false, false] rfl rfl (take_ofW HT_.out HW_.out (by kernel_rfl)) (fun _ _ _ h => h) (Or.inl ⟨by rfl, ?_⟩) hHeld ?_ ?_
                                              rotate_left
                                              · rintro w' ⟨s0, s1⟩
                                                go_simp
                                                with_reducible rfl
                                              rotate_left
                                              · simp only [Act.put, List.setIfInBounds_toArray, List.set_cons_zero, List.set_cons_succ, i64_w, i32_w]
                                                rfl
                                              refine take_ (i := 11) (N := some 124) (v := ?_) (a' := ?_) #[true, true, true, true, true, true, true, true, true, true, true, true, false, false] rfl rfl (take_ofW HT_.out HW_.out (by kernel_rfl)) (fun _ _ _ h => h) (Or.inl ⟨by rfl, ?_⟩) hHeld ?_ ?_
                                              rotate_left
                                              · rintro w' ⟨s0, s1⟩
                                                go_simp
                                                with_reducible rfl
                                              rotate_left
                                              · simp only [Act.put, List.setIfInBounds_toArray, List.set_cons_zero, List.set_cons_succ, i64_w, i32_w]
                                                rfl
                                              refine pure_ (i := 12) (N := some 125) (v := ?_) (a' := ?_) #[true, true, true, true, true, true, true, true, true, true, true, true, true, false] rfl rfl (any_of HT_.out (by kernel_rfl)) (fun _ _ _ h => h) (Or.inl ⟨by rfl, ?_⟩) ?_ ?_
                                              rotate_left
                                              · intro w'
                                                go_simp
                                                with_reducible rfl
                                              rotate_left
                                              · simp only [Act.put, List.setIfInBounds_toArray, List.set_cons_zero, List.set_cons_succ, i64_w, i32_w]
                                                rfl
                                              refine pure_ (i := 13) (N := some 126) (v := ?_) (a' := ?_) #[true, true, true, true, true, true, true, true, true, true, true, true, true, true] rfl rfl (any_of HT_.out (by kernel_rfl)) (fun _ _ _ h => h) (Or.inl ⟨by rfl, ?_⟩) ?_ ?_
                                              rotate_left
                                              · intro w'
                                                go_simp
                                                with_reducible rfl
                                              rotate_left
                                              · simp only [Act.put, List.setIfInBounds_toArray, List.set_cons_zero, List.set_cons_succ, i64_w, i32_w]
                                                rfl
                                              refine done_ (done_of HT_.out (by kernel_rfl)) ?_
                                              try go_wp2
                                              go_ret
                                              exact ⟨by first | rfl | (simp [errW_none, errW_some] <;> rfl) | (simp [*, errW_none, errW_some] <;> rfl), by repeat (first | (with_reducible first | exact HB.out | apply below_alloc | apply pw_below_drewN | apply below_drew1 | refine below_set ?_ GE309.out | refine below_set ?_ GE327.out) | exact HB.out)⟩
                                          · rw [if_neg c61] at H
                                            exact absurd H (by simp)
                                        · rw [if_neg c60] at H
                                          exact absurd H (by simp)
                                      · rw [if_neg c59] at H
                                        exact absurd H (by simp)
                                  · rw [if_neg c56] at H
                                    have c56b0 : decide (x110_4 < (t301.length : Int)) = false := decide_eq_false c56
                                    clear c56
                                    obtain rfl := Option.some.inj H
                                    go_wp2
                                    go_ret
                                    exact ⟨by first | rfl | (simp [errW_none, errW_some] <;> rfl) | (simp [*, errW_none, errW_some] <;> rfl), by repeat (first | (with_reducible first | exact HB.out | apply below_alloc | apply pw_below_drewN | apply below_drew1 | refine below_set ?_ GE309.out | refine below_set ?_ GE327.out) | exact HB.out)⟩
                      · rw [if_neg c27] at H
                        exact absurd H (by simp)
                    · rw [if_neg c26] at H
                      exact absurd H (by simp)
                  · rw [if_neg c25] at H
                    exact absurd H (by simp)
                · rw [if_neg c24] at H
                  exact absurd H (by simp)
  · replace c6 := Bool.eq_false_iff.mpr c6
    subst c6
    have H1 : (some false) = some r := by rw [if_neg (show ¬ (false = true) by decide)] at H; exact H
    clear H
    have H := H1
    clear H1
    obtain rfl := Option.some.inj H
    go_enter Try.func8, Try.ntmps8
    go_wp2_with (first | ((with_reducible refine gate_callee (f := 12) rfl ?_); refine goesL_ (some 17) rfl rfl Try.func12 (by kernel_rfl) rfl #[] rfl (by (try simp only [List.map_toArray, List.map_cons, List.map_nil]); first | done | rfl | (simp only [List.length_drop, List.length_take]; rfl)) ?_; (with_reducible refine (kissgatelaw10_alive.calls k  false _ A5.out).mono ?_); rintro e w67 ⟨rfl, hb⟩; refine ⟨_, rfl, ?_⟩; have n0_ := Aside0.mk (below_step (by repeat (first | (with_reducible first | exact HB.out | apply below_alloc | apply pw_below_drewN | apply below_drew1) | exact HB.out)) hb); clear HB; have HB := n0_; clear n0_; (try clear hb); (try clear hb2); (try clear hk); (try clear hi)))
    go_ret
    exact ⟨by first | rfl | (simp [errW_none, errW_some] <;> rfl) | (simp [*, errW_none, errW_some] <;> rfl), by repeat (first | (with_reducible first | exact HB.out | apply below_alloc | apply pw_below_drewN | apply below_drew1) | exact HB.out)⟩
end Go.Proofs.Ytjhkbmdblfdlnaa.QPrio
namespace Go.Proofs.Ytjhkbmdblfdlnaa.Opn
open Go.ChangeShapes Go.WideShapes Go.Proofs.YtjhkbmdblfdlnaaW.PrintWords
variable {P : Program}
def Opens {α : Type} (P : Program) (t : TypeId) (d : Kd α) (good : α → Prop) : Prop :=
  ∀ (H : Type) (enc : TypeId × Value → H) (w : World) (fuel : Nat) (cs : List Value) (x : DataW H × List MemPlace),
    DataW.trod enc P w 0 (fun _ => true) true fuel t cs = some x → (∀ n ∈ x.1.weights P t, n ≤ reachBytes) → ∃ a : α, d.K w a cs ∧ good a
theorem opens_int {t : TypeId} {k : IntKind} (hu : P.underlying t = some (.int k)) : Opens P t (Kd.int k) (fun n => (Lit.int k n).wf = true) := by
  intro H enc w fuel cs x h _
  obtain ⟨n, rfl, _, hw⟩ := DataW.trod_int hu h
  exact ⟨n, rfl, hw⟩
theorem opens_bool {t : TypeId} (hu : P.underlying t = some .bool) : Opens P t Kd.bool (fun _ => True) := by
  intro H enc w fuel cs x h _
  obtain ⟨b, rfl, _⟩ := DataW.trod_bool hu h
  exact ⟨b, rfl, trivial⟩
theorem weightsAll_mem {H : Type} {e : TypeId} : ∀ {l : List (DataW H)} {d : DataW H}, d ∈ l → ∀ n ∈ d.weights P e, n ∈ DataW.weightsAll P e l
  | [], d, h, _, _ => by simp at h
  | d0 :: l, d, h, n, hn => by
    simp only [DataW.weightsAll, List.mem_append]
    rcases List.mem_cons.1 h with rfl | h
    · exact Or.inl hn
    · exact Or.inr (weightsAll_mem h n hn)
theorem add_at_ (a : Addr) (i j : Nat) : (a.add i).add j = a.add (i + j) := by
  unfold Addr.add
  by_cases hi : i = 0
  · subst hi; simp
  · by_cases hj : j = 0
    · subst hj; simp
    · simp [hi, hj, Nat.add_assoc]
theorem choose_list {α : Type} {Q : Nat → α → Prop} : ∀ (n : Nat), (∀ i, i < n → ∃ a, Q i a) → ∃ l : List α, l.length = n ∧ ∀ i a, l[i]? = some a → Q i a
  | 0, _ => ⟨[], rfl, fun i a h => by simp at h⟩
  | n + 1, h => by
    obtain ⟨l, hl, hq⟩ := choose_list n (fun i hi => h i (by omega))
    obtain ⟨a, ha⟩ := h n (by omega)
    refine ⟨l ++ [a], by simp [hl], fun i b hb => ?_⟩
    rcases Nat.lt_or_ge i l.length with hi | hi
    · rw [List.getElem?_append_left hi] at hb
      exact hq i b hb
    · rw [List.getElem?_append_right hi] at hb
      have hlt := (List.getElem?_eq_some_iff.1 hb).1
      simp at hlt
      have e : i = n := by omega
      subst e
      rw [show i - l.length = 0 from by omega] at hb
      have hb' : a = b := by simpa using hb
      subst hb'
      exact ha
theorem opens_slice_row {α : Type} {t e : TypeId} {d : Kd α} {good : α → Prop} (hu : P.underlying t = some (.slice e)) (hC : P.cellsOf e = d.sz) {B : Nat} (hB : P.bytesOf e = B) (ho : Opens P e d good)
    (H : Type) (enc : TypeId × Value → H) (w : World) (fuel : Nat) (A : Option Addr) (len cap : Nat) (x : DataW H × List MemPlace)
    (h : DataW.trod enc P w 0 (fun _ => true) true fuel t [.slice A len cap] = some x) (hz : ∀ n ∈ x.1.weights P t, n ≤ reachBytes) :
    ∃ l : List α, l.length = len ∧ len ≤ cap ∧ d.C w A len l ∧ len ≤ maxLen ∧ len * B ≤ 140737488351232 ∧ ∀ a ∈ l, good a := by
  rcases DataW.trod_slice hu h with ⟨h0, _⟩ | ⟨a, len', cap', elems, rest, n, _, hcs, hx, _, hl, hm, hlen, hel, _, _⟩
  · simp only [List.cons.injEq, Value.slice.injEq, and_true] at h0
    obtain ⟨rfl, rfl, rfl⟩ := h0
    exact ⟨[], rfl, Nat.le_refl _, ⟨rfl, Nat.zero_le _, fun h => absurd h (by omega)⟩, Nat.zero_le _, by simp, fun a ha => by simp at ha⟩
  · simp only [List.cons.injEq, Value.slice.injEq, and_true] at hcs
    obtain ⟨rfl, rfl, rfl⟩ := hcs
    have each : ∀ i, i < len → ∃ b : α, (∃ c, c.length = d.sz ∧ d.K w b c ∧ ∀ j u, c[j]? = some u → w.cell? (a.add (i * d.sz + j)) = some u) ∧ good b := by
      intro i hi
      have h1 := hel i hi
      have hie : i < elems.length := by omega
      rw [List.getElem?_eq_getElem hie, Option.bind_eq_some_iff] at h1
      obtain ⟨cs', hc, ht'⟩ := h1
      have hw' : ∀ n ∈ (elems[i]).1.weights P e, n ≤ reachBytes := by
        intro m hm'
        refine hz m ?_
        rw [hx]
        simp only [DataW.weights, hu]
        refine List.mem_cons_of_mem _ (List.mem_append_left _ ?_)
        exact weightsAll_mem (List.mem_map.2 ⟨elems[i], List.getElem_mem hie, rfl⟩) m hm'
      obtain ⟨b, hb, hg⟩ := ho H enc w _ cs' _ ht' hw'
      obtain ⟨_, hcl, hat⟩ := World.cells?_some hc
      refine ⟨b, ⟨cs', by rw [hcl, hC], hb, fun j u hu' => ?_⟩, hg⟩
      have hj : j < P.cellsOf e := by
        have := (List.getElem?_eq_some_iff.1 hu').1
        omega
      have := hat j hj
      rw [hC] at this
      rw [← add_at_, this, hu']
    obtain ⟨l, hll, hq⟩ := choose_list len each
    refine ⟨l, hll, hl, ⟨hll, by simp only [maxLen] at hm; omega, fun _ => ⟨a, rfl, fun j p hj => (hq j p hj).1⟩⟩, by omega, ?_, fun b hb => ?_⟩
    · have h1 := hz ((elems.length + rest.length) * P.bytesOf e) (by rw [hx]; simp [DataW.weights, hu])
      rw [hB] at h1
      simp only [reachBytes] at h1
      refine Nat.le_trans (Nat.mul_le_mul_right _ ?_) h1
      omega
    · obtain ⟨i, hi⟩ := List.getElem?_of_mem hb
      exact (hq i b hi).2
def OpensFs {α : Type} (P : Program) (off : Nat) (fs : List Field) (d : Kd α) (good : α → Prop) : Prop :=
  ∀ (H : Type) (enc : TypeId × Value → H) (w : World) (fuel : Nat) (cs : List Value) (ys : List (DataW H × List MemPlace)),
    cs.length = off + d.sz → ys.length = fs.length → (∀ (i : Nat) (f : Field), fs[i]? = some f → DataW.trod enc P w 0 (fun _ => true) true fuel f.type ((cs.drop f.offset).take (P.cellsOf f.type)) = ys[i]?) →
    (∀ n ∈ DataW.weightsEach P (fs.map (·.type)) (ys.map (·.1)), n ≤ reachBytes) → ∃ a : α, d.K w a (cs.drop off) ∧ good a
theorem opensFs_one {α : Type} {off : Nat} {f : Field} {d : Kd α} {good : α → Prop} (ho : f.offset = off) (hC : P.cellsOf f.type = d.sz) (h : Opens P f.type d good) : OpensFs P off [f] d good := by
  intro H enc w fuel cs ys hcs hy hf hz
  match ys, hy with
  | [y], _ =>
    have h1 := hf 0 f rfl
    rw [ho, hC, List.take_of_length_le (by simp [List.length_drop]; omega)] at h1
    exact h H enc w fuel _ y h1 (fun n hn => hz n (by simp only [List.map_cons, DataW.weightsEach, List.mem_append]; exact Or.inl hn))
theorem opensFs_cons {α β : Type} {off : Nat} {f : Field} {fs : List Field} {d : Kd α} {e : Kd β} {g1 : α → Prop} {g2 : β → Prop} (ho : f.offset = off) (hC : P.cellsOf f.type = d.sz) (h : Opens P f.type d g1) (hs : OpensFs P (off + d.sz) fs e g2) :
    OpensFs P off (f :: fs) (Kd.pair d e) (fun p => g1 p.1 ∧ g2 p.2) := by
  intro H enc w fuel cs ys hcs hy hf hz
  match ys, hy with
  | y :: ys, hy =>
    have hsz : (Kd.pair d e).sz = d.sz + e.sz := rfl
    rw [hsz] at hcs
    have h1 := hf 0 f rfl
    rw [ho, hC] at h1
    obtain ⟨a, ha, hga⟩ := h H enc w fuel _ y h1 (fun n hn => hz n (by simp only [List.map_cons, DataW.weightsEach, List.mem_append]; exact Or.inl hn))
    obtain ⟨b, hb, hgb⟩ := hs H enc w fuel cs ys (by omega) (by simpa using hy) (fun i f' hi => by simpa using hf (i + 1) f' (by simpa using hi)) (fun n hn => hz n (by simp only [List.map_cons, DataW.weightsEach, List.mem_append]; exact Or.inr hn))
    refine ⟨(a, b), ⟨(cs.drop off).take d.sz, cs.drop (off + d.sz), ?_, ha, hb⟩, hga, hgb⟩
    rw [← List.drop_drop, List.take_append_drop]
theorem opens_struct {α : Type} {t : TypeId} {fs : Array Field} {d : Kd α} {good : α → Prop} (hu : P.underlying t = some (.struct fs)) (hC : P.cellsOf t = d.sz) (h : OpensFs P 0 fs.toList d good) : Opens P t d good := by
  intro H enc w fuel cs x hx hz
  obtain ⟨ys, n, _, hxe, hlen, hyl, hf⟩ := DataW.trod_struct hu hx
  obtain ⟨a, ha, hg⟩ := h H enc w n cs ys (by omega) (by simpa using hyl) (fun i f hi => hf i f (by simpa using hi)) (fun m hm => hz m (by rw [hxe]; simp only [DataW.weights, hu]; exact hm))
  exact ⟨a, by simpa using ha, hg⟩
theorem opens_iso {α β : Type} {t : TypeId} {d : Kd α} {good : α → Prop} (f : β → α) (g : α → β) (hfg : ∀ a, f (g a) = a) (h : Opens P t d good) : Opens P t (Kd.iso d f) (fun b => good (f b)) := by
  intro H enc w fuel cs x hx hz
  obtain ⟨a, ha, hga⟩ := h H enc w fuel cs x hx hz
  refine ⟨g a, ?_, by show good (f (g a)); rw [hfg]; exact hga⟩
  show d.K w (f (g a)) cs
  rw [hfg]
  exact ha
theorem opens_imp {α : Type} {t : TypeId} {d : Kd α} {g1 g2 : α → Prop} (h : Opens P t d g1) (hg : ∀ a, g1 a → g2 a) : Opens P t d g2 := by
  intro H enc w fuel cs x hx hz
  obtain ⟨a, ha, hga⟩ := h H enc w fuel cs x hx hz
  exact ⟨a, ha, hg a hga⟩
theorem weights_of {H : Type} {ts : List TypeId} {ds : List (DataW H)} (h : (DataW.weightsEach P ts ds).all (· ≤ reachBytes) = true) {j : Nat} {t : TypeId} {d : DataW H} (ht : ts[j]? = some t) (hd : ds[j]? = some d) : ∀ n ∈ d.weights P t, n ≤ reachBytes := by
  intro n hn
  have := List.all_eq_true.1 h _ (DataW.weights_mem_each ht hd n hn)
  simpa using this
theorem arg_slice {α : Type} {t e : TypeId} {d : Kd α} {good : α → Prop} (hu : P.underlying t = some (.slice e)) (hC : P.cellsOf e = d.sz) {B : Nat} (hB : P.bytesOf e = B) (ho : Opens P e d good)
    {H : Type} {enc : TypeId × Value → H} {w : World} {r : Reach} {b0 : Nat} {v : Value} {x : DataW H} {ps : List MemPlace} (hv : Value.okWide P w r b0 t v)
    (h : DataW.Trod enc P w 0 (fun _ => true) true t v x ps) (hz : ∀ n ∈ x.weights P t, n ≤ reachBytes) :
    ∃ (A : Option Addr) (c : Nat) (l : List α), v = .slice A l.length c ∧ l.length ≤ c ∧ d.C w A l.length l ∧ l.length ≤ maxLen ∧ l.length * B ≤ 140737488351232 ∧ ∀ a ∈ l, good a := by
  obtain ⟨A, len, c, rfl⟩ := okWide_slice hu hv
  obtain ⟨fuel, hf⟩ := h
  have hf' : DataW.trod enc P w 0 (fun _ => true) true fuel t [.slice A len c] = some (x, ps) := by simpa [Value.cells] using hf
  obtain ⟨l, rfl, hlc, hC', hm, hb, hg⟩ := opens_slice_row hu hC hB ho H enc w fuel A len c _ hf' hz
  exact ⟨A, c, l, rfl, hlc, hC', hm, hb, hg⟩
theorem arg_int {t : TypeId} {k : IntKind} (hu : P.underlying t = some (.int k))
    {H : Type} {enc : TypeId × Value → H} {w : World} {r : Reach} {b0 : Nat} {v : Value} {x : DataW H} {ps : List MemPlace} (hv : Value.okWide P w r b0 t v)
    (h : DataW.Trod enc P w 0 (fun _ => true) true t v x ps) : ∃ n, v = .int k n ∧ (Lit.int k n).wf = true := by
  obtain ⟨n, rfl⟩ := okWide_int hu hv
  obtain ⟨fuel, hf⟩ := h
  obtain ⟨m, hcs, _, hw⟩ := DataW.trod_int hu hf
  simp only [Value.cells] at hcs
  have e : n = m := by simpa using hcs
  subst e
  exact ⟨n, rfl, hw⟩
end Go.Proofs.Ytjhkbmdblfdlnaa.Opn
namespace Go.Proofs.Ytjhkbmdblfdlnaa.prioWorse
open Go.RowKit Go.Proofs.YtjhkbmdblfdlnaaW.PrintWords Go.Proofs.YtjhkbmdblfdlnaaW.PrintLast Go.Proofs.YtjhkbmdblfdlnaaW.PrintMore Go.Proofs.Ytjhkbmdblfdlnaa.QPrio
set_option linter.unusedVariables false
def G23 (x : S23) : Prop := (Lit.int .i64 x.f0).wf = true ∧ (Lit.int .i64 x.f1).wf = true ∧ (Lit.int .i64 x.f2).wf = true ∧ (Lit.int .i64 x.f3).wf = true
def G45 (x : S45) : Prop := G23 x.f0 ∧ (Lit.int .i64 x.f1).wf = true ∧ (Lit.int .i64 x.f2).wf = true ∧ True
def Pure : Prop := ∀ (x0 : Int) (x1 : (List S45)) (x2 : Int) (x3 : Int), (Lit.int .i64 x0).wf = true → (x1.length ≤ maxLen ∧ x1.length * 56 ≤ 140737488351232 ∧ ∀ a ∈ x1, G45 a) → (Lit.int .i64 x2).wf = true → (Lit.int .i64 x3).wf = true → ∃ k, kissgatelaw10_PrioWorse.f k x0 x1 x2 x3 = some true
end Go.Proofs.Ytjhkbmdblfdlnaa.prioWorse
namespace Go.Proofs.Ytjhkbmdblfdlnaa.Pri
open Go.RowKit Go.Proofs.YtjhkbmdblfdlnaaW.PrintWords Go.Proofs.YtjhkbmdblfdlnaaW.PrintLast Go.Proofs.YtjhkbmdblfdlnaaW.PrintMore Go.Proofs.Ytjhkbmdblfdlnaa.QPrio
def Fit (a : Int) : Prop := -9223372036854775808 ≤ a ∧ a ≤ 9223372036854775807
theorem fit_of {a : Int} (h : (Lit.int .i64 a).wf = true) : Fit a := by
  simp only [Lit.wf, Bool.and_eq_true, decide_eq_true_eq] at h
  unfold Fit
  have e1 : IntKind.i64.min = -9223372036854775808 := by decide
  have e2 : IntKind.i64.max = 9223372036854775807 := by decide
  rw [e1, e2] at h
  exact h
def sgn (a b : Int) : Int := if a < b then -1 else if a > b then 1 else 0
theorem cmp_sgn (a b : Int) : cmp_Compare_int.f a b = some (sgn a b) := by
  unfold cmp_Compare_int.f cmp_isNaN_int.f sgn
  simp only [bne_self_eq_false, Option.bind_some, Bool.false_eq_true, if_false]
  split
  · rfl
  · split <;> rfl
def or4 (a b c d : Int) : Int := if a ≠ 0 then a else if b ≠ 0 then b else if c ≠ 0 then c else d
theorem or_four (a b c d : Int) (k : Nat) : cmp_Or_int.f (k + 5) [a, b, c, d] = some (or4 a b c d) := by
  have r0 : rd [a, b, c, d] 0 = a := rfl
  have r1 : rd [a, b, c, d] 1 = b := rfl
  have r2 : rd [a, b, c, d] 2 = c := rfl
  have r3 : rd [a, b, c, d] 3 = d := rfl
  have w0 : wrap64 (0 + 1) = 1 := by unfold wrap64; decide
  have w1 : wrap64 (1 + 1) = 2 := by unfold wrap64; decide
  have w2 : wrap64 (2 + 1) = 3 := by unfold wrap64; decide
  have w3 : wrap64 (3 + 1) = 4 := by unfold wrap64; decide
  unfold cmp_Or_int.f
  have hl : (([a, b, c, d] : List Int).length : Int) = 4 := rfl
  rw [hl, cmp_Or_int.l0, if_pos (by decide), if_pos (by decide), hl, if_pos (by decide), r0]
  by_cases ha : a = 0
  · rw [if_pos ha, w0, cmp_Or_int.l0, if_pos (by decide), if_pos (by decide), hl, if_pos (by decide), r1]
    by_cases hb : b = 0
    · rw [if_pos hb, w1, cmp_Or_int.l0, if_pos (by decide), if_pos (by decide), hl, if_pos (by decide), r2]
      by_cases hc : c = 0
      · rw [if_pos hc, w2, cmp_Or_int.l0, if_pos (by decide), if_pos (by decide), hl, if_pos (by decide), r3]
        by_cases hd : d = 0
        · rw [if_pos hd, w3, cmp_Or_int.l0, if_neg (by decide)]
          simp [or4, ha, hb, hc, hd]
        · rw [if_neg hd]
          simp [or4, ha, hb, hc]
      · rw [if_neg hc]
        simp [or4, ha, hb, hc]
    · rw [if_neg hb]
      simp [or4, ha, hb]
  · rw [if_neg ha]
    simp [or4, ha]
def cmpV (a b : S23) : Int := or4 (sgn a.f0 b.f0) (sgn a.f1 b.f1) (sgn a.f2 b.f2) (sgn a.f3 b.f3)
theorem compare_ev (a b : S23) : Ev (fun k => prio_Compare.f k a.f0 a.f1 a.f2 a.f3 b.f0 b.f1 b.f2 b.f3) (cmpV a b) := by
  refine Ev.of (fun k => prio_Compare.mono _ _ _ _ _ _ _ _ k) (k := 5) ?_
  unfold prio_Compare.f
  simp only [cmp_sgn, Option.bind_some]
  rw [or_four _ _ _ _ 0]
  rfl
def bet (a b : S23) : Bool := decide (a.f0 < b.f0 ∨ a.f0 = b.f0 ∧ (a.f1 < b.f1 ∨ a.f1 = b.f1 ∧ (a.f2 < b.f2 ∨ a.f2 = b.f2 ∧ a.f3 < b.f3)))
theorem cmpV_neg (a b : S23) : decide (cmpV a b < 0) = bet a b := by
  unfold cmpV or4 sgn bet
  rw [decide_eq_decide]
  repeat' split
  all_goals omega
theorem better_ev (a b : S23) : Ev (fun k => prio_Better.f k a.f0 a.f1 a.f2 a.f3 b.f0 b.f1 b.f2 b.f3) (bet a b) := by
  unfold prio_Better.f
  refine Ev.bind (compare_ev a b) ?_
  rw [cmpV_neg]
  exact Ev.now _
def sumc (a b : Int) : Int := if mx a 0 + mx b 0 > 9223372036854775807 then 9223372036854775807 else mx a 0 + mx b 0
theorem sum_prog {a b : Int} (ha : Fit a) (hb : Fit b) : cost_Sum.f a b = some (sumc a b) := by
  unfold cost_Sum.f sumc
  unfold Fit at ha hb
  unfold mx wrap64
  repeat' split
  all_goals first | rfl | omega | (congr 1; omega)
def brid (a : Int) : Bool := decide (0 < a ∧ a / 281474976710656 ≤ 15 ∧ a % 281474976710656 / 1099511627776 % 2 ≠ 1)
theorem wraps_i64 (n : Int) (h₀ : 0 ≤ n) (h₁ : n < 2 ^ 63) : IntKind.i64.wrap n = n := by
  rw [IntKind.wrap_i64]
  have : (2 : Int) ^ 63 = 9223372036854775808 := by decide
  omega
theorem bridge_prog {a : Int} (ha : Fit a) : bpdu_Bridge.f a = some (brid a) := by
  unfold Fit at ha
  unfold bpdu_Bridge.f brid
  have e63 : (2 : Int) ^ 63 = 9223372036854775808 := by decide
  by_cases h0 : a > 0
  · rw [if_pos h0]
    by_cases h1 : a / 281474976710656 ≤ 15
    · rw [if_pos h1]
      have hm : Go.bits .and .i64 a 281474976710655 = a % 281474976710656 := by
        have := bits_mask .i64 63 (by decide) wraps_i64 48 (by decide) a (by omega) (by omega)
        have e1 : ((2 : Int) ^ 48 - 1) = 281474976710655 := by decide
        have e2 : ((2 : Int) ^ 48) = 281474976710656 := by decide
        rw [e1, e2] at this
        exact this
      rw [hm]
      unfold addr_Many.f addr_Good.f
      have g1 : a % 281474976710656 ≥ 0 := by omega
      have g2 : decide (a % 281474976710656 ≤ 281474976710655) = true := decide_eq_true (by omega)
      rw [if_pos g1, g2]
      simp only [Option.bind_some, if_true]
      have hb : Go.bits .and .i64 (a % 281474976710656 / 1099511627776) 1 = a % 281474976710656 / 1099511627776 % 2 := by
        have := bits_mask .i64 63 (by decide) wraps_i64 1 (by decide) (a % 281474976710656 / 1099511627776) (by omega) (by omega)
        exact this
      rw [hb]
      congr 1
      rw [Bool.eq_iff_iff]
      simp
      omega
    · rw [if_neg h1]
      congr 1
      symm
      exact decide_eq_false (by omega)
  · rw [if_neg h0]
    congr 1
    symm
    exact decide_eq_false (by omega)
def takes (h : S45) (id : Int) : Bool := decide (h.f3 = false ∧ 0 ≤ h.f1 ∧ h.f1 < 10 ∧ brid h.f0.f0 = true ∧ h.f0.f2 ≠ id)
theorem takes_prog (h : S45) (id : Int) (hr : Fit h.f0.f0) : prio_takes.f h.f0.f0 h.f0.f1 h.f0.f2 h.f0.f3 h.f1 h.f2 h.f3 id = some (takes h id) := by
  unfold prio_takes.f takes
  rw [bridge_prog hr]
  cases h.f3 with
  | true => simp
  | false =>
    simp only [Bool.false_eq_true, if_false, Option.bind_some]
    by_cases h1 : h.f1 ≥ 0
    · rw [if_pos h1]
      by_cases h2 : h.f1 < 10
      · rw [if_pos h2]
        cases brid h.f0.f0 with
        | false => simp
        | true => simp only [if_true]; congr 1; rw [Bool.eq_iff_iff]; simp; omega
      · rw [if_neg h2]; congr 1; symm; exact decide_eq_false (by omega)
    · rw [if_neg h1]; congr 1; symm; exact decide_eq_false (by omega)
def conv (h : S45) : S73 := ⟨⟨h.f0.f0, h.f0.f1, h.f0.f2, h.f0.f3⟩, h.f1, h.f2, h.f3⟩
def thr (h : S45) : S23 := ⟨h.f0.f0, sumc h.f0.f1 h.f2, h.f0.f2, h.f0.f3⟩
def FitH (h : S45) : Prop := Fit h.f0.f0 ∧ Fit h.f0.f1 ∧ Fit h.f2
def step (id : Int) (j : Nat) (h : S45) (acc : S23 × Int) : S23 × Int := if takes h id = true ∧ h.f0.f0 < id ∧ bet (thr h) acc.1 = true then (thr h, (j : Int)) else acc
def best (id : Int) : Nat → List S45 → S23 × Int → S23 × Int
  | _, [], acc => acc
  | j, h :: t, acc => best id (j + 1) t (step id j h acc)
def own (id : Int) : S23 := ⟨id, 0, id, 0⟩
def bestOf (id : Int) (l : List S45) : S23 × Int := best id 0 l (own id, -1)
def tup (a : S23 × Int) : Int × Int × Int × Int × Int := (a.1.f0, a.1.f1, a.1.f2, a.1.f3, a.2)
theorem wrap_up {i : Int} {n : Nat} (h0 : 0 ≤ i) (h : i < (n : Int)) (hn : n ≤ 9223372036854775000) : wrap64 (i + 1) = i + 1 := by
  unfold wrap64
  omega
theorem rd45 {l : List S45} {i : Nat} (h : i < l.length) : rd_T45 l i = l[i] := by
  unfold rd_T45
  rw [Int.toNat_natCast, List.getD_eq_getElem?_getD, List.getElem?_eq_getElem h]; rfl
theorem best_loop (id : Int) (l : List S45) (hn : l.length ≤ 9223372036854775000) (hf : ∀ h ∈ l, FitH h) (d : Nat) : ∀ (i : Nat) (acc : S23 × Int), i + d = l.length →
    Ev (fun k => prio_Best.l0 k id acc.2 l l.length i acc.1.f0 acc.1.f1 acc.1.f2 acc.1.f3) (tup (best id i (l.drop i) acc)) := by
  induction d with
  | zero =>
    intro i acc hi
    rw [List.drop_of_length_le (by omega)]
    exact Ev.step (fun k => by rw [prio_Best.l0, if_neg (by omega)]; rfl) (Ev.now (tup acc))
  | succ d ih =>
    intro i acc hi
    have hlt : i < l.length := by omega
    obtain ⟨f0, f1, f2⟩ := hf l[i] (List.getElem_mem hlt)
    rw [List.drop_eq_getElem_cons hlt]
    simp only [best]
    have hs : ∀ k, prio_Best.l0 (k + 1) id acc.2 l l.length i acc.1.f0 acc.1.f1 acc.1.f2 acc.1.f3 =
        (if takes l[i] id = true then (if l[i].f0.f0 < id then ((prio_Better.f k (thr l[i]).f0 (thr l[i]).f1 (thr l[i]).f2 (thr l[i]).f3 acc.1.f0 acc.1.f1 acc.1.f2 acc.1.f3).bind fun t => if t = true then prio_Best.l0 k id i l l.length ((i + 1 : Nat) : Int) (thr l[i]).f0 (thr l[i]).f1 (thr l[i]).f2 (thr l[i]).f3 else prio_Best.l0 k id acc.2 l l.length ((i + 1 : Nat) : Int) acc.1.f0 acc.1.f1 acc.1.f2 acc.1.f3) else prio_Best.l0 k id acc.2 l l.length ((i + 1 : Nat) : Int) acc.1.f0 acc.1.f1 acc.1.f2 acc.1.f3) else prio_Best.l0 k id acc.2 l l.length ((i + 1 : Nat) : Int) acc.1.f0 acc.1.f1 acc.1.f2 acc.1.f3) := by
      intro k
      rw [prio_Best.l0, if_pos (by omega), if_pos (by omega), if_pos (by omega), rd45 hlt, wrap_up (n := l.length) (by omega) (by omega) hn, takes_prog _ _ f0]
      unfold prio_Through.f
      rw [sum_prog f1 f2]
      rfl
    refine Ev.step hs ?_
    unfold step
    by_cases h1 : takes l[i] id = true
    · rw [h1]
      simp only [if_true, true_and]
      by_cases h2 : l[i].f0.f0 < id
      · simp only [if_pos h2]
        refine Ev.bind (better_ev (thr l[i]) acc.1) ?_
        by_cases h3 : bet (thr l[i]) acc.1 = true
        · rw [h3]
          simp only [if_true]
          rw [if_pos ⟨h2, trivial⟩]
          exact ih (i + 1) (thr l[i], (i : Int)) (by omega)
        · rw [if_neg (by simp [h3])]
          simp only [h3, Bool.false_eq_true, if_false]
          exact ih (i + 1) acc (by omega)
      · simp only [if_neg h2]
        rw [if_neg (by simp [h2])]
        exact ih (i + 1) acc (by omega)
    · rw [if_neg (by simp [h1])]
      simp only [h1, Bool.false_eq_true, if_false]
      exact ih (i + 1) acc (by omega)
theorem best_prog (id : Int) (l : List S45) (hn : l.length ≤ 9223372036854775000) (hf : ∀ h ∈ l, FitH h) : Ev (fun k => prio_Best.f k id l) (tup (bestOf id l)) := by
  have := best_loop id l hn hf l.length 0 (own id, -1) (by omega)
  rw [List.drop_zero] at this
  exact this
theorem plain_loop (l : List S45) (hl : l.length * 56 ≤ 140737488351232) (d : Nat) : ∀ (i : Nat), i + d = l.length →
    Ev (fun k => kissgatelaw10_plain.l0 k ((l.take i).map conv) l l.length i) (l.map conv) := by
  induction d with
  | zero =>
    intro i hi
    rw [List.take_of_length_le (by omega)]
    exact Ev.step (fun k => by rw [kissgatelaw10_plain.l0, if_neg (by omega)]) (Ev.now _)
  | succ d ih =>
    intro i hi
    have hlt : i < l.length := by omega
    refine Ev.step (fun k => ?_) (ih (i + 1) (by omega))
    rw [kissgatelaw10_plain.l0, if_pos (by omega), if_pos (by omega), if_pos (by omega), rd45 hlt, if_pos (by simp; omega), wrap_up (n := l.length) (by omega) (by omega) (by omega), List.take_succ_eq_append_getElem hlt, List.map_append]
    rfl
theorem plain (l : List S45) (hl : l.length * 56 ≤ 140737488351232) : Ev (fun k => kissgatelaw10_plain.f k l) (l.map conv) := plain_loop l hl l.length 0 (by omega)
theorem alive : Ev (fun k => kissgatelaw10_alive.f k) true := Ev.of kissgatelaw10_alive.mono (k := 20) (by decide +kernel)
def offer (v : S23) (id port : Int) : S23 := ⟨v.f0, v.f1, id, port⟩
def role (id : Int) (b : S23 × Int) (i : Nat) (h : S45) : Int := if (i : Int) = b.2 then 1 else if takes h id = true ∧ bet (offer b.1 id i) h.f0 = false then 3 else 2
def rolesFrom (id : Int) (b : S23 × Int) : Nat → List S45 → List Int
  | _, [] => []
  | i, h :: t => role id b i h :: rolesFrom id b (i + 1) t
theorem roles_loop (id : Int) (l : List S45) (b : S23 × Int) (hn : l.length * 56 ≤ 140737488351232) (hf : ∀ h ∈ l, FitH h) (d : Nat) : ∀ (i : Nat) (out : List Int), i + d = l.length → out.length = i →
    Ev (fun k => prio_Roles.l0 k id b.2 out l l.length i b.1.f0 b.1.f1 b.1.f2 b.1.f3) (out ++ rolesFrom id b i (l.drop i), b.1.f0, b.1.f1, b.1.f2, b.1.f3, b.2) := by
  induction d with
  | zero =>
    intro i out hi ho
    rw [List.drop_of_length_le (by omega)]
    simp only [rolesFrom, List.append_nil]
    exact Ev.step (fun k => by rw [prio_Roles.l0, if_neg (by omega)]) (Ev.now _)
  | succ d ih =>
    intro i out hi ho
    have hlt : i < l.length := by omega
    obtain ⟨f0, f1, f2⟩ := hf l[i] (List.getElem_mem hlt)
    rw [List.drop_eq_getElem_cons hlt]
    simp only [rolesFrom]
    have hi1 := ih (i + 1) (out ++ [role id b i l[i]]) (by omega) (by simp [ho])
    rw [List.append_assoc, List.singleton_append] at hi1
    have hcast : ((i + 1 : Nat) : Int) = (i : Int) + 1 := by omega
    by_cases h0 : (i : Int) = b.2
    · have hr : role id b i l[i] = 1 := by unfold role; rw [if_pos h0]
      rw [hr] at hi1 ⊢
      exact Ev.step (fun k => by rw [prio_Roles.l0, if_pos (by omega), if_pos (by omega), if_pos (by omega), if_pos h0, if_pos (by omega), wrap_up (i := (i : Int)) (n := l.length) (by omega) (by omega) (by omega), ← hcast]) hi1
    · by_cases h1 : takes l[i] id = true
      · have hs : ∀ k, prio_Roles.l0 (k + 1) id b.2 out l l.length i b.1.f0 b.1.f1 b.1.f2 b.1.f3 = (prio_Better.f k (offer b.1 id i).f0 (offer b.1 id i).f1 (offer b.1 id i).f2 (offer b.1 id i).f3 l[i].f0.f0 l[i].f0.f1 l[i].f0.f2 l[i].f0.f3).bind fun t => if t = true then prio_Roles.l0 k id b.2 (out ++ [2]) l l.length ((i + 1 : Nat) : Int) b.1.f0 b.1.f1 b.1.f2 b.1.f3 else prio_Roles.l0 k id b.2 (out ++ [3]) l l.length ((i + 1 : Nat) : Int) b.1.f0 b.1.f1 b.1.f2 b.1.f3 := by
          intro k
          rw [prio_Roles.l0, if_pos (by omega), if_pos (by omega), if_pos (by omega), if_neg h0, rd45 hlt, takes_prog _ _ f0, h1, Option.bind_some, if_pos rfl, wrap_up (i := (i : Int)) (n := l.length) (by omega) (by omega) (by omega), if_pos (show out.length < 17592186044416 by omega), if_pos (show out.length < 17592186044416 by omega)]
          rfl
        refine Ev.step hs ?_
        refine Ev.bind (better_ev (offer b.1 id i) l[i].f0) ?_
        cases h2 : bet (offer b.1 id i) l[i].f0 with
        | true =>
          have hr : role id b i l[i] = 2 := by unfold role; rw [if_neg h0, if_neg (by simp [h2])]
          rw [hr] at hi1 ⊢
          simp only [if_true]
          exact hi1
        | false =>
          have hr : role id b i l[i] = 3 := by unfold role; rw [if_neg h0, if_pos ⟨h1, h2⟩]
          rw [hr] at hi1 ⊢
          simp only [Bool.false_eq_true, if_false]
          exact hi1
      · have hr : role id b i l[i] = 2 := by unfold role; rw [if_neg h0, if_neg (by simp [h1])]
        rw [hr] at hi1 ⊢
        have h1' : takes l[i] id = false := by simpa using h1
        exact Ev.step (fun k => by rw [prio_Roles.l0, if_pos (by omega), if_pos (by omega), if_pos (by omega), if_neg h0, rd45 hlt, takes_prog _ _ f0, h1', Option.bind_some, if_neg (by decide), if_pos (by omega), wrap_up (i := (i : Int)) (n := l.length) (by omega) (by omega) (by omega), ← hcast]) hi1
def roles (id : Int) (l : List S45) : List Int := rolesFrom id (bestOf id l) 0 l
theorem roles_prog (id : Int) (l : List S45) (hn : l.length * 56 ≤ 140737488351232) (hf : ∀ h ∈ l, FitH h) :
    Ev (fun k => prio_Roles.f k id l) (roles id l, (bestOf id l).1.f0, (bestOf id l).1.f1, (bestOf id l).1.f2, (bestOf id l).1.f3, (bestOf id l).2) := by
  unfold prio_Roles.f
  refine Ev.bind (best_prog id l (by omega) hf) ?_
  exact roles_loop id l (bestOf id l) hn hf l.length 0 [] (by omega) rfl
theorem rolesFrom_len (id : Int) (b : S23 × Int) (l : List S45) : ∀ i, (rolesFrom id b i l).length = l.length := by
  induction l with
  | nil => intro i; rfl
  | cons h t ih => intro i; simp [rolesFrom, ih]
theorem rolesFrom_get (id : Int) (b : S23 × Int) (l : List S45) : ∀ (i j : Nat) (hj : j < l.length), (rolesFrom id b i l)[j]? = some (role id b (i + j) l[j]) := by
  induction l with
  | nil => intro i j hj; simp at hj
  | cons h t ih =>
    intro i j hj
    cases j with
    | zero => simp [rolesFrom]
    | succ j => simp only [rolesFrom, List.getElem?_cons_succ, List.getElem_cons_succ]; rw [ih (i + 1) j (by simpa using hj)]; congr 2; omega
theorem roles_len (id : Int) (l : List S45) : (roles id l).length = l.length := rolesFrom_len _ _ _ _
theorem roles_get (id : Int) (l : List S45) (i : Nat) (hi : i < l.length) : rd (roles id l) i = role id (bestOf id l) i l[i] := by
  unfold rd roles
  rw [Int.toNat_natCast, List.getD_eq_getElem?_getD, rolesFrom_get _ _ _ _ _ hi]
  simp
end Go.Proofs.Ytjhkbmdblfdlnaa.Pri
namespace Go.Proofs.Ytjhkbmdblfdlnaa.prioWorse
open Go.RowKit Go.Proofs.YtjhkbmdblfdlnaaW.PrintWords Go.Proofs.YtjhkbmdblfdlnaaW.PrintLast Go.Proofs.YtjhkbmdblfdlnaaW.PrintMore Go.Proofs.Ytjhkbmdblfdlnaa.QPrio Go.Proofs.Ytjhkbmdblfdlnaa.Pri
theorem fits {l : List S45} (h : ∀ a ∈ l, G45 a) : ∀ a ∈ l, FitH a := fun a ha => ⟨fit_of (h a ha).1.1, fit_of (h a ha).1.2.1, fit_of (h a ha).2.2.1⟩
theorem bet_irrefl (a : S23) : bet a a = false := by
  unfold bet
  exact decide_eq_false (by omega)
theorem bet_le {x a c : S23} (h : bet x a = true) (h' : bet c a = false) : bet x c = true := by
  unfold bet at *
  have h := of_decide_eq_true h
  have h' := of_decide_eq_false h'
  exact decide_eq_true (by omega)
theorem bet_asymm {x a : S23} (h : bet x a = true) : bet a x = false := by
  unfold bet at *
  have h := of_decide_eq_true h
  exact decide_eq_false (by omega)
theorem bet_eq {a b : S23} (h : bet a b = false) (h' : bet b a = false) : a = b := by
  unfold bet at *
  have h := of_decide_eq_false h
  have h' := of_decide_eq_false h'
  obtain ⟨a0, a1, a2, a3⟩ := a
  obtain ⟨b0, b1, b2, b3⟩ := b
  simp only at h h'
  have e0 : a0 = b0 := by omega
  have e1 : a1 = b1 := by omega
  have e2 : a2 = b2 := by omega
  have e3 : a3 = b3 := by omega
  rw [e0, e1, e2, e3]
def Cand (id : Int) (l : List S45) (i : Nat) (c : S23) (j : Int) : Prop :=
  (j = -1 ∧ c = own id) ∨ ∃ (s : Nat) (h : S45), s < i ∧ l[s]? = some h ∧ j = s ∧ takes h id = true ∧ h.f0.f0 < id ∧ c = thr h
def IsB (id : Int) (l : List S45) (i : Nat) (a : S23 × Int) : Prop :=
  Cand id l i a.1 a.2 ∧ ∀ c j, Cand id l i c j → bet c a.1 = false ∧ (j < a.2 → bet a.1 c = true)
theorem cand_lt {id : Int} {l : List S45} {i : Nat} {c : S23} {j : Int} (h : Cand id l i c j) : j < i := by
  rcases h with ⟨h, _⟩ | ⟨s, _, hs, _, h, _⟩ <;> omega
theorem cand_up {id : Int} {l : List S45} {i : Nat} {c : S23} {j : Int} (h : Cand id l i c j) : Cand id l (i + 1) c j := by
  rcases h with h | ⟨s, q, hs, h⟩
  · exact .inl h
  · exact .inr ⟨s, q, by omega, h⟩
theorem cand_down {id : Int} {l : List S45} {i : Nat} {q : S45} (hq : l[i]? = some q) {c : S23} {j : Int} (h : Cand id l (i + 1) c j) :
    Cand id l i c j ∨ (j = i ∧ takes q id = true ∧ q.f0.f0 < id ∧ c = thr q) := by
  rcases h with h | ⟨s, u, hs, hu, hj, ht, hr, hc⟩
  · exact .inl (.inl h)
  · by_cases he : s = i
    · subst he
      rw [hq] at hu
      cases hu
      exact .inr ⟨hj, ht, hr, hc⟩
    · exact .inl (.inr ⟨s, u, by omega, hu, hj, ht, hr, hc⟩)
theorem isB_step {id : Int} {l : List S45} {i : Nat} {q : S45} (hq : l[i]? = some q) {a : S23 × Int} (h : IsB id l i a) : IsB id l (i + 1) (Pri.step id i q a) := by
  obtain ⟨h1, h2⟩ := h
  unfold Pri.step
  by_cases hc : takes q id = true ∧ q.f0.f0 < id ∧ bet (thr q) a.1 = true
  · rw [if_pos hc]
    obtain ⟨ht, hr, hb⟩ := hc
    refine ⟨.inr ⟨i, q, by omega, hq, rfl, ht, hr, rfl⟩, fun c j hcj => ?_⟩
    rcases cand_down hq hcj with hcj | ⟨rfl, _, _, rfl⟩
    · have hx := bet_le hb (h2 c j hcj).1
      exact ⟨bet_asymm hx, fun _ => hx⟩
    · exact ⟨bet_irrefl _, fun hlt => absurd hlt (by simp)⟩
  · rw [if_neg hc]
    refine ⟨cand_up h1, fun c j hcj => ?_⟩
    rcases cand_down hq hcj with hcj | ⟨rfl, ht, hr, rfl⟩
    · exact h2 c j hcj
    · refine ⟨?_, fun hlt => ?_⟩
      · cases hb : bet (thr q) a.1 with
        | false => rfl
        | true => exact absurd ⟨ht, hr, hb⟩ hc
      · have := cand_lt h1
        omega
theorem isB_best (id : Int) (l : List S45) (d : Nat) : ∀ (i : Nat) (a : S23 × Int), i + d = l.length → IsB id l i a → IsB id l l.length (best id i (l.drop i) a) := by
  induction d with
  | zero =>
    intro i a hi h
    rw [List.drop_of_length_le (by omega)]
    have : i = l.length := by omega
    subst this
    exact h
  | succ d ih =>
    intro i a hi h
    have hlt : i < l.length := by omega
    rw [List.drop_eq_getElem_cons hlt]
    exact ih (i + 1) _ (by omega) (isB_step (List.getElem?_eq_getElem hlt) h)
theorem isB_of (id : Int) (l : List S45) : IsB id l l.length (bestOf id l) := by
  have := isB_best id l l.length 0 (own id, -1) (by omega) ⟨.inl ⟨rfl, rfl⟩, fun c j h => by
    rcases h with ⟨rfl, rfl⟩ | ⟨s, _, hs, _⟩
    · exact ⟨bet_irrefl _, fun h => absurd h (by simp)⟩
    · omega⟩
  rw [List.drop_zero] at this
  exact this
theorem isB_unique {id : Int} {l : List S45} {i : Nat} {a b : S23 × Int} (ha : IsB id l i a) (hb : IsB id l i b) : a = b := by
  have h1 := ha.2 _ _ hb.1
  have h2 := hb.2 _ _ ha.1
  have he : a.1 = b.1 := bet_eq h2.1 h1.1
  have hj : a.2 = b.2 := by
    rcases Int.lt_trichotomy a.2 b.2 with h | h | h
    · have := h2.2 h
      rw [he, bet_irrefl] at this
      cases this
    · exact h
    · have := h1.2 h
      rw [he, bet_irrefl] at this
      cases this
  exact Prod.ext he hj
theorem best_fit {id : Int} {l : List S45} (hid : Fit id) (hf : ∀ h ∈ l, FitH h) : Fit (bestOf id l).1.f0 := by
  rcases (isB_of id l).1 with ⟨_, h⟩ | ⟨s, q, hs, hq, _, _, _, h⟩
  · rw [h]; exact hid
  · rw [h]; exact (hf q (List.mem_of_getElem? hq)).1
def worse (b : S23 × Int) (h : S45) (more : Int) : S45 := ⟨⟨b.1.f0, b.1.f1 + more, h.f0.f2, h.f0.f3⟩, 1, 1, false⟩
theorem same_best (id : Int) (l : List S45) (p : Nat) (q : S45) (more : Int) (hm : 1 ≤ more ∧ more ≤ 1048576) (hk : (bestOf id l).2 ≠ p) (hc : 0 ≤ (bestOf id l).1.f1 ∧ (bestOf id l).1.f1 ≤ 1099511627776) :
    bestOf id (l.set p (worse (bestOf id l) q more)) = bestOf id l := by
  have hB := isB_of id l
  have hB' := isB_of id (l.set p (worse (bestOf id l) q more))
  rw [List.length_set] at hB'
  refine isB_unique hB' ?_
  generalize bestOf id l = b at *
  refine ⟨?_, fun c j hcj => ?_⟩
  · rcases hB.1 with h | ⟨s, u, hs, hu, hj, ht⟩
    · exact .inl h
    · refine .inr ⟨s, u, hs, ?_, hj, ht⟩
      rw [List.getElem?_set_ne (by omega)]
      exact hu
  · rcases hcj with h | ⟨s, u, hs, hu, hj, ht, hr, hcc⟩
    · exact hB.2 c j (.inl h)
    · by_cases he : p = s
      · subst he
        rw [List.getElem?_set_self (by omega)] at hu
        cases hu
        have hx : bet b.1 c = true := by
          rw [hcc]
          have : sumc (b.1.f1 + more) 1 = b.1.f1 + more + 1 := by
            unfold sumc mx
            repeat' split
            all_goals omega
          refine decide_eq_true (Or.inr ⟨rfl, Or.inl ?_⟩)
          show b.1.f1 < sumc (b.1.f1 + more) 1
          omega
        exact ⟨bet_asymm hx, fun _ => hx⟩
      · rw [List.getElem?_set_ne he] at hu
        exact hB.2 c j (.inr ⟨s, u, hs, hu, hj, ht, hr, hcc⟩)
theorem loop (p : Nat) (r r' : List Int) (h20 : r.length ≤ 20) (hl : r'.length = r.length) (h : ∀ i : Nat, i < r.length → i ≠ p → rd r i = rd r' i) (d : Nat) : ∀ i : Nat, i + d = r.length →
    Ev (fun k => kissgatelaw10_PrioWorse.l0 k p r r' r.length i) true := by
  induction d with
  | zero =>
    intro i hi
    exact Ev.step (fun k => by rw [kissgatelaw10_PrioWorse.l0, if_neg (by omega)]) (Ev.now _)
  | succ d ih =>
    intro i hi
    have hw : wrap64 ((i : Int) + 1) = ((i + 1 : Nat) : Int) := by unfold wrap64; omega
    refine Ev.step (fun k => ?_) (ih (i + 1) (by omega))
    by_cases he : i = p
    · rw [kissgatelaw10_PrioWorse.l0, if_pos (by omega), if_pos (by omega), hw]
    · rw [kissgatelaw10_PrioWorse.l0, if_pos (by omega), if_neg (by omega), if_pos (by omega), if_pos (by omega), if_pos (by omega), if_pos (h i (by omega) he), hw]
theorem j0_true (id : Int) (l : List S45) (p more : Int) : Ev (fun k => kissgatelaw10_PrioWorse.j0 k id l p more true) true :=
  Ev.step (fun k => by rw [kissgatelaw10_PrioWorse.j0, if_pos rfl]) (Ev.now _)
theorem j1_true (id : Int) (l : List S45) (p more : Int) (r : List Int) (k' a b c d : Int) : Ev (fun k => kissgatelaw10_PrioWorse.j1 k id l p more r k' true a b c d) true :=
  Ev.step (fun k => by rw [kissgatelaw10_PrioWorse.j1, if_pos rfl]) (Ev.now _)
theorem main (id : Int) (l : List S45) (p : Nat) (more : Int) (hid : Fit id) (hb : l.length * 56 ≤ 140737488351232) (h20 : l.length ≤ 20) (hp : p < l.length) (hm : 1 ≤ more ∧ more ≤ 1048576) (hf : ∀ h ∈ l, FitH h)
    (hk : (bestOf id l).2 ≠ p) (hc : 0 ≤ (bestOf id l).1.f1 ∧ (bestOf id l).1.f1 ≤ 1099511627776) :
    Ev (fun k => kissgatelaw10_PrioWorse.j1 k id l p more (roles id l) (bestOf id l).2 false (bestOf id l).1.f0 (bestOf id l).1.f1 (bestOf id l).1.f2 (bestOf id l).1.f3) true := by
  have hsame := same_best id l p l[p] more hm hk hc
  have hbf := best_fit hid hf
  have hw : wrap64 ((bestOf id l).1.f1 + more) = (bestOf id l).1.f1 + more := by unfold wrap64; omega
  have hlen : (l.set p (worse (bestOf id l) l[p] more)).length = l.length := List.length_set ..
  have hf' : ∀ h ∈ l.set p (worse (bestOf id l) l[p] more), FitH h := by
    intro h hh
    rcases List.mem_or_eq_of_mem_set hh with hh | rfl
    · exact hf h hh
    · refine ⟨hbf, ?_, ?_⟩ <;> unfold Fit worse <;> simp only <;> omega
  have hr := roles_prog id (l.set p (worse (bestOf id l) l[p] more)) (by rw [hlen]; exact hb) hf'
  rw [hsame] at hr
  have hrl : (roles id (l.set p (worse (bestOf id l) l[p] more))).length = l.length := by rw [roles_len, hlen]
  have hat : rd (roles id (l.set p (worse (bestOf id l) l[p] more))) p = 2 := by
    rw [roles_get _ _ _ (by omega), hsame, List.getElem_set_self]
    unfold role
    rw [if_neg (by omega), if_neg]
    rintro ⟨_, h⟩
    have hx : bet (offer (bestOf id l).1 id p) (worse (bestOf id l) l[p] more).f0 = true := by
      refine decide_eq_true (Or.inr ⟨rfl, Or.inl ?_⟩)
      show (bestOf id l).1.f1 < (bestOf id l).1.f1 + more
      omega
    rw [hx] at h
    cases h
  have hothers : ∀ i : Nat, i < (roles id l).length → i ≠ p → rd (roles id l) i = rd (roles id (l.set p (worse (bestOf id l) l[p] more))) i := by
    intro i hi hne
    rw [roles_len] at hi
    rw [roles_get _ _ _ hi, roles_get _ _ _ (by omega), hsame, List.getElem_set_ne (by omega)]
  refine Ev.step (fun k => by rw [kissgatelaw10_PrioWorse.j1, if_neg (by decide), Option.bind_some, if_pos (by simp; omega), Option.bind_some, List.nil_append, if_pos (by omega), if_pos (by omega), if_pos (by omega), hw, Int.toNat_natCast, rd45 hp]) ?_
  refine Ev.bind hr ?_
  simp only [beq_self_eq_true, Bool.not_true, Bool.or_self, Bool.false_eq_true, if_false, if_true]
  refine Ev.congr (fun k => by rw [if_pos (by omega), hat]) ?_
  refine Ev.step (fun k => by rw [kissgatelaw10_PrioWorse.j2, if_neg (by decide)]) ?_
  exact loop p (roles id l) _ (by rw [roles_len]; exact h20) (by rw [hrl, roles_len]) hothers (roles id l).length 0 (by omega)
theorem pure : Pure := by
  intro id l p more hid hl hp hmo
  obtain ⟨hm, hb, hg⟩ := hl
  have hf := fits hg
  refine Ev.rounds ?_
  unfold kissgatelaw10_PrioWorse.f
  refine Ev.bind alive ?_
  simp only [if_true]
  by_cases h20 : (l.length : Int) > 20
  · simp only [if_pos h20]
    exact j0_true _ _ _ _
  · simp only [if_neg h20]
    by_cases h1 : p < 0
    · simp only [if_pos h1]; exact j0_true _ _ _ _
    · simp only [if_neg h1]
      by_cases h2 : p ≥ l.length
      · simp only [if_pos h2]; exact j0_true _ _ _ _
      · simp only [if_neg h2]
        by_cases h3 : more < 1
        · simp only [if_pos h3]; exact j0_true _ _ _ _
        · simp only [if_neg h3]
          by_cases h4 : more > 1048576
          · rw [decide_eq_true h4]; exact j0_true _ _ _ _
          · rw [decide_eq_false h4]
            obtain ⟨p, rfl⟩ := Int.eq_ofNat_of_zero_le (show 0 ≤ p by omega)
            refine Ev.step (fun k => by rw [kissgatelaw10_PrioWorse.j0, if_neg (by decide)]) ?_
            refine Ev.bind (roles_prog id l hb hf) ?_
            simp only
            by_cases h5 : (bestOf id l).2 = p
            · simp only [if_pos h5]; exact j1_true _ _ _ _ _ _ _ _ _ _
            · simp only [if_neg h5]
              by_cases h6 : (bestOf id l).1.f1 > 1099511627776
              · simp only [if_pos h6]; exact j1_true _ _ _ _ _ _ _ _ _ _
              · simp only [if_neg h6]
                by_cases h7 : (bestOf id l).1.f1 < 0
                · rw [decide_eq_true h7]; exact j1_true _ _ _ _ _ _ _ _ _ _
                · rw [decide_eq_false h7]
                  exact main id l p more (fit_of hid) hb (by omega) (by omega) ⟨by omega, by omega⟩ hf h5 ⟨by omega, by omega⟩
end Go.Proofs.Ytjhkbmdblfdlnaa.prioWorse
