/- Functions of the program as plain Lean functions, what their calls do, and what follows of it. Conditions: each theorem's own. -/
import Derived.Test.YtjhkbmdblfdlnaaCPrioSorted1
namespace Go.Proofs.Ytjhkbmdblfdlnaa.QSrt
open Go.RowKit Go.Proofs.YtjhkbmdblfdlnaaW.PrintWords Go.Proofs.YtjhkbmdblfdlnaaW.PrintLast Go.Proofs.YtjhkbmdblfdlnaaW.PrintMore
attribute [local go_sem] max2_int min2_int max_two min_two max_three min_three max_four min_four
set_option linter.unusedVariables false
set_option linter.unusedSimpArgs false
attribute [local go_sem high] eqA23
mutual
def kissgatelaw10_PrioSorted.j0 : Nat → List (S23) → Int → Int → Bool → Option (Bool)
  | 0, _, _, _, _ => none
  | k + 1, x0, x1, x5, x22 => if x22 = true then (some true) else (if (IntKind.u64.wrap (x5)) = 0 then (none) else ((prio_Sorted.f x0).bind fun t150 => ((some (([] : List (S23)) : List (S23))).bind fun y153 => (if 0 ≤ (wrap64 (Int.tmod (IntKind.u64.wrap (x1)) (IntKind.u64.wrap (x5)))) then (if (wrap64 (Int.tmod (IntKind.u64.wrap (x1)) (IntKind.u64.wrap (x5)))) ≤ (x0.length : Int) then ((some (x0.drop ((wrap64 (Int.tmod (IntKind.u64.wrap (x1)) (IntKind.u64.wrap (x5)))) : Int).toNat : List (S23))).bind fun y156 => (if y153.length + y156.length < 4398046511104 then ((some (y153 ++ y156 : List (S23))).bind fun y160 => ((some (x0.take ((wrap64 (Int.tmod (IntKind.u64.wrap (x1)) (IntKind.u64.wrap (x5)))) : Int).toNat : List (S23))).bind fun y163 => (if y160.length + y163.length < 4398046511104 then ((prio_Sorted.f (y160 ++ y163)).bind fun t170 => (if (t150.length : Int) = x5 then (kissgatelaw10_PrioSorted.j1 k x0 t150 t170 ((t170.length : Int) != x5)) else (kissgatelaw10_PrioSorted.j1 k x0 t150 t170 true))) else (none)))) else (none))) else (none)) else (none)))))
def kissgatelaw10_PrioSorted.j1 : Nat → List (S23) → List (S23) → List (S23) → Bool → Option (Bool)
  | 0, _, _, _, _ => none
  | k + 1, x0, x7, x8, x50 => if x50 = true then (some false) else (kissgatelaw10_PrioSorted.l0 k x0 x7 x8 (x7.length : Int) 0)
def kissgatelaw10_PrioSorted.l0 : Nat → List (S23) → List (S23) → List (S23) → Int → Int → Option (Bool)
  | 0, _, _, _, _, _ => none
  | k + 1, x0, x7, x8, x52, x53 => if x53 < x52 then (if 0 ≤ x53 then (if x53 < (x7.length : Int) then (if x53 < (x8.length : Int) then (if (!(((rd_T23 x7 x53).f0) == ((rd_T23 x8 x53).f0)) || (!(((rd_T23 x7 x53).f1) == ((rd_T23 x8 x53).f1)) || (!(((rd_T23 x7 x53).f2) == ((rd_T23 x8 x53).f2)) || (!(((rd_T23 x7 x53).f3) == ((rd_T23 x8 x53).f3)))))) = true then (kissgatelaw10_PrioSorted.j3 k x0 x7 x8 x53 x52 x53 true) else (if x53 > 0 then (if 0 ≤ (wrap64 (x53 - 1)) then (if (wrap64 (x53 - 1)) < (x7.length : Int) then ((kissgateref10_Better.f ((rd_T23 x7 x53).f0) ((rd_T23 x7 x53).f1) ((rd_T23 x7 x53).f2) ((rd_T23 x7 x53).f3) ((rd_T23 x7 (wrap64 (x53 - 1))).f0) ((rd_T23 x7 (wrap64 (x53 - 1))).f1) ((rd_T23 x7 (wrap64 (x53 - 1))).f2) ((rd_T23 x7 (wrap64 (x53 - 1))).f3)).bind fun t177 => (kissgatelaw10_PrioSorted.j3 k x0 x7 x8 x53 x52 x53 t177)) else (none)) else (none)) else (kissgatelaw10_PrioSorted.j3 k x0 x7 x8 x53 x52 x53 false))) else (none)) else (none)) else (none)) else (some true)
def kissgatelaw10_PrioSorted.j3 : Nat → List (S23) → List (S23) → List (S23) → Int → Int → Int → Bool → Option (Bool)
  | 0, _, _, _, _, _, _, _ => none
  | k + 1, x0, x7, x8, x9, x52, x53, x80 => if x80 = true then (some false) else (kissgatelaw10_PrioSorted.l1 k x0 x7 x8 x9 0 0 x52 x53 (x0.length : Int) 0)
def kissgatelaw10_PrioSorted.l1 : Nat → List (S23) → List (S23) → List (S23) → Int → Int → Int → Int → Int → Int → Int → Option (Bool)
  | 0, _, _, _, _, _, _, _, _, _, _ => none
  | k + 1, x0, x7, x8, x9, x10, x11, x52, x53, x82, x83 => if x83 < x82 then (if 0 ≤ x83 then (if x83 < (x0.length : Int) then (if 0 ≤ x9 then (if x9 < (x7.length : Int) then (if (((rd_T23 x0 x83).f0) == ((rd_T23 x7 x9).f0) && (((rd_T23 x0 x83).f1) == ((rd_T23 x7 x9).f1) && (((rd_T23 x0 x83).f2) == ((rd_T23 x7 x9).f2) && (((rd_T23 x0 x83).f3) == ((rd_T23 x7 x9).f3))))) = true then (if x83 < (x7.length : Int) then (if (((rd_T23 x7 x83).f0) == ((rd_T23 x7 x9).f0) && (((rd_T23 x7 x83).f1) == ((rd_T23 x7 x9).f1) && (((rd_T23 x7 x83).f2) == ((rd_T23 x7 x9).f2) && (((rd_T23 x7 x83).f3) == ((rd_T23 x7 x9).f3))))) = true then (kissgatelaw10_PrioSorted.l1 k x0 x7 x8 x9 (wrap64 (x10 + 1)) (wrap64 (x11 + 1)) x52 x53 x82 (wrap64 (x83 + 1))) else (kissgatelaw10_PrioSorted.l1 k x0 x7 x8 x9 (wrap64 (x10 + 1)) x11 x52 x53 x82 (wrap64 (x83 + 1)))) else (none)) else (if x83 < (x7.length : Int) then (if (((rd_T23 x7 x83).f0) == ((rd_T23 x7 x9).f0) && (((rd_T23 x7 x83).f1) == ((rd_T23 x7 x9).f1) && (((rd_T23 x7 x83).f2) == ((rd_T23 x7 x9).f2) && (((rd_T23 x7 x83).f3) == ((rd_T23 x7 x9).f3))))) = true then (kissgatelaw10_PrioSorted.l1 k x0 x7 x8 x9 x10 (wrap64 (x11 + 1)) x52 x53 x82 (wrap64 (x83 + 1))) else (kissgatelaw10_PrioSorted.l1 k x0 x7 x8 x9 x10 x11 x52 x53 x82 (wrap64 (x83 + 1)))) else (none))) else (none)) else (none)) else (none)) else (none)) else (if x10 = x11 then (kissgatelaw10_PrioSorted.l0 k x0 x7 x8 x52 (wrap64 (x53 + 1))) else (some false))
end
def kissgatelaw10_PrioSorted.f (k : Nat) (l0 : List (S23)) (a1 : Int) : Option (Bool) := (kissgatelaw10_alive.f k).bind fun t149 => (if t149 = true then (if (l0.length : Int) > 60 then (kissgatelaw10_PrioSorted.j0 k l0 a1 (l0.length : Int) true) else (kissgatelaw10_PrioSorted.j0 k l0 a1 (l0.length : Int) ((l0.length : Int) == 0))) else (some false))
def kissgatelaw10_PrioSorted.T7 : Bool × List (List Nat × List Nat) := (true, [([], []), ([0], [0]), ([], []), ([], []), ([], []), ([3, 4], [3, 4]), ([2, 5, 1], [2, 5]), ([], []), ([], []), ([7, 8], [7, 8]), ([6, 9, 6], [6, 9]), ([10, 10], [10]), ([1, 11, 0, 1], [1]), ([11, 12, 0, 1, 2, 3, 4, 5, 6, 7, 8, 9, 10, 11, 12], [11])])
def kissgatelaw10_PrioSorted.B7 : List Nat := [0, 1, 0, 0, 0, 24, 63, 0, 0, 384, 1023, 2047, 4095, 8191]
theorem kissgatelaw10_PrioSorted.tab7 : rtab .any (opsOf Try.f11 7) = kissgatelaw10_PrioSorted.T7 := by kernel_rfl
theorem kissgatelaw10_PrioSorted.bits7 : waitsOk kissgatelaw10_PrioSorted.T7.2 kissgatelaw10_PrioSorted.B7 = true := by kernel_rfl
def kissgatelaw10_PrioSorted.T13 : Bool × List (List Nat × List Nat) := (true, [([], []), ([], []), ([0, 1], [0, 1]), ([2], [2]), ([], []), ([], []), ([4, 5], [4, 5]), ([6], [6]), ([3, 7], [3, 7]), ([8], [8]), ([9], [9]), ([10, 9], [9, 10]), ([11, 9, 9], [9, 11]), ([12], [12]), ([12], [12]), ([13, 14, 12], [12, 13, 14]), ([15, 12], [12, 15]), ([12], [12]), ([12], [12]), ([18, 12], [12, 18]), ([17, 19, 12], [12, 17, 19]), ([20, 12], [12, 20]), ([16, 21, 12, 12], [12, 16, 21]), ([12, 22, 9], [9, 12, 22]), ([9, 23], [9, 23])])
def kissgatelaw10_PrioSorted.B13 : List Nat := [0, 0, 3, 7, 0, 0, 48, 112, 255, 511, 1023, 2047, 4095, 8191, 8191, 32767, 65535, 8191, 8191, 270335, 925695, 1974271, 4194303, 8388607, 16777215]
theorem kissgatelaw10_PrioSorted.tab13 : rtab .any (opsOf Try.f11 13) = kissgatelaw10_PrioSorted.T13 := by kernel_rfl
theorem kissgatelaw10_PrioSorted.bits13 : waitsOk kissgatelaw10_PrioSorted.T13.2 kissgatelaw10_PrioSorted.B13 = true := by kernel_rfl
def kissgatelaw10_PrioSorted.T19 : Bool × List (List Nat × List Nat) := (true, [([], []), ([], []), ([0, 1], [0, 1]), ([2], [2]), ([], []), ([], []), ([4, 5], [4, 5]), ([6], [6]), ([3, 7], [3, 7])])
def kissgatelaw10_PrioSorted.B19 : List Nat := [0, 0, 3, 7, 0, 0, 48, 112, 255]
theorem kissgatelaw10_PrioSorted.tab19 : rtab .any (opsOf Try.f11 19) = kissgatelaw10_PrioSorted.T19 := by kernel_rfl
theorem kissgatelaw10_PrioSorted.bits19 : waitsOk kissgatelaw10_PrioSorted.T19.2 kissgatelaw10_PrioSorted.B19 = true := by kernel_rfl
def kissgatelaw10_PrioSorted.T21 : Bool × List (List Nat × List Nat) := (true, [([], []), ([], []), ([0, 1], [0, 1]), ([2], [2]), ([], []), ([], []), ([4, 5], [4, 5]), ([6], [6]), ([3, 7], [3, 7])])
def kissgatelaw10_PrioSorted.B21 : List Nat := [0, 0, 3, 7, 0, 0, 48, 112, 255]
theorem kissgatelaw10_PrioSorted.tab21 : rtab .any (opsOf Try.f11 21) = kissgatelaw10_PrioSorted.T21 := by kernel_rfl
theorem kissgatelaw10_PrioSorted.bits21 : waitsOk kissgatelaw10_PrioSorted.T21.2 kissgatelaw10_PrioSorted.B21 = true := by kernel_rfl
set_option maxHeartbeats 8000000 in
set_option maxRecDepth 100000 in
theorem kissgatelaw10_PrioSorted.calls (k : Nat) (A0 : Option Addr) (c0 : Nat) (l0 : List (S23)) (a1 : Int) (r : Bool) (hT : r = true) (w : World) (hr0 : Kd.C k23 w A0 l0.length l0) (hc0 : l0.length ≤ c0) (h : kissgatelaw10_PrioSorted.f k l0 a1 = some r) :
    Calls Try.prog 11 #[.slice A0 l0.length c0, .int .i64 a1] w fun e w' => e = .returned (.bool r) ∧ Below w.heap.size w w' := by
  have HRT := Aside0.mk hT
  clear hT
  have hu23 := Try.underlying23
  have HR0 := Aside0.mk hr0
  have HC0 := Aside0.mk hc0
  clear hr0 hc0
  have HB := Aside0.mk (Below.refl w.heap.size w)
  have H : ((kissgatelaw10_alive.f k).bind fun t149 => (if t149 = true then (if (l0.length : Int) > 60 then (kissgatelaw10_PrioSorted.j0 k l0 a1 (l0.length : Int) true) else (kissgatelaw10_PrioSorted.j0 k l0 a1 (l0.length : Int) ((l0.length : Int) == 0))) else (some false))) = some r := h
  clear h
  replace H := Option.bind_eq_some_iff.mp H
  obtain ⟨t149, A30, H⟩ := H
  replace H : (if t149 = true then (if (l0.length : Int) > 60 then (kissgatelaw10_PrioSorted.j0 k l0 a1 (l0.length : Int) true) else (kissgatelaw10_PrioSorted.j0 k l0 a1 (l0.length : Int) ((l0.length : Int) == 0))) else (some false)) = some r := H
  have A3 := Aside0.mk A30
  clear A30
  by_cases c4 : t149 = true
  · subst c4
    have H1 : (if (l0.length : Int) > 60 then (kissgatelaw10_PrioSorted.j0 k l0 a1 (l0.length : Int) true) else (kissgatelaw10_PrioSorted.j0 k l0 a1 (l0.length : Int) ((l0.length : Int) == 0))) = some r := by rw [if_pos rfl] at H; exact H
    clear H
    have H := H1
    clear H1
    have HC5 := Aside0.mk H
    clear H
    go_enter Try.func11, Try.ntmps11
    go_upto_region 4 with (first | ((with_reducible refine gate_callee (f := 12) rfl ?_); refine goesL_ (some 13) rfl rfl Try.func12 (by kernel_rfl) rfl #[] rfl (by (try simp only [List.map_toArray, List.map_cons, List.map_nil]); first | done | rfl | (simp only [List.length_drop, List.length_take]; rfl)) ?_; (with_reducible refine (kissgatelaw10_alive.calls k  true _ A3.out).mono ?_); rintro e w6 ⟨rfl, hb⟩; refine ⟨_, rfl, ?_⟩; have n0_ := Aside0.mk (below_step (by repeat (first | (with_reducible first | exact HB.out | apply below_alloc | apply pw_below_drewN | apply below_drew1) | exact HB.out)) hb); clear HB; have HB := n0_; clear n0_; (try clear hb); (try clear hb2); (try clear hk); (try clear hi)))
    (try simp only [Act.put, List.setIfInBounds_toArray, List.set_cons_zero, List.set_cons_succ])
    go_cut [22] (fun v22 wc => ∃ (kq : Nat) (x22_4 : Bool), v22 = .bool x22_4 ∧ Aside0 (kissgatelaw10_PrioSorted.j0 kq l0 a1 (l0.length : Int) x22_4 = some r) ∧ Aside0 (kq ≤ k) ∧ Aside0 (Below w.heap.size w wc))
    case first =>
      have H := HC5.out
      clear HC5
      by_cases c7 : (l0.length : Int) > 60
      · rw [if_pos c7] at H
        have c7b0 : decide (60 < (l0.length : Int)) = true := decide_eq_true c7
        have c7b1 : decide (60 < l0.length) = true := decide_eq_true (by omega)
        clear c7
        (first | rw [c7b0] | (simp only [i64_w, i32_w]; rw [c7b0]) | skip)
        have H' := Aside0.mk H
        clear H
        go_wp2
        go_meet
        case rel => exact ⟨_, (true), (by first | rfl | (simp; done) | (simp [*]; done)), H', ⟨by first | omega | exact Nat.le_refl _⟩, ⟨by repeat (first | (with_reducible first | exact HB.out | apply below_alloc | apply pw_below_drewN | apply below_drew1) | exact HB.out)⟩⟩
      · rw [if_neg c7] at H
        have c7b0 : decide (60 < (l0.length : Int)) = false := decide_eq_false c7
        have c7b1 : decide (60 < l0.length) = false := decide_eq_false (by omega)
        clear c7
        (first | rw [c7b0] | (simp only [i64_w, i32_w]; rw [c7b0]) | skip)
        have H' := Aside0.mk H
        clear H
        go_wp2
        go_meet
        case rel => exact ⟨_, (((l0.length : Int) == 0)), (by first | rfl | (simp; done) | (simp [*]; done)), H', ⟨by first | omega | exact Nat.le_refl _⟩, ⟨by repeat (first | (with_reducible first | exact HB.out | apply below_alloc | apply pw_below_drewN | apply below_drew1) | exact HB.out)⟩⟩
    case rest =>
      clear HC5
      try clear c1
      try clear p2
      try clear c4
      try clear c7
      try clear c7b0
      try clear c7b1
      obtain ⟨kq, x22_4, rfl, HA, HJ4, HB⟩ := hcut
      cases kq with
      | zero => exact absurd HA.out (by simp [kissgatelaw10_PrioSorted.j0])
      | succ kj4 =>
        have H := HA.out
        clear HA
        simp only [kissgatelaw10_PrioSorted.j0] at H
        by_cases c8 : x22_4 = true
        · subst c8
          have H1 : (some true) = some r := by rw [if_pos rfl] at H; exact H
          clear H
          have H := H1
          clear H1
          obtain rfl := Option.some.inj H
          go_wp2
          go_ret
          exact ⟨by first | rfl | (simp [errW_none, errW_some] <;> rfl) | (simp [*, errW_none, errW_some] <;> rfl), by repeat (first | (with_reducible first | exact HB.out | apply below_alloc | apply pw_below_drewN | apply below_drew1) | exact HB.out)⟩
        · replace c8 := Bool.eq_false_iff.mpr c8
          subst c8
          have H1 : (if (IntKind.u64.wrap ((l0.length : Int))) = 0 then (none) else ((prio_Sorted.f l0).bind fun t150 => ((some (([] : List (S23)) : List (S23))).bind fun y153 => (if 0 ≤ (wrap64 (Int.tmod (IntKind.u64.wrap (a1)) (IntKind.u64.wrap ((l0.length : Int))))) then (if (wrap64 (Int.tmod (IntKind.u64.wrap (a1)) (IntKind.u64.wrap ((l0.length : Int))))) ≤ (l0.length : Int) then ((some (l0.drop ((wrap64 (Int.tmod (IntKind.u64.wrap (a1)) (IntKind.u64.wrap ((l0.length : Int))))) : Int).toNat : List (S23))).bind fun y156 => (if y153.length + y156.length < 4398046511104 then ((some (y153 ++ y156 : List (S23))).bind fun y160 => ((some (l0.take ((wrap64 (Int.tmod (IntKind.u64.wrap (a1)) (IntKind.u64.wrap ((l0.length : Int))))) : Int).toNat : List (S23))).bind fun y163 => (if y160.length + y163.length < 4398046511104 then ((prio_Sorted.f (y160 ++ y163)).bind fun t170 => (if (t150.length : Int) = (l0.length : Int) then (kissgatelaw10_PrioSorted.j1 kj4 l0 t150 t170 ((t170.length : Int) != (l0.length : Int))) else (kissgatelaw10_PrioSorted.j1 kj4 l0 t150 t170 true))) else (none)))) else (none))) else (none)) else (none))))) = some r := by rw [if_neg (show ¬ (false = true) by decide)] at H; exact H
          clear H
          have H := H1
          clear H1
          by_cases c9 : (IntKind.u64.wrap ((l0.length : Int))) = 0
          · rw [if_pos c9] at H
            exact absurd H (by simp)
          · rw [if_neg c9] at H
            have c9b0 : ((IntKind.u64.wrap ((l0.length : Int))) == 0) = false := beq_eq_false_iff_ne.mpr c9
            have c9b1 : ((IntKind.u64.wrap ((l0.length : Int))) != 0) = true := bne_iff_ne.mpr c9
            replace H := Option.bind_eq_some_iff.mp H
            obtain ⟨t150, A100, H⟩ := H
            replace H : ((some (([] : List (S23)) : List (S23))).bind fun y153 => (if 0 ≤ (wrap64 (Int.tmod (IntKind.u64.wrap (a1)) (IntKind.u64.wrap ((l0.length : Int))))) then (if (wrap64 (Int.tmod (IntKind.u64.wrap (a1)) (IntKind.u64.wrap ((l0.length : Int))))) ≤ (l0.length : Int) then ((some (l0.drop ((wrap64 (Int.tmod (IntKind.u64.wrap (a1)) (IntKind.u64.wrap ((l0.length : Int))))) : Int).toNat : List (S23))).bind fun y156 => (if y153.length + y156.length < 4398046511104 then ((some (y153 ++ y156 : List (S23))).bind fun y160 => ((some (l0.take ((wrap64 (Int.tmod (IntKind.u64.wrap (a1)) (IntKind.u64.wrap ((l0.length : Int))))) : Int).toNat : List (S23))).bind fun y163 => (if y160.length + y163.length < 4398046511104 then ((prio_Sorted.f (y160 ++ y163)).bind fun t170 => (if (t150.length : Int) = (l0.length : Int) then (kissgatelaw10_PrioSorted.j1 kj4 l0 t150 t170 ((t170.length : Int) != (l0.length : Int))) else (kissgatelaw10_PrioSorted.j1 kj4 l0 t150 t170 true))) else (none)))) else (none))) else (none)) else (none))) = some r := H
            have A10 := Aside0.mk A100
            clear A100
            obtain ⟨y153, hy153⟩ : ∃ y_ : List (S23), y_ = (([] : List (S23))) := ⟨_, rfl⟩
            replace H : (if 0 ≤ (wrap64 (Int.tmod (IntKind.u64.wrap (a1)) (IntKind.u64.wrap ((l0.length : Int))))) then (if (wrap64 (Int.tmod (IntKind.u64.wrap (a1)) (IntKind.u64.wrap ((l0.length : Int))))) ≤ (l0.length : Int) then ((some (l0.drop ((wrap64 (Int.tmod (IntKind.u64.wrap (a1)) (IntKind.u64.wrap ((l0.length : Int))))) : Int).toNat : List (S23))).bind fun y156 => (if y153.length + y156.length < 4398046511104 then ((some (y153 ++ y156 : List (S23))).bind fun y160 => ((some (l0.take ((wrap64 (Int.tmod (IntKind.u64.wrap (a1)) (IntKind.u64.wrap ((l0.length : Int))))) : Int).toNat : List (S23))).bind fun y163 => (if y160.length + y163.length < 4398046511104 then ((prio_Sorted.f (y160 ++ y163)).bind fun t170 => (if (t150.length : Int) = (l0.length : Int) then (kissgatelaw10_PrioSorted.j1 kj4 l0 t150 t170 ((t170.length : Int) != (l0.length : Int))) else (kissgatelaw10_PrioSorted.j1 kj4 l0 t150 t170 true))) else (none)))) else (none))) else (none)) else (none)) = some r := by first | (rw [hy153]; with_reducible exact H) | (have H2_ := (Option.bind_some _ _).symm.trans H; rw [hy153]; with_reducible exact H2_) | (have H2_ := (Option.bind_some _ _).symm.trans H; with_reducible exact H2_) | with_reducible exact H | (rw [hy153]; exact H) | exact H
            have Ny153 := Aside0.mk hy153
            clear hy153
            obtain ⟨ji11, hji11⟩ : ∃ j_ : Int, (wrap64 (Int.tmod (IntKind.u64.wrap (a1)) (IntKind.u64.wrap ((l0.length : Int))))) = j_ := ⟨_, rfl⟩
            replace H : (if 0 ≤ (ji11) then (if (ji11) ≤ (l0.length : Int) then ((some (l0.drop ((ji11) : Int).toNat : List (S23))).bind fun y156 => (if y153.length + y156.length < 4398046511104 then ((some (y153 ++ y156 : List (S23))).bind fun y160 => ((some (l0.take ((ji11) : Int).toNat : List (S23))).bind fun y163 => (if y160.length + y163.length < 4398046511104 then ((prio_Sorted.f (y160 ++ y163)).bind fun t170 => (if (t150.length : Int) = (l0.length : Int) then (kissgatelaw10_PrioSorted.j1 kj4 l0 t150 t170 ((t170.length : Int) != (l0.length : Int))) else (kissgatelaw10_PrioSorted.j1 kj4 l0 t150 t170 true))) else (none)))) else (none))) else (none)) else (none)) = some r := by first | (rw [hji11] at H; exact H) | (simp only [hji11] at H ⊢; exact H)
            (try rw [hji11] at A10)
            have hji11w : (IntKind.i64.wrap (Int.tmod (IntKind.u64.wrap (a1)) (IntKind.u64.wrap ((l0.length : Int))))) = ji11 := (i64_w _).trans hji11
            by_cases c12 : 0 ≤ (ji11)
            · rw [if_pos c12] at H
              have c12b0 := eq_true c12
              have c12b1 : decide (0 ≤ (ji11)) = true := decide_eq_true c12
              clear c12
              by_cases c13 : (ji11) ≤ (l0.length : Int)
              · rw [if_pos c13] at H
                have c13b0 := eq_true c13
                have c13b1 : decide ((ji11) ≤ (l0.length : Int)) = true := decide_eq_true c13
                clear c13
                obtain ⟨y156, hy156⟩ : ∃ y_ : List (S23), y_ = (l0.drop ((ji11) : Int).toNat) := ⟨_, rfl⟩
                replace H : (if y153.length + y156.length < 4398046511104 then ((some (y153 ++ y156 : List (S23))).bind fun y160 => ((some (l0.take ((ji11) : Int).toNat : List (S23))).bind fun y163 => (if y160.length + y163.length < 4398046511104 then ((prio_Sorted.f (y160 ++ y163)).bind fun t170 => (if (t150.length : Int) = (l0.length : Int) then (kissgatelaw10_PrioSorted.j1 kj4 l0 t150 t170 ((t170.length : Int) != (l0.length : Int))) else (kissgatelaw10_PrioSorted.j1 kj4 l0 t150 t170 true))) else (none)))) else (none)) = some r := by first | (rw [hy156]; with_reducible exact H) | (have H2_ := (Option.bind_some _ _).symm.trans H; rw [hy156]; with_reducible exact H2_) | (have H2_ := (Option.bind_some _ _).symm.trans H; with_reducible exact H2_) | with_reducible exact H | (rw [hy156]; exact H) | exact H
                have Ny156 := Aside0.mk hy156
                clear hy156
                by_cases c14 : y153.length + y156.length < 4398046511104
                · rw [if_pos c14] at H
                  have LMc14 := Aside0.mk c14
                  clear c14
                  obtain ⟨y160, hy160⟩ : ∃ y_ : List (S23), y_ = (y153 ++ y156) := ⟨_, rfl⟩
                  replace H : ((some (l0.take ((ji11) : Int).toNat : List (S23))).bind fun y163 => (if y160.length + y163.length < 4398046511104 then ((prio_Sorted.f (y160 ++ y163)).bind fun t170 => (if (t150.length : Int) = (l0.length : Int) then (kissgatelaw10_PrioSorted.j1 kj4 l0 t150 t170 ((t170.length : Int) != (l0.length : Int))) else (kissgatelaw10_PrioSorted.j1 kj4 l0 t150 t170 true))) else (none))) = some r := by first | (rw [hy160]; with_reducible exact H) | (have H2_ := (Option.bind_some _ _).symm.trans H; rw [hy160]; with_reducible exact H2_) | (have H2_ := (Option.bind_some _ _).symm.trans H; with_reducible exact H2_) | with_reducible exact H | (rw [hy160]; exact H) | exact H
                  have Ny160 := Aside0.mk hy160
                  clear hy160
                  have c15b0 := eq_true (of_decide_eq_true (by first | (with_reducible assumption) | assumption) : 0 ≤ (ji11))
                  have c16b0 := eq_true (of_decide_eq_true (by first | (with_reducible assumption) | assumption) : (ji11) ≤ (l0.length : Int))
                  obtain ⟨y163, hy163⟩ : ∃ y_ : List (S23), y_ = (l0.take ((ji11) : Int).toNat) := ⟨_, rfl⟩
                  replace H : (if y160.length + y163.length < 4398046511104 then ((prio_Sorted.f (y160 ++ y163)).bind fun t170 => (if (t150.length : Int) = (l0.length : Int) then (kissgatelaw10_PrioSorted.j1 kj4 l0 t150 t170 ((t170.length : Int) != (l0.length : Int))) else (kissgatelaw10_PrioSorted.j1 kj4 l0 t150 t170 true))) else (none)) = some r := by first | (rw [hy163]; with_reducible exact H) | (have H2_ := (Option.bind_some _ _).symm.trans H; rw [hy163]; with_reducible exact H2_) | (have H2_ := (Option.bind_some _ _).symm.trans H; with_reducible exact H2_) | with_reducible exact H | (rw [hy163]; exact H) | exact H
                  have Ny163 := Aside0.mk hy163
                  clear hy163
                  by_cases c17 : y160.length + y163.length < 4398046511104
                  · rw [if_pos c17] at H
                    have LMc17 := Aside0.mk c17
                    clear c17
                    obtain ⟨y167, hy167⟩ : ∃ y_ : List (S23), y_ = (y160 ++ y163) := ⟨_, rfl⟩
                    replace H : ((prio_Sorted.f y167).bind fun t170 => (if (t150.length : Int) = (l0.length : Int) then (kissgatelaw10_PrioSorted.j1 kj4 l0 t150 t170 ((t170.length : Int) != (l0.length : Int))) else (kissgatelaw10_PrioSorted.j1 kj4 l0 t150 t170 true))) = some r := by first | (rw [hy167]; with_reducible exact H) | (have H2_ := (Option.bind_some _ _).symm.trans H; rw [hy167]; with_reducible exact H2_) | (have H2_ := (Option.bind_some _ _).symm.trans H; with_reducible exact H2_) | with_reducible exact H | (rw [hy167]; exact H) | exact H
                    have Ny167 := Aside0.mk hy167
                    clear hy167
                    replace H := Option.bind_eq_some_iff.mp H
                    obtain ⟨t170, A180, H⟩ := H
                    replace H : (if (t150.length : Int) = (l0.length : Int) then (kissgatelaw10_PrioSorted.j1 kj4 l0 t150 t170 ((t170.length : Int) != (l0.length : Int))) else (kissgatelaw10_PrioSorted.j1 kj4 l0 t150 t170 true)) = some r := H
                    have A18 := Aside0.mk A180
                    clear A180
                    have HC19 := Aside0.mk H
                    clear H
                    try go_wp2
                    have n0_ := Aside0.mk (below_drew1 HB.out)
                    clear HB
                    have HB := n0_
                    clear n0_
                    have q21 : ((ji11) : Int) ≤ ((l0.length : Int) : Int) := of_decide_eq_true (by first | (with_reducible assumption) | assumption)
                    obtain ⟨i021, hi021, _, hsz21, _⟩ := info_parts info23
                    have hroom21 : l0.length ≤ c0 := HC0.out
                    have hC21 : Kd.C k23 _ A0 l0.length l0 := HR0.out
                    have q021 : (0 : Int) ≤ ((ji11) : Int) := of_decide_eq_true (by first | (with_reducible assumption) | assumption)
                    have hcut21 := cut_from (P := Try.prog) 67 23 .i64 Try.underlying67 hi021 4 hsz21 A0 l0.length c0 (ji11) q021 q21
                    have hr21 := Kd.C_drop (m := ((ji11) : Int).toNat) (c := c0) hC21 (by omega) hroom21
                    obtain ⟨A21, hA21⟩ : ∃ A1, A1 = (if c0 = ((ji11) : Int).toNat then A0 else (A0 : Option Addr).map (·.add (((ji11) : Int).toNat * 4))) := ⟨_, rfl⟩
                    obtain ⟨c21, hc21⟩ : ∃ c1, c1 = c0 - ((ji11) : Int).toNat := ⟨_, rfl⟩
                    have hy21 : y156.length = l0.length - ((ji11) : Int).toNat := (by rw [Ny156.out, List.length_drop] <;> omega)
                    rw [show (l0).drop ((ji11) : Int).toNat = y156 from Ny156.out.symm] at hr21
                    replace hr21 : Kd.C k23 _ A21 y156.length y156 := (by rw [hA21]; exact hr21)
                    rw [← hy21, ← hA21, ← hc21] at hcut21
                    have HR159 := Aside0.mk hr21
                    have HC159 := Aside0.mk (show y156.length ≤ c21 from by rw [hy21, hc21]; exact Nat.sub_le_sub_right hroom21 _)
                    clear hr21 hC21 hroom21 hi021 hsz21 hc21
                    have KY21 := Aside0.mk hy21
                    have KA21 := Aside0.mk hA21
                    clear hy21 hA21
                    replace q21 := eq_true q21
                    have q22 : ((ji11) : Int) ≤ ((l0.length : Int) : Int) := of_decide_eq_true (by first | (with_reducible assumption) | assumption)
                    obtain ⟨i022, hi022, _, hsz22, _⟩ := info_parts info23
                    have hroom22 : l0.length ≤ c0 := HC0.out
                    have hC22 : Kd.C k23 _ A0 l0.length l0 := HR0.out
                    have hcut22 := cut_to (P := Try.prog) 67 23 .i64 Try.underlying67 hi022 A0 l0.length c0 (ji11) (of_decide_eq_true (by first | (with_reducible assumption) | assumption)) q22 hroom22
                    have hr22 := Kd.C_take (m := ((ji11) : Int).toNat) hC22 (by omega)
                    have hy22 : y163.length = ((ji11) : Int).toNat := (by rw [Ny163.out, List.length_take]; omega)
                    rw [← Ny163.out] at hr22
                    rw [← hy22] at hcut22
                    have HR166 := Aside0.mk hr22
                    have HC166 := Aside0.mk (show y163.length ≤ c0 from by omega)
                    clear hr22 hC22 hroom22 hi022 hsz22
                    have KY22 := Aside0.mk hy22
                    clear hy22
                    replace q22 := eq_true q22
                    refine start_ (n := 14) (S := fun w' => True) (ds := []) #[false, false, false, false, false, false, false, false, false, false, false, false, false, false] (by kernel_rfl) rfl rfl trivial (fun hHeld => ?_); refine with_tabW kissgatelaw10_PrioSorted.tab7 kissgatelaw10_PrioSorted.bits7 (fun HT_ HW_ => ?_)
                    generalize wc.drew = w20 at HB HR159 HR166 hHeld ⊢
                    refine pure_ (i := 0) (N := some 29) (v := ?_) (a' := ?_) #[true, false, false, false, false, false, false, false, false, false, false, false, false, false] rfl rfl (any_of HT_.out (by kernel_rfl)) (fun _ _ _ h => h) (Or.inl ⟨by rfl, ?_⟩) ?_ ?_
                    rotate_left
                    · intro w'
                      go_simp
                      with_reducible rfl
                    rotate_left
                    · simp only [Act.put, List.setIfInBounds_toArray, List.set_cons_zero, List.set_cons_succ, i64_w, i32_w]
                      rfl
                    refine pure_ (i := 3) (N := some 32) (v := ?_) (a' := ?_) #[true, false, false, true, false, false, false, false, false, false, false, false, false, false] rfl rfl (any_of HT_.out (by kernel_rfl)) (fun _ _ _ h => h) (Or.inl ⟨by rfl, ?_⟩) ?_ ?_
                    rotate_left
                    · intro w'
                      go_simp
                      with_reducible rfl
                    rotate_left
                    · simp only [Act.put, List.setIfInBounds_toArray, List.set_cons_zero, List.set_cons_succ, i64_w, i32_w]
                      rfl
                    refine pure_ (i := 4) (N := some 33) (v := ?_) (a' := ?_) #[true, false, false, true, true, false, false, false, false, false, false, false, false, false] rfl rfl (any_of HT_.out (by kernel_rfl)) (fun _ _ _ h => h) (Or.inl ⟨by rfl, ?_⟩) ?_ ?_
                    rotate_left
                    · intro w'
                      go_simp
                      with_reducible rfl
                    rotate_left
                    · simp only [Act.put, List.setIfInBounds_toArray, List.set_cons_zero, List.set_cons_succ, i64_w, i32_w]
                      rfl
                    refine pure_ (i := 5) (N := some 34) (v := ?_) (a' := ?_) #[true, false, false, true, true, true, false, false, false, false, false, false, false, false] rfl rfl (any_of HT_.out (by kernel_rfl)) (fun _ _ _ h => h) (Or.inl ⟨by rfl, ?_⟩) ?_ ?_
                    rotate_left
                    · intro w'
                      go_simp
                      with_reducible rfl
                    rotate_left
                    · simp only [Act.put, List.setIfInBounds_toArray, List.set_cons_zero, List.set_cons_succ, i64_w, i32_w]
                      rfl
                    refine pure_ (i := 7) (N := some 36) (v := ?_) (a' := ?_) #[true, false, false, true, true, true, false, true, false, false, false, false, false, false] rfl rfl (any_of HT_.out (by kernel_rfl)) (fun _ _ _ h => h) (Or.inl ⟨by rfl, ?_⟩) ?_ ?_
                    rotate_left
                    · intro w'
                      go_simp
                      with_reducible rfl
                    rotate_left
                    · simp only [Act.put, List.setIfInBounds_toArray, List.set_cons_zero, List.set_cons_succ, i64_w, i32_w]
                      rfl
                    refine pure_ (i := 8) (N := some 37) (v := ?_) (a' := ?_) #[true, false, false, true, true, true, false, true, true, false, false, false, false, false] rfl rfl (any_of HT_.out (by kernel_rfl)) (fun _ _ _ h => h) (Or.inl ⟨by rfl, ?_⟩) ?_ ?_
                    rotate_left
                    · intro w'
                      go_simp
                      with_reducible rfl
                    rotate_left
                    · simp only [Act.put, List.setIfInBounds_toArray, List.set_cons_zero, List.set_cons_succ, i64_w, i32_w]
                      rfl
                    refine pure_ (i := 9) (N := some 38) (v := ?_) (a' := ?_) #[true, false, false, true, true, true, false, true, true, true, false, false, false, false] rfl rfl (any_of HT_.out (by kernel_rfl)) (fun _ _ _ h => h) (Or.inl ⟨by rfl, ?_⟩) ?_ ?_
                    rotate_left
                    · intro w'
                      go_simp
                      with_reducible rfl
                    rotate_left
                    · simp only [Act.put, List.setIfInBounds_toArray, List.set_cons_zero, List.set_cons_succ, i64_w, i32_w]
                      rfl
                    refine join_ (σ := Value × Value) 5 #[true, true, true, true, true, true, false, true, true, true, false, false, false, false] (fun s_ => [(30, s_.1), (31, s_.2)]) (fun s_ w' => (Kd.R k23 23 w' w.heap.size (fun k_ => some k_ ≠ (s_.2 : Value).ownBlock) s_.1 t150) ∧ (Kd.R k23 23 w' w.heap.size (fun k_ => some k_ ≠ (s_.1 : Value).ownBlock) s_.2 y153) ∧ (Below w.heap.size w w')) ?_ ?_
                    rotate_left
                    · intro hCont
                      refine two_ (i := 1) (j := 2) (Ni := some 30) (Nj := some 31) #[true, true, false, true, true, true, false, true, true, true, false, false, false, false] #[true, false, true, true, true, true, false, true, true, true, false, false, false, false] rfl rfl rfl rfl (two_of HT_.out (by kernel_rfl)) (by decide) (by decide) (fun K hK => ?_) (fun K hK => ?_)
                      · skip
                        refine goes_ Try.func31 (by kernel_rfl) rfl #[.slice A0 l0.length c0] (by rfl) rfl rfl (by (try simp only [List.map_toArray, List.map_cons, List.map_nil]); first | done | rfl | (simp only [List.length_drop, List.length_take]; rfl)) ?_
                        with_reducible refine (prio_Sorted.calls _ _ l0 t150 _ ?side1 ?side2 A10.out).mono ?_
                        (case side1 => repeat (first | exact (Kd.C_below HR0.out HB.out) | (with_reducible refine Kd.C_alloc ?_ _) | (with_reducible refine Kd.C_drewN ?_ _) | (with_reducible refine Kd.C_drew ?_)))
                        (case side2 => exact HC0.out)
                        rintro e w23 ⟨v151, rfl, ho0, hb⟩
                        refine ⟨_, rfl, ?_⟩
                        have n0_ := Aside0.mk (Kd.R_lower ho0 (below_size (by repeat (first | (with_reducible first | exact HB.out | apply below_alloc | apply pw_below_drewN | apply below_drew1) | exact HB.out))))
                        have n1_ := Aside0.mk (below_step (by repeat (first | (with_reducible first | exact HB.out | apply below_alloc | apply pw_below_drewN | apply below_drew1) | exact HB.out)) hb)
                        clear HB
                        have HO152 := n0_
                        have HB := n1_
                        clear n0_ n1_
                        (try clear hb)
                        (try clear hb2)
                        (try clear hk)
                        (try clear hi)
                        (try clear ho0)
                        refine hK.out _ _ trivial (fun hHeld => ?_)
                        clear hK K
                        refine norm_ (a' := ?_) ?_ ?_
                        rotate_left
                        · show Act.put _ (some 30) _ = _
                          simp only [Act.put, List.setIfInBounds_toArray, List.set_cons_zero, List.set_cons_succ, i64_w, i32_w]
                          rfl
                        refine one_ (i := 2) (N := some 31) #[true, true, true, true, true, true, false, true, true, true, false, false, false, false] rfl rfl (one_of HT_.out (by kernel_rfl)) (by decide) (fun K hK => ?_)
                        refine Kd.R_lit_step k23 _ 23 ?hg (N := 31) ?hd (xs := ([] : List (S23))) (inner := []) (ok := fun _ => True) (okp := fun _ => True) ?hr ?hp (fun _ hk => hk) trivial (Below.refl _ _) (Nat.le_refl _) (by simp) ?_; (case hd => rfl); (case hg => rfl); (case hr => first | (go_simp; done) | (go_simp; rfl)); (case hp => exact (Reps.none _ _))
                        intro v154 w24 ho25 hb hg_ hnew_
                        clear hg_ hnew_
                        (first | rw [← Ny153.out] at ho25 | (simp only [Int.reduceToNat] at ho25; rw [← Ny153.out] at ho25))
                        have n0_ := Aside0.mk (Kd.R_elder' (by (with_reducible repeat (first | apply Kd.R_alloc | apply Kd.R_drewN | apply Kd.R_drew)); exact HO152.out) (Kd.R_base ho25) hb)
                        have n1_ := Aside0.mk (Kd.R_lower (Kd.R_new' ho25 (Kd.R_lt (by (with_reducible repeat (first | apply Kd.R_alloc | apply Kd.R_drewN | apply Kd.R_drew)); exact HO152.out))) (below_size (by repeat (first | (with_reducible first | exact HB.out | apply below_alloc | apply pw_below_drewN | apply below_drew1) | exact HB.out))))
                        have n2_ := Aside0.mk (below_step (by repeat (first | (with_reducible first | exact HB.out | apply below_alloc | apply pw_below_drewN | apply below_drew1) | exact HB.out)) hb)
                        clear HO152
                        clear HB
                        have HO152 := n0_
                        have HO155 := n1_
                        have HB := n2_
                        clear n0_ n1_ n2_
                        clear hb ho25
                        refine hK.out _ _ trivial (fun hHeld => ?_)
                        clear hK K
                        refine norm_ (a' := ?_) ?_ ?_
                        rotate_left
                        · show Act.put _ (some 31) _ = _
                          simp only [Act.put, List.setIfInBounds_toArray, List.set_cons_zero, List.set_cons_succ, i64_w, i32_w]
                          rfl
                        exact norm_ (by simp only [putAll, Act.put, List.setIfInBounds_toArray, List.set_cons_zero, List.set_cons_succ]) (hCont (v151, v154) _ ⟨(by (with_reducible repeat (first | apply Kd.R_alloc | apply Kd.R_drewN | apply Kd.R_drew)); exact Kd.R_mono HO152.out (fun _ hk => hk.2)), (by (with_reducible repeat (first | apply Kd.R_alloc | apply Kd.R_drewN | apply Kd.R_drew)); exact Kd.R_mono HO155.out (fun _ hk => hk.2)), (by repeat (first | (with_reducible first | exact HB.out | apply below_alloc | apply pw_below_drewN | apply below_drew1) | exact HB.out))⟩)
                      · skip
                        refine Kd.R_lit_step k23 _ 23 ?hg (N := 31) ?hd (xs := ([] : List (S23))) (inner := []) (ok := fun _ => True) (okp := fun _ => True) ?hr ?hp (fun _ hk => hk) trivial (Below.refl _ _) (Nat.le_refl _) (by simp) ?_; (case hd => rfl); (case hg => rfl); (case hr => first | (go_simp; done) | (go_simp; rfl)); (case hp => exact (Reps.none _ _))
                        intro v154 w23 ho24 hb hg_ hnew_
                        clear hg_ hnew_
                        (first | rw [← Ny153.out] at ho24 | (simp only [Int.reduceToNat] at ho24; rw [← Ny153.out] at ho24))
                        have n0_ := Aside0.mk (Kd.R_lower ho24 (below_size (by repeat (first | (with_reducible first | exact HB.out | apply below_alloc | apply pw_below_drewN | apply below_drew1) | exact HB.out))))
                        have n1_ := Aside0.mk (below_step (by repeat (first | (with_reducible first | exact HB.out | apply below_alloc | apply pw_below_drewN | apply below_drew1) | exact HB.out)) hb)
                        clear HB
                        have HO155 := n0_
                        have HB := n1_
                        clear n0_ n1_
                        clear hb ho24
                        refine hK.out _ _ trivial (fun hHeld => ?_)
                        clear hK K
                        refine norm_ (a' := ?_) ?_ ?_
                        rotate_left
                        · show Act.put _ (some 31) _ = _
                          simp only [Act.put, List.setIfInBounds_toArray, List.set_cons_zero, List.set_cons_succ, i64_w, i32_w]
                          rfl
                        refine one_ (i := 1) (N := some 30) #[true, true, true, true, true, true, false, true, true, true, false, false, false, false] rfl rfl (one_of HT_.out (by kernel_rfl)) (by decide) (fun K hK => ?_)
                        refine goes_ Try.func31 (by kernel_rfl) rfl #[.slice A0 l0.length c0] (by rfl) rfl rfl (by (try simp only [List.map_toArray, List.map_cons, List.map_nil]); first | done | rfl | (simp only [List.length_drop, List.length_take]; rfl)) ?_
                        with_reducible refine (prio_Sorted.calls _ _ l0 t150 _ ?side1 ?side2 A10.out).mono ?_
                        (case side1 => repeat (first | exact (Kd.C_below HR0.out HB.out) | (with_reducible refine Kd.C_alloc ?_ _) | (with_reducible refine Kd.C_drewN ?_ _) | (with_reducible refine Kd.C_drew ?_)))
                        (case side2 => exact HC0.out)
                        rintro e w25 ⟨v151, rfl, ho0, hb⟩
                        refine ⟨_, rfl, ?_⟩
                        have n0_ := Aside0.mk (Kd.R_elder' (by (with_reducible repeat (first | apply Kd.R_alloc | apply Kd.R_drewN | apply Kd.R_drew)); exact HO155.out) (Kd.R_base ho0) hb)
                        have n1_ := Aside0.mk (Kd.R_lower (Kd.R_new' ho0 (Kd.R_lt (by (with_reducible repeat (first | apply Kd.R_alloc | apply Kd.R_drewN | apply Kd.R_drew)); exact HO155.out))) (below_size (by repeat (first | (with_reducible first | exact HB.out | apply below_alloc | apply pw_below_drewN | apply below_drew1) | exact HB.out))))
                        have n2_ := Aside0.mk (below_step (by repeat (first | (with_reducible first | exact HB.out | apply below_alloc | apply pw_below_drewN | apply below_drew1) | exact HB.out)) hb)
                        clear HO155
                        clear HB
                        have HO155 := n0_
                        have HO152 := n1_
                        have HB := n2_
                        clear n0_ n1_ n2_
                        (try clear hb)
                        (try clear hb2)
                        (try clear hk)
                        (try clear hi)
                        (try clear ho0)
                        refine hK.out _ _ trivial (fun hHeld => ?_)
                        clear hK K
                        refine norm_ (a' := ?_) ?_ ?_
                        rotate_left
                        · show Act.put _ (some 30) _ = _
                          simp only [Act.put, List.setIfInBounds_toArray, List.set_cons_zero, List.set_cons_succ, i64_w, i32_w]
                          rfl
                        exact norm_ (by simp only [putAll, Act.put, List.setIfInBounds_toArray, List.set_cons_zero, List.set_cons_succ]) (hCont (v151, v154) _ ⟨(by (with_reducible repeat (first | apply Kd.R_alloc | apply Kd.R_drewN | apply Kd.R_drew)); exact Kd.R_mono HO152.out (fun _ hk => hk.2)), (by (with_reducible repeat (first | apply Kd.R_alloc | apply Kd.R_drewN | apply Kd.R_drew)); exact Kd.R_mono HO155.out (fun _ hk => hk.2)), (by repeat (first | (with_reducible first | exact HB.out | apply below_alloc | apply pw_below_drewN | apply below_drew1) | exact HB.out))⟩)
                    rintro ⟨v151, v154⟩ w26 ⟨h0_, h1_, h2_⟩
                    have n0_ : Aside0 (Kd.R k23 23 w26 w.heap.size (fun k_ => some k_ ≠ (v154 : Value).ownBlock) v151 t150) := ⟨h0_⟩
                    have n1_ : Aside0 (Kd.R k23 23 w26 w.heap.size (fun k_ => some k_ ≠ (v151 : Value).ownBlock) v154 y153) := ⟨h1_⟩
                    have n2_ : Aside0 (Below w.heap.size w w26) := ⟨h2_⟩
                    clear HB
                    clear h0_ h1_ h2_
                    have HO152 := n0_
                    have HO155 := n1_
                    have HB := n2_
                    clear n0_ n1_ n2_
                    have hHeld := trivial
                    refine norm_ (a' := ?_) ?_ ?_
                    rotate_left
                    · simp only [putAll, Act.put, List.setIfInBounds_toArray, List.set_cons_zero, List.set_cons_succ]
                      rfl
                    refine one_ (i := 6) (N := some 35) #[true, true, true, true, true, true, true, true, true, true, false, false, false, false] rfl rfl (one_of HT_.out (by kernel_rfl)) (by decide) (fun K hK => ?_)
                    refine Kd.R_append_rows_step k23 (w0 := w) w.heap.size (by rfl) (.tmp 31) (.tmp 34) 67 23 (.agg #[(.int .i64 0), (.int .i64 0), (.int .i64 0), (.int .i64 0)]) 32 rfl Try.underlying67 info23 rfl (by decide) (by omega) v154 y153 y156 _ _ _ (fun k_ => some k_ ≠ (v151 : Value).ownBlock) (fun _ => False) rfl rfl ?aO ?aR (fun _ _ h => h) (fun _ h => h.elim) ?aF ?aB ?aS ?aL ?_
                    (case aR => repeat (first | exact (Kd.C_below HR159.out HB.out) | (with_reducible refine Kd.C_alloc ?_ _) | (with_reducible refine Kd.C_drewN ?_ _) | (with_reducible refine Kd.C_drew ?_)))
                    (case aB => exact (by repeat (first | (with_reducible first | exact HB.out | apply below_alloc | apply pw_below_drewN | apply below_drew1) | exact HB.out)))
                    (case aF => exact (fun k_ hk => Kd.fresh' (Kd.R_lt (by (with_reducible repeat (first | apply Kd.R_alloc | apply Kd.R_drewN | apply Kd.R_drew)); exact HO152.out)) k_ hk))
                    (case aO => exact (by (with_reducible repeat (first | apply Kd.R_alloc | apply Kd.R_drewN | apply Kd.R_drew)); exact HO155.out))
                    (case aS => exact (below_size (by repeat (first | (with_reducible first | exact HB.out | apply below_alloc | apply pw_below_drewN | apply below_drew1) | exact HB.out))))
                    (case aL => have := LMc14.out; omega)
                    intro v161 w27 ho hb hg hat
                    rw [← Ny160.out] at ho
                    have n0_ := Aside0.mk (Kd.R_after (ok := (fun _ => True)) (by (with_reducible repeat (first | apply Kd.R_alloc | apply Kd.R_drewN | apply Kd.R_drew)); exact Kd.R_mono HO152.out (fun _ hk => ⟨trivial, hk⟩)) hg hat)
                    have n1_ := Aside0.mk (hb)
                    have n2_ := Aside0.mk (ho)
                    clear HO152
                    clear HB
                    clear HO155
                    have HO152 := n0_
                    have HB := n1_
                    have HO162 := n2_
                    clear n0_ n1_ n2_
                    clear ho hb hg hat
                    refine hK.out _ _ trivial (fun hHeld => ?_)
                    clear hK K
                    refine norm_ (a' := ?_) ?_ ?_
                    rotate_left
                    · show Act.put _ (some 35) _ = _
                      simp only [Act.put, List.setIfInBounds_toArray, List.set_cons_zero, List.set_cons_succ, i64_w, i32_w]
                      rfl
                    refine one_ (i := 10) (N := some 39) #[true, true, true, true, true, true, true, true, true, true, true, false, false, false] rfl rfl (one_of HT_.out (by kernel_rfl)) (by decide) (fun K hK => ?_)
                    refine Kd.R_append_rows_step k23 (w0 := w) w.heap.size (by rfl) (.tmp 35) (.tmp 38) 67 23 (.agg #[(.int .i64 0), (.int .i64 0), (.int .i64 0), (.int .i64 0)]) 32 rfl Try.underlying67 info23 rfl (by decide) (by omega) v161 y160 y163 _ _ _ (fun k_ => some k_ ≠ (v151 : Value).ownBlock) (fun _ => False) rfl rfl ?aO ?aR (fun _ _ h => h) (fun _ h => h.elim) ?aF ?aB ?aS ?aL ?_
                    (case aR => repeat (first | exact (Kd.C_below HR166.out HB.out) | (with_reducible refine Kd.C_alloc ?_ _) | (with_reducible refine Kd.C_drewN ?_ _) | (with_reducible refine Kd.C_drew ?_)))
                    (case aB => exact (by repeat (first | (with_reducible first | exact HB.out | apply below_alloc | apply pw_below_drewN | apply below_drew1) | exact HB.out)))
                    (case aF => exact (fun k_ hk => Kd.fresh' (Kd.R_lt (by (with_reducible repeat (first | apply Kd.R_alloc | apply Kd.R_drewN | apply Kd.R_drew)); exact HO152.out)) k_ hk))
                    (case aO => exact (by (with_reducible repeat (first | apply Kd.R_alloc | apply Kd.R_drewN | apply Kd.R_drew)); exact HO162.out))
                    (case aS => exact (below_size (by repeat (first | (with_reducible first | exact HB.out | apply below_alloc | apply pw_below_drewN | apply below_drew1) | exact HB.out))))
                    (case aL => have := LMc17.out; omega)
                    intro v168 w28 ho hb hg hat
                    rw [← Ny167.out] at ho
                    have n0_ := Aside0.mk (Kd.R_after (ok := (fun _ => True)) (by (with_reducible repeat (first | apply Kd.R_alloc | apply Kd.R_drewN | apply Kd.R_drew)); exact HO152.out) hg hat)
                    have n1_ := Aside0.mk (hb)
                    have n2_ := Aside0.mk (ho)
                    clear HO152
                    clear HB
                    clear HO162
                    have HO152 := n0_
                    have HB := n1_
                    have HO169 := n2_
                    clear n0_ n1_ n2_
                    clear ho hb hg hat
                    obtain ⟨Ao29, co29, eo29⟩ := Kd.R_slice HO169.out
                    (first | subst eo29 | (injection eo29 with f1_ f2_ f3_; have f4_ := f1_.symm; have f5_ := f3_.symm; clear f1_ f2_ f3_; subst f4_; subst f5_))
                    refine hK.out _ _ trivial (fun hHeld => ?_)
                    clear hK K
                    refine norm_ (a' := ?_) ?_ ?_
                    rotate_left
                    · show Act.put _ (some 39) _ = _
                      simp only [Act.put, List.setIfInBounds_toArray, List.set_cons_zero, List.set_cons_succ, i64_w, i32_w]
                      rfl
                    refine one_ (i := 11) (N := some 40) #[true, true, true, true, true, true, true, true, true, true, true, true, false, false] rfl rfl (one_of HT_.out (by kernel_rfl)) (by decide) (fun K hK => ?_)
                    refine goes_ Try.func31 (by kernel_rfl) rfl #[.slice Ao29 y167.length co29] (by rfl) rfl rfl (by (try simp only [List.map_toArray, List.map_cons, List.map_nil]); first | done | rfl | (simp only [List.length_drop, List.length_take]; rfl)) ?_
                    with_reducible refine (prio_Sorted.calls _ _ y167 t170 _ ?side1 ?side2 A18.out).mono ?_
                    (case side1 => repeat (first | exact (Kd.R_reads' HO169.out).2.2 | (with_reducible refine Kd.C_alloc ?_ _) | (with_reducible refine Kd.C_drewN ?_ _) | (with_reducible refine Kd.C_drew ?_)))
                    (case side2 => exact (Kd.R_reads' HO169.out).2.1)
                    rintro e w30 ⟨v171, rfl, ho0, hb⟩
                    refine ⟨_, rfl, ?_⟩
                    have n0_ := Aside0.mk (Kd.R_elder' (by (with_reducible repeat (first | apply Kd.R_alloc | apply Kd.R_drewN | apply Kd.R_drew)); exact HO152.out) (Kd.R_base ho0) hb)
                    have n1_ := Aside0.mk (Kd.R_elder' (by (with_reducible repeat (first | apply Kd.R_alloc | apply Kd.R_drewN | apply Kd.R_drew)); exact HO169.out) (Kd.R_base ho0) hb)
                    have n2_ := Aside0.mk (Kd.R_lower (Kd.R_new' (Kd.R_new' ho0 (Kd.R_lt (by (with_reducible repeat (first | apply Kd.R_alloc | apply Kd.R_drewN | apply Kd.R_drew)); exact HO152.out))) (Kd.R_lt (by (with_reducible repeat (first | apply Kd.R_alloc | apply Kd.R_drewN | apply Kd.R_drew)); exact HO169.out))) (below_size (by repeat (first | (with_reducible first | exact HB.out | apply below_alloc | apply pw_below_drewN | apply below_drew1) | exact HB.out))))
                    have n3_ := Aside0.mk (below_step (by repeat (first | (with_reducible first | exact HB.out | apply below_alloc | apply pw_below_drewN | apply below_drew1) | exact HB.out)) hb)
                    clear HO152
                    clear HO169
                    clear HB
                    have HO152 := n0_
                    have HO169 := n1_
                    have HO172 := n2_
                    have HB := n3_
                    clear n0_ n1_ n2_ n3_
                    (try clear hb)
                    (try clear hb2)
                    (try clear hk)
                    (try clear hi)
                    (try clear ho0)
                    refine hK.out _ _ trivial (fun hHeld => ?_)
                    clear hK K
                    refine norm_ (a' := ?_) ?_ ?_
                    rotate_left
                    · show Act.put _ (some 40) _ = _
                      simp only [Act.put, List.setIfInBounds_toArray, List.set_cons_zero, List.set_cons_succ, i64_w, i32_w]
                      rfl
                    refine pure_ (i := 12) (N := some 7) (v := ?_) (a' := ?_) #[true, true, true, true, true, true, true, true, true, true, true, true, true, false] rfl rfl (any_of HT_.out (by kernel_rfl)) (fun _ _ _ h => h) (Or.inl ⟨by rfl, ?_⟩) ?_ ?_
                    rotate_left
                    · intro w'
                      go_simp
                      with_reducible rfl
                    rotate_left
                    · simp only [Act.put, List.setIfInBounds_toArray, List.set_cons_zero, List.set_cons_succ, i64_w, i32_w]
                      rfl
                    refine pure_ (i := 13) (N := some 8) (v := ?_) (a' := ?_) #[true, true, true, true, true, true, true, true, true, true, true, true, true, true] rfl rfl (any_of HT_.out (by kernel_rfl)) (fun _ _ _ h => h) (Or.inl ⟨by rfl, ?_⟩) ?_ ?_
                    rotate_left
                    · intro w'
                      go_simp
                      with_reducible rfl
                    rotate_left
                    · simp only [Act.put, List.setIfInBounds_toArray, List.set_cons_zero, List.set_cons_succ, i64_w, i32_w]
                      rfl
                    refine done_ (done_of HT_.out (by kernel_rfl)) ?_
                    go_upto_region 8 with (fail)
                    go_cut [50] (fun v50 wc => ∃ (kq : Nat) (x50_18 : Bool), v50 = .bool x50_18 ∧ Aside0 (kissgatelaw10_PrioSorted.j1 kq l0 t150 t170 x50_18 = some r) ∧ Aside0 (kq ≤ kj4) ∧ Aside0 (Kd.R k23 23 wc w.heap.size (fun k_ => some k_ ≠ (v171 : Value).ownBlock) v151 t150) ∧ Aside0 (Kd.R k23 23 wc w.heap.size (fun k_ => some k_ ≠ (v151 : Value).ownBlock) v171 t170) ∧ Aside0 (Below w.heap.size w wc))
                    case first =>
                      have H := HC19.out
                      clear HC19
                      by_cases c31 : (t150.length : Int) = (l0.length : Int)
                      · rw [if_pos c31] at H
                        have c31b0 : ((t150.length : Int) == (l0.length : Int)) = true := beq_iff_eq.mpr c31
                        have c31b1 : ((t150.length : Int) != (l0.length : Int)) = false := bne_eq_false_iff_eq.mpr c31
                        have c31b2 : (t150.length == l0.length) = true := by first | simpa using c31 | (simp at c31 ⊢; omega)
                        clear c31
                        (first | rw [c31b0] | (simp only [i64_w, i32_w]; rw [c31b0]) | skip)
                        have H' := Aside0.mk H
                        clear H
                        obtain ⟨Ao32, co32, eo32⟩ := Kd.R_slice HO152.out
                        subst eo32
                        obtain ⟨Ao33, co33, eo33⟩ := Kd.R_slice HO172.out
                        subst eo33
                        go_wp2
                        go_meet
                        case rel => exact ⟨_, (((t170.length : Int) != (l0.length : Int))), (by first | rfl | (simp; done) | (simp [*]; done)), H', ⟨by have := HJ4.out; first | omega | exact Nat.le_refl _⟩, ⟨by (with_reducible repeat (first | apply Kd.R_alloc | apply Kd.R_drewN | apply Kd.R_drew)); exact Kd.R_mono HO152.out (fun _ hk => hk.2)⟩, ⟨by (with_reducible repeat (first | apply Kd.R_alloc | apply Kd.R_drewN | apply Kd.R_drew)); exact Kd.R_mono HO172.out (fun _ hk => hk.1.2)⟩, ⟨by repeat (first | (with_reducible first | exact HB.out | apply below_alloc | apply pw_below_drewN | apply below_drew1) | exact HB.out)⟩⟩
                      · rw [if_neg c31] at H
                        have c31b0 : ((t150.length : Int) == (l0.length : Int)) = false := beq_eq_false_iff_ne.mpr c31
                        have c31b1 : ((t150.length : Int) != (l0.length : Int)) = true := bne_iff_ne.mpr c31
                        have c31b2 : (t150.length == l0.length) = false := by first | simpa using c31 | (simp at c31 ⊢; omega)
                        (first | rw [c31b0] | (simp only [i64_w, i32_w]; rw [c31b0]) | skip)
                        have H' := Aside0.mk H
                        clear H
                        obtain ⟨Ao34, co34, eo34⟩ := Kd.R_slice HO152.out
                        subst eo34
                        go_wp2
                        go_meet
                        case rel => exact ⟨_, (true), (by first | rfl | (simp; done) | (simp [*]; done)), H', ⟨by have := HJ4.out; first | omega | exact Nat.le_refl _⟩, ⟨by (with_reducible repeat (first | apply Kd.R_alloc | apply Kd.R_drewN | apply Kd.R_drew)); exact Kd.R_mono HO152.out (fun _ hk => hk.2)⟩, ⟨by (with_reducible repeat (first | apply Kd.R_alloc | apply Kd.R_drewN | apply Kd.R_drew)); exact Kd.R_mono HO172.out (fun _ hk => hk.1.2)⟩, ⟨by repeat (first | (with_reducible first | exact HB.out | apply below_alloc | apply pw_below_drewN | apply below_drew1) | exact HB.out)⟩⟩
                    case rest =>
                      clear HC19
                      try clear c1
                      try clear c2
                      try clear p2
                      try clear q2
                      try clear c3
                      try clear c4
                      try clear p6
                      try clear c7
                      try clear c7b0
                      try clear c7b1
                      try clear c8
                      try clear c9
                      try clear c9b0
                      try clear c9b1
                      try clear c11
                      try clear c12
                      try clear c12b0
                      try clear c12b1
                      try clear c13
                      try clear c13b0
                      try clear c13b1
                      try clear c14
                      try clear c15
                      try clear c15b0
                      try clear c16
                      try clear c16b0
                      try clear c17
                      try clear c21
                      try clear q21
                      try clear q22
                      try clear c31
                      try clear c31b0
                      try clear c31b1
                      try clear c31b2
                      try clear p2
                      try clear q021
                      try clear q21
                      try clear q22
                      obtain ⟨kq, x50_18, rfl, HA, HJ18, HO_7, HO_8, HB⟩ := hcut
                      cases kq with
                      | zero => exact absurd HA.out (by simp [kissgatelaw10_PrioSorted.j1])
                      | succ kj18 =>
                        have H := HA.out
                        clear HA
                        simp only [kissgatelaw10_PrioSorted.j1] at H
                        by_cases c35 : x50_18 = true
                        · subst c35
                          have H1 : (some false) = some r := by rw [if_pos rfl] at H; exact H
                          clear H
                          have H := H1
                          clear H1
                          exact absurd (Option.some.inj H) (by rw [HRT.out]; decide)
                        · replace c35 := Bool.eq_false_iff.mpr c35
                          subst c35
                          have H1 : (kissgatelaw10_PrioSorted.l0 kj18 l0 t150 t170 (t150.length : Int) 0) = some r := by rw [if_neg (show ¬ (false = true) by decide)] at H; exact H
                          clear H
                          have H := H1
                          clear H1
                          have H' := Aside0.mk H
                          clear H
                          obtain ⟨Ao36, co36, eo36⟩ := Kd.R_slice HO_7.out
                          subst eo36
                          go_wp2
                          go_loopg [53] kj18 (fun kq v53 w' => ∃ (x53_3 : Int), v53 = .int .i64 x53_3 ∧ Aside0 (kissgatelaw10_PrioSorted.l0 kq l0 t150 t170 (t150.length : Int) x53_3 = some r) ∧ Aside0 (kq ≤ kj18) ∧ Aside0 (Kd.R k23 23 w' w.heap.size (fun k_ => some k_ ≠ (v171 : Value).ownBlock) (.slice Ao36 t150.length co36) t150) ∧ Aside0 (Kd.R k23 23 w' w.heap.size (fun k_ => some k_ ≠ ((.slice Ao36 t150.length co36) : Value).ownBlock) v171 t170) ∧ Aside0 (Below w.heap.size w w'))
                          case atStart => exact ⟨(0), (by first | rfl | (simp; done) | (simp [*]; done)), H', ⟨Nat.le_refl _⟩, ⟨by (with_reducible repeat (first | apply Kd.R_alloc | apply Kd.R_drewN | apply Kd.R_drew)); exact HO_7.out⟩, ⟨by (with_reducible repeat (first | apply Kd.R_alloc | apply Kd.R_drewN | apply Kd.R_drew)); exact HO_8.out⟩, ⟨by repeat (first | (with_reducible first | exact HB.out | apply below_alloc | apply pw_below_drewN | apply below_drew1) | exact HB.out)⟩⟩
                          case round =>
                            clear H'
                            try clear c1
                            try clear c2
                            try clear p2
                            try clear q2
                            try clear c3
                            try clear c4
                            try clear p6
                            try clear c7
                            try clear c7b0
                            try clear c7b1
                            try clear c8
                            try clear c9
                            try clear c9b0
                            try clear c9b1
                            try clear c11
                            try clear c12
                            try clear c12b0
                            try clear c12b1
                            try clear c13
                            try clear c13b0
                            try clear c13b1
                            try clear c14
                            try clear c15
                            try clear c15b0
                            try clear c16
                            try clear c16b0
                            try clear c17
                            try clear c21
                            try clear q21
                            try clear q22
                            try clear c31
                            try clear c31b0
                            try clear c31b1
                            try clear c31b2
                            try clear c35
                            try clear p2
                            try clear p6
                            try clear q021
                            try clear q2
                            try clear q21
                            try clear q22
                            obtain ⟨x53_3, rfl, HA, HK3, HO_7, HO_8, HB⟩ := hrel
                            cases gk with
                            | zero => exact absurd HA.out (by simp [kissgatelaw10_PrioSorted.l0])
                            | succ k3 =>
                              have H := HA.out
                              clear HA
                              simp only [kissgatelaw10_PrioSorted.l0] at H
                              by_cases c37 : x53_3 < (t150.length : Int)
                              · rw [if_pos c37] at H
                                have c37b0 : decide (x53_3 < (t150.length : Int)) = true := decide_eq_true c37
                                clear c37
                                have HC38 := Aside0.mk H
                                clear H
                                go_upto_region 13 with (fail)
                                go_cut [80] (fun v80 wc => ∃ (kq : Nat) (x80_37 : Bool), v80 = .bool x80_37 ∧ Aside0 (kissgatelaw10_PrioSorted.j3 kq l0 t150 t170 x53_3 (t150.length : Int) x53_3 x80_37 = some r) ∧ Aside0 (kq ≤ k3) ∧ Aside0 (Kd.R k23 23 wc w.heap.size (fun k_ => some k_ ≠ (v171 : Value).ownBlock) (.slice Ao36 t150.length co36) t150) ∧ Aside0 (Kd.R k23 23 wc w.heap.size (fun k_ => some k_ ≠ ((.slice Ao36 t150.length co36) : Value).ownBlock) v171 t170) ∧ Aside0 (Below w.heap.size w wc))
                                case first =>
                                  have H := HC38.out
                                  clear HC38
                                  by_cases c39 : 0 ≤ x53_3
                                  · rw [if_pos c39] at H
                                    have c39b0 : decide (0 ≤ x53_3) = true := decide_eq_true c39
                                    clear c39
                                    (first | rw [c39b0] | (simp only [i64_w, i32_w]; rw [c39b0]) | skip)
                                    by_cases c40 : x53_3 < (t150.length : Int)
                                    · rw [if_pos c40] at H
                                      have c40b0 : decide (x53_3 < (t150.length : Int)) = true := decide_eq_true c40
                                      clear c40
                                      by_cases c41 : x53_3 < (t170.length : Int)
                                      · rw [if_pos c41] at H
                                        have c41b0 : decide (x53_3 < (t170.length : Int)) = true := decide_eq_true c41
                                        clear c41
                                        by_cases c42 : (!(((rd_T23 t150 x53_3).f0) == ((rd_T23 t170 x53_3).f0)) || (!(((rd_T23 t150 x53_3).f1) == ((rd_T23 t170 x53_3).f1)) || (!(((rd_T23 t150 x53_3).f2) == ((rd_T23 t170 x53_3).f2)) || (!(((rd_T23 t150 x53_3).f3) == ((rd_T23 t170 x53_3).f3)))))) = true
                                        · rw [if_pos c42] at H
                                          have c42b0 : (!(((rd_T23 t150 x53_3).f0) == ((rd_T23 t170 x53_3).f0)) || (!(((rd_T23 t150 x53_3).f1) == ((rd_T23 t170 x53_3).f1)) || (!(((rd_T23 t150 x53_3).f2) == ((rd_T23 t170 x53_3).f2)) || (!(((rd_T23 t150 x53_3).f3) == ((rd_T23 t170 x53_3).f3)))))) = true := c42
                                          clear c42
                                          have H' := Aside0.mk H
                                          clear H
                                          try go_wp2
                                          have n0_ := Aside0.mk (Kd.R_drew HO_7.out)
                                          have n1_ := Aside0.mk (Kd.R_drew HO_8.out)
                                          have n2_ := Aside0.mk (below_drew1 HB.out)
                                          clear HO_7
                                          clear HO_8
                                          clear HB
                                          have HO_7 := n0_
                                          have HO_8 := n1_
                                          have HB := n2_
                                          clear n0_ n1_ n2_
                                          have p173 : 0 ≤ (x53_3 : Int) := of_decide_eq_true (by first | (with_reducible assumption) | assumption)
                                          have q173 : x53_3 < (t150.length : Int) := of_decide_eq_true (by first | (with_reducible assumption) | assumption)
                                          obtain ⟨ad173, e173, hx173_0, hx173_1, hx173_2, hx173_3⟩ := at_T23 (Kd.R_reads' HO_7.out).2.2 x53_3 p173 q173
                                          cases e173
                                          replace p173 := eq_true p173
                                          replace q173 := eq_true q173
                                          obtain ⟨Ao44, co44, eo44⟩ := Kd.R_slice HO_8.out
                                          (first | subst eo44 | (injection eo44 with f1_ f2_ f3_; have f4_ := f1_.symm; have f5_ := f3_.symm; clear f1_ f2_ f3_; subst f4_; subst f5_))
                                          have p174 : 0 ≤ (x53_3 : Int) := of_decide_eq_true (by first | (with_reducible assumption) | assumption)
                                          have q174 : x53_3 < (t170.length : Int) := of_decide_eq_true (by first | (with_reducible assumption) | assumption)
                                          obtain ⟨ad174, e174, hx174_0, hx174_1, hx174_2, hx174_3⟩ := at_T23 (Kd.R_reads' HO_8.out).2.2 x53_3 p174 q174
                                          cases e174
                                          replace p174 := eq_true p174
                                          replace q174 := eq_true q174
                                          refine start_ (n := 25) (S := fun w' => w'.cell? (ad173.add ((x53_3).toNat * 4)) = some (.int .i64 ((rd_T23 t150 x53_3).f0)) ∧ w'.cell? ⟨(ad173.add ((x53_3).toNat * 4)).block, (ad173.add ((x53_3).toNat * 4)).off + 1, none⟩ = some (.int .i64 ((rd_T23 t150 x53_3).f1)) ∧ w'.cell? ⟨(ad173.add ((x53_3).toNat * 4)).block, (ad173.add ((x53_3).toNat * 4)).off + 2, none⟩ = some (.int .i64 ((rd_T23 t150 x53_3).f2)) ∧ w'.cell? ⟨(ad173.add ((x53_3).toNat * 4)).block, (ad173.add ((x53_3).toNat * 4)).off + 3, none⟩ = some (.int .i64 ((rd_T23 t150 x53_3).f3)) ∧ w'.cell? (ad174.add ((x53_3).toNat * 4)) = some (.int .i64 ((rd_T23 t170 x53_3).f0)) ∧ w'.cell? ⟨(ad174.add ((x53_3).toNat * 4)).block, (ad174.add ((x53_3).toNat * 4)).off + 1, none⟩ = some (.int .i64 ((rd_T23 t170 x53_3).f1)) ∧ w'.cell? ⟨(ad174.add ((x53_3).toNat * 4)).block, (ad174.add ((x53_3).toNat * 4)).off + 2, none⟩ = some (.int .i64 ((rd_T23 t170 x53_3).f2)) ∧ w'.cell? ⟨(ad174.add ((x53_3).toNat * 4)).block, (ad174.add ((x53_3).toNat * 4)).off + 3, none⟩ = some (.int .i64 ((rd_T23 t170 x53_3).f3))) (ds := []) #[false, false, false, false, false, false, false, false, false, false, false, false, false, false, false, false, false, false, false, false, false, false, false, false, false] (by kernel_rfl) rfl rfl ⟨hx173_0, hx173_1, hx173_2, hx173_3, hx174_0, hx174_1, hx174_2, hx174_3⟩ (fun hHeld => ?_); refine with_tabW kissgatelaw10_PrioSorted.tab13 kissgatelaw10_PrioSorted.bits13 (fun HT_ HW_ => ?_)
                                          generalize wr.drew = w43 at HO_7 HO_8 HB hx173_0 hx173_1 hx173_2 hx173_3 hx174_0 hx174_1 hx174_2 hx174_3 hHeld ⊢
                                          refine pure_ (i := 0) (N := some 56) (v := ?_) (a' := ?_) #[true, false, false, false, false, false, false, false, false, false, false, false, false, false, false, false, false, false, false, false, false, false, false, false, false] rfl rfl (any_of HT_.out (by kernel_rfl)) (fun _ _ _ h => h) (Or.inl ⟨by rfl, ?_⟩) ?_ ?_
                                          rotate_left
                                          · intro w'
                                            go_simp
                                            with_reducible rfl
                                          rotate_left
                                          · simp only [Act.put, List.setIfInBounds_toArray, List.set_cons_zero, List.set_cons_succ, i64_w, i32_w]
                                            rfl
                                          refine pure_ (i := 1) (N := some 57) (v := ?_) (a' := ?_) #[true, true, false, false, false, false, false, false, false, false, false, false, false, false, false, false, false, false, false, false, false, false, false, false, false] rfl rfl (any_of HT_.out (by kernel_rfl)) (fun _ _ _ h => h) (Or.inl ⟨by rfl, ?_⟩) ?_ ?_
                                          rotate_left
                                          · intro w'
                                            go_simp
                                            with_reducible rfl
                                          rotate_left
                                          · simp only [Act.put, List.setIfInBounds_toArray, List.set_cons_zero, List.set_cons_succ, i64_w, i32_w]
                                            rfl
                                          refine pure_ (i := 2) (N := some 58) (v := ?_) (a' := ?_) #[true, true, true, false, false, false, false, false, false, false, false, false, false, false, false, false, false, false, false, false, false, false, false, false, false] rfl rfl (any_of HT_.out (by kernel_rfl)) (fun _ _ _ h => h) (Or.inl ⟨by rfl, ?_⟩) ?_ ?_
                                          rotate_left
                                          · intro w'
                                            go_simp
                                            with_reducible rfl
                                          rotate_left
                                          · simp only [Act.put, List.setIfInBounds_toArray, List.set_cons_zero, List.set_cons_succ, i64_w, i32_w]
                                            rfl
                                          refine pure_ (i := 4) (N := some 60) (v := ?_) (a' := ?_) #[true, true, true, false, true, false, false, false, false, false, false, false, false, false, false, false, false, false, false, false, false, false, false, false, false] rfl rfl (any_of HT_.out (by kernel_rfl)) (fun _ _ _ h => h) (Or.inl ⟨by rfl, ?_⟩) ?_ ?_
                                          rotate_left
                                          · intro w'
                                            go_simp
                                            with_reducible rfl
                                          rotate_left
                                          · simp only [Act.put, List.setIfInBounds_toArray, List.set_cons_zero, List.set_cons_succ, i64_w, i32_w]
                                            rfl
                                          refine pure_ (i := 5) (N := some 61) (v := ?_) (a' := ?_) #[true, true, true, false, true, true, false, false, false, false, false, false, false, false, false, false, false, false, false, false, false, false, false, false, false] rfl rfl (any_of HT_.out (by kernel_rfl)) (fun _ _ _ h => h) (Or.inl ⟨by rfl, ?_⟩) ?_ ?_
                                          rotate_left
                                          · intro w'
                                            go_simp
                                            with_reducible rfl
                                          rotate_left
                                          · simp only [Act.put, List.setIfInBounds_toArray, List.set_cons_zero, List.set_cons_succ, i64_w, i32_w]
                                            rfl
                                          refine pure_ (i := 6) (N := some 62) (v := ?_) (a' := ?_) #[true, true, true, false, true, true, true, false, false, false, false, false, false, false, false, false, false, false, false, false, false, false, false, false, false] rfl rfl (any_of HT_.out (by kernel_rfl)) (fun _ _ _ h => h) (Or.inl ⟨by rfl, ?_⟩) ?_ ?_
                                          rotate_left
                                          · intro w'
                                            go_simp
                                            with_reducible rfl
                                          rotate_left
                                          · simp only [Act.put, List.setIfInBounds_toArray, List.set_cons_zero, List.set_cons_succ, i64_w, i32_w]
                                            rfl
                                          refine take_ (i := 3) (N := some 59) (v := ?_) (a' := ?_) #[true, true, true, true, true, true, true, false, false, false, false, false, false, false, false, false, false, false, false, false, false, false, false, false, false] rfl rfl (take_ofW HT_.out HW_.out (by kernel_rfl)) (fun _ _ _ h => h) (Or.inl ⟨by rfl, ?_⟩) hHeld ?_ ?_
                                          rotate_left
                                          · rintro w' ⟨s0, s1, s2, s3, s4, s5, s6, s7⟩
                                            go_simp
                                            with_reducible rfl
                                          rotate_left
                                          · simp only [Act.put, List.setIfInBounds_toArray, List.set_cons_zero, List.set_cons_succ, i64_w, i32_w]
                                            rfl
                                          refine take_ (i := 7) (N := some 63) (v := ?_) (a' := ?_) #[true, true, true, true, true, true, true, true, false, false, false, false, false, false, false, false, false, false, false, false, false, false, false, false, false] rfl rfl (take_ofW HT_.out HW_.out (by kernel_rfl)) (fun _ _ _ h => h) (Or.inl ⟨by rfl, ?_⟩) hHeld ?_ ?_
                                          rotate_left
                                          · rintro w' ⟨s0, s1, s2, s3, s4, s5, s6, s7⟩
                                            go_simp
                                            with_reducible rfl
                                          rotate_left
                                          · simp only [Act.put, List.setIfInBounds_toArray, List.set_cons_zero, List.set_cons_succ, i64_w, i32_w]
                                            rfl
                                          refine pure_ (i := 8) (N := some 64) (v := ?_) (a' := ?_) #[true, true, true, true, true, true, true, true, true, false, false, false, false, false, false, false, false, false, false, false, false, false, false, false, false] rfl rfl (any_of HT_.out (by kernel_rfl)) (fun _ _ _ h => h) (Or.inl ⟨by rfl, ?_⟩) ?_ ?_
                                          rotate_left
                                          · intro w'
                                            go_simp
                                            with_reducible rfl
                                          rotate_left
                                          · simp only [Act.put, List.setIfInBounds_toArray, List.set_cons_zero, List.set_cons_succ, i64_w, i32_w]
                                            rfl
                                          refine pure_ (i := 9) (N := some 65) (v := ?_) (a' := ?_) #[true, true, true, true, true, true, true, true, true, true, false, false, false, false, false, false, false, false, false, false, false, false, false, false, false] rfl rfl (any_of HT_.out (by kernel_rfl)) (fun _ _ _ h => h) (Or.inl ⟨by rfl, ?_⟩) ?_ ?_
                                          rotate_left
                                          · intro w'
                                            go_simp
                                            with_reducible rfl
                                          rotate_left
                                          · simp only [Act.put, List.setIfInBounds_toArray, List.set_cons_zero, List.set_cons_succ, i64_w, i32_w]
                                            rfl
                                          refine pure_ (i := 10) (N := some 66) (v := undef) (a' := ?_) #[true, true, true, true, true, true, true, true, true, true, true, false, false, false, false, false, false, false, false, false, false, false, false, false, false] rfl rfl (any_of HT_.out (by kernel_rfl)) (fun _ _ _ h => h) (Or.inr ⟨by rfl, rfl⟩) ?_ ?_
                                          rotate_left
                                          · simp only [Act.put, List.setIfInBounds_toArray, List.set_cons_zero, List.set_cons_succ, i64_w, i32_w]
                                            rfl
                                          refine pure_ (i := 11) (N := some 67) (v := undef) (a' := ?_) #[true, true, true, true, true, true, true, true, true, true, true, true, false, false, false, false, false, false, false, false, false, false, false, false, false] rfl rfl (any_of HT_.out (by kernel_rfl)) (fun _ _ _ h => h) (Or.inr ⟨by rfl, rfl⟩) ?_ ?_
                                          rotate_left
                                          · simp only [Act.put, List.setIfInBounds_toArray, List.set_cons_zero, List.set_cons_succ, i64_w, i32_w]
                                            rfl
                                          refine pure_ (i := 12) (N := some 68) (v := undef) (a' := ?_) #[true, true, true, true, true, true, true, true, true, true, true, true, true, false, false, false, false, false, false, false, false, false, false, false, false] rfl rfl (any_of HT_.out (by kernel_rfl)) (fun _ _ _ h => h) (Or.inr ⟨by rfl, rfl⟩) ?_ ?_
                                          rotate_left
                                          · simp only [Act.put, List.setIfInBounds_toArray, List.set_cons_zero, List.set_cons_succ, i64_w, i32_w]
                                            rfl
                                          refine pure_ (i := 13) (N := some 69) (v := undef) (a' := ?_) #[true, true, true, true, true, true, true, true, true, true, true, true, true, true, false, false, false, false, false, false, false, false, false, false, false] rfl rfl (any_of HT_.out (by kernel_rfl)) (fun _ _ _ h => h) (Or.inr ⟨by rfl, rfl⟩) ?_ ?_
                                          rotate_left
                                          · simp only [Act.put, List.setIfInBounds_toArray, List.set_cons_zero, List.set_cons_succ, i64_w, i32_w]
                                            rfl
                                          refine pure_ (i := 14) (N := some 70) (v := undef) (a' := ?_) #[true, true, true, true, true, true, true, true, true, true, true, true, true, true, true, false, false, false, false, false, false, false, false, false, false] rfl rfl (any_of HT_.out (by kernel_rfl)) (fun _ _ _ h => h) (Or.inr ⟨by rfl, rfl⟩) ?_ ?_
                                          rotate_left
                                          · simp only [Act.put, List.setIfInBounds_toArray, List.set_cons_zero, List.set_cons_succ, i64_w, i32_w]
                                            rfl
                                          refine pure_ (i := 15) (N := some 71) (v := undef) (a' := ?_) #[true, true, true, true, true, true, true, true, true, true, true, true, true, true, true, true, false, false, false, false, false, false, false, false, false] rfl rfl (any_of HT_.out (by kernel_rfl)) (fun _ _ _ h => h) (Or.inr ⟨by rfl, rfl⟩) ?_ ?_
                                          rotate_left
                                          · simp only [Act.put, List.setIfInBounds_toArray, List.set_cons_zero, List.set_cons_succ, i64_w, i32_w]
                                            rfl
                                          refine pure_ (i := 16) (N := some 72) (v := undef) (a' := ?_) #[true, true, true, true, true, true, true, true, true, true, true, true, true, true, true, true, true, false, false, false, false, false, false, false, false] rfl rfl (any_of HT_.out (by kernel_rfl)) (fun _ _ _ h => h) (Or.inr ⟨by rfl, rfl⟩) ?_ ?_
                                          rotate_left
                                          · simp only [Act.put, List.setIfInBounds_toArray, List.set_cons_zero, List.set_cons_succ, i64_w, i32_w]
                                            rfl
                                          refine pure_ (i := 17) (N := some 73) (v := undef) (a' := ?_) #[true, true, true, true, true, true, true, true, true, true, true, true, true, true, true, true, true, true, false, false, false, false, false, false, false] rfl rfl (any_of HT_.out (by kernel_rfl)) (fun _ _ _ h => h) (Or.inr ⟨by rfl, rfl⟩) ?_ ?_
                                          rotate_left
                                          · simp only [Act.put, List.setIfInBounds_toArray, List.set_cons_zero, List.set_cons_succ, i64_w, i32_w]
                                            rfl
                                          refine pure_ (i := 18) (N := some 74) (v := undef) (a' := ?_) #[true, true, true, true, true, true, true, true, true, true, true, true, true, true, true, true, true, true, true, false, false, false, false, false, false] rfl rfl (any_of HT_.out (by kernel_rfl)) (fun _ _ _ h => h) (Or.inr ⟨by rfl, rfl⟩) ?_ ?_
                                          rotate_left
                                          · simp only [Act.put, List.setIfInBounds_toArray, List.set_cons_zero, List.set_cons_succ, i64_w, i32_w]
                                            rfl
                                          refine pure_ (i := 19) (N := some 75) (v := undef) (a' := ?_) #[true, true, true, true, true, true, true, true, true, true, true, true, true, true, true, true, true, true, true, true, false, false, false, false, false] rfl rfl (any_of HT_.out (by kernel_rfl)) (fun _ _ _ h => h) (Or.inr ⟨by rfl, rfl⟩) ?_ ?_
                                          rotate_left
                                          · simp only [Act.put, List.setIfInBounds_toArray, List.set_cons_zero, List.set_cons_succ, i64_w, i32_w]
                                            rfl
                                          refine pure_ (i := 20) (N := some 76) (v := undef) (a' := ?_) #[true, true, true, true, true, true, true, true, true, true, true, true, true, true, true, true, true, true, true, true, true, false, false, false, false] rfl rfl (any_of HT_.out (by kernel_rfl)) (fun _ _ _ h => h) (Or.inr ⟨by rfl, rfl⟩) ?_ ?_
                                          rotate_left
                                          · simp only [Act.put, List.setIfInBounds_toArray, List.set_cons_zero, List.set_cons_succ, i64_w, i32_w]
                                            rfl
                                          refine pure_ (i := 21) (N := some 77) (v := undef) (a' := ?_) #[true, true, true, true, true, true, true, true, true, true, true, true, true, true, true, true, true, true, true, true, true, true, false, false, false] rfl rfl (any_of HT_.out (by kernel_rfl)) (fun _ _ _ h => h) (Or.inr ⟨by rfl, rfl⟩) ?_ ?_
                                          rotate_left
                                          · simp only [Act.put, List.setIfInBounds_toArray, List.set_cons_zero, List.set_cons_succ, i64_w, i32_w]
                                            rfl
                                          refine pure_ (i := 22) (N := some 78) (v := undef) (a' := ?_) #[true, true, true, true, true, true, true, true, true, true, true, true, true, true, true, true, true, true, true, true, true, true, true, false, false] rfl rfl (any_of HT_.out (by kernel_rfl)) (fun _ _ _ h => h) (Or.inr ⟨by rfl, rfl⟩) ?_ ?_
                                          rotate_left
                                          · simp only [Act.put, List.setIfInBounds_toArray, List.set_cons_zero, List.set_cons_succ, i64_w, i32_w]
                                            rfl
                                          refine pure_ (i := 23) (N := some 79) (v := undef) (a' := ?_) #[true, true, true, true, true, true, true, true, true, true, true, true, true, true, true, true, true, true, true, true, true, true, true, true, false] rfl rfl (any_of HT_.out (by kernel_rfl)) (fun _ _ _ h => h) (Or.inr ⟨by rfl, rfl⟩) ?_ ?_
                                          rotate_left
                                          · simp only [Act.put, List.setIfInBounds_toArray, List.set_cons_zero, List.set_cons_succ, i64_w, i32_w]
                                            rfl
                                          refine pure_ (i := 24) (N := some 80) (v := ?_) (a' := ?_) #[true, true, true, true, true, true, true, true, true, true, true, true, true, true, true, true, true, true, true, true, true, true, true, true, true] rfl rfl (any_of HT_.out (by kernel_rfl)) (fun _ _ _ h => h) (Or.inl ⟨by rfl, ?_⟩) ?_ ?_
                                          rotate_left
                                          · intro w'
                                            go_simp
                                            with_reducible rfl
                                          rotate_left
                                          · simp only [Act.put, List.setIfInBounds_toArray, List.set_cons_zero, List.set_cons_succ, i64_w, i32_w]
                                            rfl
                                          refine done_ (done_of HT_.out (by kernel_rfl)) ?_
                                          try go_wp2
                                          go_meet
                                          case rel => exact ⟨_, (true), (by first | rfl | (simp; done) | (simp [*]; done)), H', ⟨by have := HJ4.out; have := HJ18.out; have := HK3.out; first | omega | exact Nat.le_refl _⟩, ⟨by (with_reducible repeat (first | apply Kd.R_alloc | apply Kd.R_drewN | apply Kd.R_drew)); exact HO_7.out⟩, ⟨by (with_reducible repeat (first | apply Kd.R_alloc | apply Kd.R_drewN | apply Kd.R_drew)); exact HO_8.out⟩, ⟨by repeat (first | (with_reducible first | exact HB.out | apply below_alloc | apply pw_below_drewN | apply below_drew1) | exact HB.out)⟩⟩
                                        · rw [if_neg c42] at H
                                          have c42b0 : (!(((rd_T23 t150 x53_3).f0) == ((rd_T23 t170 x53_3).f0)) || (!(((rd_T23 t150 x53_3).f1) == ((rd_T23 t170 x53_3).f1)) || (!(((rd_T23 t150 x53_3).f2) == ((rd_T23 t170 x53_3).f2)) || (!(((rd_T23 t150 x53_3).f3) == ((rd_T23 t170 x53_3).f3)))))) = false := by simpa using c42
                                          clear c42
                                          by_cases c45 : x53_3 > 0
                                          · rw [if_pos c45] at H
                                            have c45b0 : decide (0 < x53_3) = true := decide_eq_true c45
                                            clear c45
                                            obtain ⟨ji46, hji46⟩ : ∃ j_ : Int, (wrap64 (x53_3 - 1)) = j_ := ⟨_, rfl⟩
                                            replace H : (if 0 ≤ (ji46) then (if (ji46) < (t150.length : Int) then ((kissgateref10_Better.f ((rd_T23 t150 x53_3).f0) ((rd_T23 t150 x53_3).f1) ((rd_T23 t150 x53_3).f2) ((rd_T23 t150 x53_3).f3) ((rd_T23 t150 (ji46)).f0) ((rd_T23 t150 (ji46)).f1) ((rd_T23 t150 (ji46)).f2) ((rd_T23 t150 (ji46)).f3)).bind fun t177 => (kissgatelaw10_PrioSorted.j3 k3 l0 t150 t170 x53_3 (t150.length : Int) x53_3 t177)) else (none)) else (none)) = some r := by first | (rw [hji46] at H; exact H) | (simp only [hji46] at H ⊢; exact H)
                                            have hji46w : (IntKind.i64.wrap (x53_3 - 1)) = ji46 := (i64_w _).trans hji46
                                            by_cases c47 : 0 ≤ (ji46)
                                            · rw [if_pos c47] at H
                                              have c47b0 : decide (0 ≤ (ji46)) = true := decide_eq_true c47
                                              clear c47
                                              by_cases c48 : (ji46) < (t150.length : Int)
                                              · rw [if_pos c48] at H
                                                have c48b0 : decide ((ji46) < (t150.length : Int)) = true := decide_eq_true c48
                                                clear c48
                                                replace H := Option.bind_eq_some_iff.mp H
                                                obtain ⟨t177, A490, H⟩ := H
                                                replace H : (kissgatelaw10_PrioSorted.j3 k3 l0 t150 t170 x53_3 (t150.length : Int) x53_3 t177) = some r := H
                                                have A49 := Aside0.mk A490
                                                clear A490
                                                have H' := Aside0.mk H
                                                clear H
                                                try go_wp2
                                                have n0_ := Aside0.mk (Kd.R_drew HO_7.out)
                                                have n1_ := Aside0.mk (Kd.R_drew HO_8.out)
                                                have n2_ := Aside0.mk (below_drew1 HB.out)
                                                clear HO_7
                                                clear HO_8
                                                clear HB
                                                have HO_7 := n0_
                                                have HO_8 := n1_
                                                have HB := n2_
                                                clear n0_ n1_ n2_
                                                have p173 : 0 ≤ (x53_3 : Int) := of_decide_eq_true (by first | (with_reducible assumption) | assumption)
                                                have q173 : x53_3 < (t150.length : Int) := of_decide_eq_true (by first | (with_reducible assumption) | assumption)
                                                obtain ⟨ad173, e173, hx173_0, hx173_1, hx173_2, hx173_3⟩ := at_T23 (Kd.R_reads' HO_7.out).2.2 x53_3 p173 q173
                                                cases e173
                                                replace p173 := eq_true p173
                                                replace q173 := eq_true q173
                                                obtain ⟨Ao51, co51, eo51⟩ := Kd.R_slice HO_8.out
                                                (first | subst eo51 | (injection eo51 with f1_ f2_ f3_; have f4_ := f1_.symm; have f5_ := f3_.symm; clear f1_ f2_ f3_; subst f4_; subst f5_))
                                                have p174 : 0 ≤ (x53_3 : Int) := of_decide_eq_true (by first | (with_reducible assumption) | assumption)
                                                have q174 : x53_3 < (t170.length : Int) := of_decide_eq_true (by first | (with_reducible assumption) | assumption)
                                                obtain ⟨ad174, e174, hx174_0, hx174_1, hx174_2, hx174_3⟩ := at_T23 (Kd.R_reads' HO_8.out).2.2 x53_3 p174 q174
                                                cases e174
                                                replace p174 := eq_true p174
                                                replace q174 := eq_true q174
                                                have p175 : 0 ≤ (x53_3 : Int) := of_decide_eq_true (by first | (with_reducible assumption) | assumption)
                                                have q175 : x53_3 < (t150.length : Int) := of_decide_eq_true (by first | (with_reducible assumption) | assumption)
                                                obtain ⟨ad175, e175, hx175_0, hx175_1, hx175_2, hx175_3⟩ := at_T23 (Kd.R_reads' HO_7.out).2.2 x53_3 p175 q175
                                                obtain rfl : ad173 = ad175 := (by injection e175)
                                                replace p175 := eq_true p175
                                                replace q175 := eq_true q175
                                                have p176 : 0 ≤ ((ji46) : Int) := of_decide_eq_true (by first | (with_reducible assumption) | assumption)
                                                have q176 : (ji46) < (t150.length : Int) := of_decide_eq_true (by first | (with_reducible assumption) | assumption)
                                                obtain ⟨ad176, e176, hx176_0, hx176_1, hx176_2, hx176_3⟩ := at_T23 (Kd.R_reads' HO_7.out).2.2 (ji46) p176 q176
                                                obtain rfl : ad173 = ad176 := (by injection e176)
                                                replace p176 := eq_true p176
                                                replace q176 := eq_true q176
                                                refine start_ (n := 25) (S := fun w' => w'.cell? (ad173.add ((x53_3).toNat * 4)) = some (.int .i64 ((rd_T23 t150 x53_3).f0)) ∧ w'.cell? ⟨(ad173.add ((x53_3).toNat * 4)).block, (ad173.add ((x53_3).toNat * 4)).off + 1, none⟩ = some (.int .i64 ((rd_T23 t150 x53_3).f1)) ∧ w'.cell? ⟨(ad173.add ((x53_3).toNat * 4)).block, (ad173.add ((x53_3).toNat * 4)).off + 2, none⟩ = some (.int .i64 ((rd_T23 t150 x53_3).f2)) ∧ w'.cell? ⟨(ad173.add ((x53_3).toNat * 4)).block, (ad173.add ((x53_3).toNat * 4)).off + 3, none⟩ = some (.int .i64 ((rd_T23 t150 x53_3).f3)) ∧ w'.cell? (ad174.add ((x53_3).toNat * 4)) = some (.int .i64 ((rd_T23 t170 x53_3).f0)) ∧ w'.cell? ⟨(ad174.add ((x53_3).toNat * 4)).block, (ad174.add ((x53_3).toNat * 4)).off + 1, none⟩ = some (.int .i64 ((rd_T23 t170 x53_3).f1)) ∧ w'.cell? ⟨(ad174.add ((x53_3).toNat * 4)).block, (ad174.add ((x53_3).toNat * 4)).off + 2, none⟩ = some (.int .i64 ((rd_T23 t170 x53_3).f2)) ∧ w'.cell? ⟨(ad174.add ((x53_3).toNat * 4)).block, (ad174.add ((x53_3).toNat * 4)).off + 3, none⟩ = some (.int .i64 ((rd_T23 t170 x53_3).f3)) ∧ w'.cell? (ad173.add ((x53_3).toNat * 4)) = some (.int .i64 ((rd_T23 t150 x53_3).f0)) ∧ w'.cell? ⟨(ad173.add ((x53_3).toNat * 4)).block, (ad173.add ((x53_3).toNat * 4)).off + 1, none⟩ = some (.int .i64 ((rd_T23 t150 x53_3).f1)) ∧ w'.cell? ⟨(ad173.add ((x53_3).toNat * 4)).block, (ad173.add ((x53_3).toNat * 4)).off + 2, none⟩ = some (.int .i64 ((rd_T23 t150 x53_3).f2)) ∧ w'.cell? ⟨(ad173.add ((x53_3).toNat * 4)).block, (ad173.add ((x53_3).toNat * 4)).off + 3, none⟩ = some (.int .i64 ((rd_T23 t150 x53_3).f3)) ∧ w'.cell? (ad173.add (((ji46)).toNat * 4)) = some (.int .i64 ((rd_T23 t150 (ji46)).f0)) ∧ w'.cell? ⟨(ad173.add (((ji46)).toNat * 4)).block, (ad173.add (((ji46)).toNat * 4)).off + 1, none⟩ = some (.int .i64 ((rd_T23 t150 (ji46)).f1)) ∧ w'.cell? ⟨(ad173.add (((ji46)).toNat * 4)).block, (ad173.add (((ji46)).toNat * 4)).off + 2, none⟩ = some (.int .i64 ((rd_T23 t150 (ji46)).f2)) ∧ w'.cell? ⟨(ad173.add (((ji46)).toNat * 4)).block, (ad173.add (((ji46)).toNat * 4)).off + 3, none⟩ = some (.int .i64 ((rd_T23 t150 (ji46)).f3))) (ds := []) #[false, false, false, false, false, false, false, false, false, false, false, false, false, false, false, false, false, false, false, false, false, false, false, false, false] (by kernel_rfl) rfl rfl ⟨hx173_0, hx173_1, hx173_2, hx173_3, hx174_0, hx174_1, hx174_2, hx174_3, hx175_0, hx175_1, hx175_2, hx175_3, hx176_0, hx176_1, hx176_2, hx176_3⟩ (fun hHeld => ?_); refine with_tabW kissgatelaw10_PrioSorted.tab13 kissgatelaw10_PrioSorted.bits13 (fun HT_ HW_ => ?_)
                                                generalize wr.drew = w50 at HO_7 HO_8 HB hx173_0 hx173_1 hx173_2 hx173_3 hx174_0 hx174_1 hx174_2 hx174_3 hx175_0 hx175_1 hx175_2 hx175_3 hx176_0 hx176_1 hx176_2 hx176_3 hHeld ⊢
                                                refine pure_ (i := 0) (N := some 56) (v := ?_) (a' := ?_) #[true, false, false, false, false, false, false, false, false, false, false, false, false, false, false, false, false, false, false, false, false, false, false, false, false] rfl rfl (any_of HT_.out (by kernel_rfl)) (fun _ _ _ h => h) (Or.inl ⟨by rfl, ?_⟩) ?_ ?_
                                                rotate_left
                                                · intro w'
                                                  go_simp
                                                  with_reducible rfl
                                                rotate_left
                                                · simp only [Act.put, List.setIfInBounds_toArray, List.set_cons_zero, List.set_cons_succ, i64_w, i32_w]
                                                  rfl
                                                refine pure_ (i := 1) (N := some 57) (v := ?_) (a' := ?_) #[true, true, false, false, false, false, false, false, false, false, false, false, false, false, false, false, false, false, false, false, false, false, false, false, false] rfl rfl (any_of HT_.out (by kernel_rfl)) (fun _ _ _ h => h) (Or.inl ⟨by rfl, ?_⟩) ?_ ?_
                                                rotate_left
                                                · intro w'
                                                  go_simp
                                                  with_reducible rfl
                                                rotate_left
                                                · simp only [Act.put, List.setIfInBounds_toArray, List.set_cons_zero, List.set_cons_succ, i64_w, i32_w]
                                                  rfl
                                                refine pure_ (i := 2) (N := some 58) (v := ?_) (a' := ?_) #[true, true, true, false, false, false, false, false, false, false, false, false, false, false, false, false, false, false, false, false, false, false, false, false, false] rfl rfl (any_of HT_.out (by kernel_rfl)) (fun _ _ _ h => h) (Or.inl ⟨by rfl, ?_⟩) ?_ ?_
                                                rotate_left
                                                · intro w'
                                                  go_simp
                                                  with_reducible rfl
                                                rotate_left
                                                · simp only [Act.put, List.setIfInBounds_toArray, List.set_cons_zero, List.set_cons_succ, i64_w, i32_w]
                                                  rfl
                                                refine pure_ (i := 4) (N := some 60) (v := ?_) (a' := ?_) #[true, true, true, false, true, false, false, false, false, false, false, false, false, false, false, false, false, false, false, false, false, false, false, false, false] rfl rfl (any_of HT_.out (by kernel_rfl)) (fun _ _ _ h => h) (Or.inl ⟨by rfl, ?_⟩) ?_ ?_
                                                rotate_left
                                                · intro w'
                                                  go_simp
                                                  with_reducible rfl
                                                rotate_left
                                                · simp only [Act.put, List.setIfInBounds_toArray, List.set_cons_zero, List.set_cons_succ, i64_w, i32_w]
                                                  rfl
                                                refine pure_ (i := 5) (N := some 61) (v := ?_) (a' := ?_) #[true, true, true, false, true, true, false, false, false, false, false, false, false, false, false, false, false, false, false, false, false, false, false, false, false] rfl rfl (any_of HT_.out (by kernel_rfl)) (fun _ _ _ h => h) (Or.inl ⟨by rfl, ?_⟩) ?_ ?_
                                                rotate_left
                                                · intro w'
                                                  go_simp
                                                  with_reducible rfl
                                                rotate_left
                                                · simp only [Act.put, List.setIfInBounds_toArray, List.set_cons_zero, List.set_cons_succ, i64_w, i32_w]
                                                  rfl
                                                refine pure_ (i := 6) (N := some 62) (v := ?_) (a' := ?_) #[true, true, true, false, true, true, true, false, false, false, false, false, false, false, false, false, false, false, false, false, false, false, false, false, false] rfl rfl (any_of HT_.out (by kernel_rfl)) (fun _ _ _ h => h) (Or.inl ⟨by rfl, ?_⟩) ?_ ?_
                                                rotate_left
                                                · intro w'
                                                  go_simp
                                                  with_reducible rfl
                                                rotate_left
                                                · simp only [Act.put, List.setIfInBounds_toArray, List.set_cons_zero, List.set_cons_succ, i64_w, i32_w]
                                                  rfl
                                                refine take_ (i := 3) (N := some 59) (v := ?_) (a' := ?_) #[true, true, true, true, true, true, true, false, false, false, false, false, false, false, false, false, false, false, false, false, false, false, false, false, false] rfl rfl (take_ofW HT_.out HW_.out (by kernel_rfl)) (fun _ _ _ h => h) (Or.inl ⟨by rfl, ?_⟩) hHeld ?_ ?_
                                                rotate_left
                                                · rintro w' ⟨s0, s1, s2, s3, s4, s5, s6, s7, s8, s9, s10, s11, s12, s13, s14, s15⟩
                                                  go_simp
                                                  with_reducible rfl
                                                rotate_left
                                                · simp only [Act.put, List.setIfInBounds_toArray, List.set_cons_zero, List.set_cons_succ, i64_w, i32_w]
                                                  rfl
                                                refine take_ (i := 7) (N := some 63) (v := ?_) (a' := ?_) #[true, true, true, true, true, true, true, true, false, false, false, false, false, false, false, false, false, false, false, false, false, false, false, false, false] rfl rfl (take_ofW HT_.out HW_.out (by kernel_rfl)) (fun _ _ _ h => h) (Or.inl ⟨by rfl, ?_⟩) hHeld ?_ ?_
                                                rotate_left
                                                · rintro w' ⟨s0, s1, s2, s3, s4, s5, s6, s7, s8, s9, s10, s11, s12, s13, s14, s15⟩
                                                  go_simp
                                                  with_reducible rfl
                                                rotate_left
                                                · simp only [Act.put, List.setIfInBounds_toArray, List.set_cons_zero, List.set_cons_succ, i64_w, i32_w]
                                                  rfl
                                                refine pure_ (i := 8) (N := some 64) (v := ?_) (a' := ?_) #[true, true, true, true, true, true, true, true, true, false, false, false, false, false, false, false, false, false, false, false, false, false, false, false, false] rfl rfl (any_of HT_.out (by kernel_rfl)) (fun _ _ _ h => h) (Or.inl ⟨by rfl, ?_⟩) ?_ ?_
                                                rotate_left
                                                · intro w'
                                                  go_simp
                                                  with_reducible rfl
                                                rotate_left
                                                · simp only [Act.put, List.setIfInBounds_toArray, List.set_cons_zero, List.set_cons_succ, i64_w, i32_w]
                                                  rfl
                                                refine pure_ (i := 9) (N := some 65) (v := ?_) (a' := ?_) #[true, true, true, true, true, true, true, true, true, true, false, false, false, false, false, false, false, false, false, false, false, false, false, false, false] rfl rfl (any_of HT_.out (by kernel_rfl)) (fun _ _ _ h => h) (Or.inl ⟨by rfl, ?_⟩) ?_ ?_
                                                rotate_left
                                                · intro w'
                                                  go_simp
                                                  with_reducible rfl
                                                rotate_left
                                                · simp only [Act.put, List.setIfInBounds_toArray, List.set_cons_zero, List.set_cons_succ, i64_w, i32_w]
                                                  rfl
                                                refine pure_ (i := 10) (N := some 66) (v := ?_) (a' := ?_) #[true, true, true, true, true, true, true, true, true, true, true, false, false, false, false, false, false, false, false, false, false, false, false, false, false] rfl rfl (any_of HT_.out (by kernel_rfl)) (fun _ _ _ h => h) (Or.inl ⟨by rfl, ?_⟩) ?_ ?_
                                                rotate_left
                                                · intro w'
                                                  go_simp
                                                  with_reducible rfl
                                                rotate_left
                                                · simp only [Act.put, List.setIfInBounds_toArray, List.set_cons_zero, List.set_cons_succ, i64_w, i32_w]
                                                  rfl
                                                refine pure_ (i := 11) (N := some 67) (v := ?_) (a' := ?_) #[true, true, true, true, true, true, true, true, true, true, true, true, false, false, false, false, false, false, false, false, false, false, false, false, false] rfl rfl (any_of HT_.out (by kernel_rfl)) (fun _ _ _ h => h) (Or.inl ⟨by rfl, ?_⟩) ?_ ?_
                                                rotate_left
                                                · intro w'
                                                  go_simp
                                                  with_reducible rfl
                                                rotate_left
                                                · simp only [Act.put, List.setIfInBounds_toArray, List.set_cons_zero, List.set_cons_succ, i64_w, i32_w]
                                                  rfl
                                                refine pure_ (i := 12) (N := some 68) (v := ?_) (a' := ?_) #[true, true, true, true, true, true, true, true, true, true, true, true, true, false, false, false, false, false, false, false, false, false, false, false, false] rfl rfl (any_of HT_.out (by kernel_rfl)) (fun _ _ _ h => h) (Or.inl ⟨by rfl, ?_⟩) ?_ ?_
                                                rotate_left
                                                · intro w'
                                                  go_simp
                                                  with_reducible rfl
                                                rotate_left
                                                · simp only [Act.put, List.setIfInBounds_toArray, List.set_cons_zero, List.set_cons_succ, i64_w, i32_w]
                                                  rfl
                                                refine pure_ (i := 13) (N := some 69) (v := ?_) (a' := ?_) #[true, true, true, true, true, true, true, true, true, true, true, true, true, true, false, false, false, false, false, false, false, false, false, false, false] rfl rfl (any_of HT_.out (by kernel_rfl)) (fun _ _ _ h => h) (Or.inl ⟨by rfl, ?_⟩) ?_ ?_
                                                rotate_left
                                                · intro w'
                                                  go_simp
                                                  with_reducible rfl
                                                rotate_left
                                                · simp only [Act.put, List.setIfInBounds_toArray, List.set_cons_zero, List.set_cons_succ, i64_w, i32_w]
                                                  rfl
                                                refine pure_ (i := 14) (N := some 70) (v := ?_) (a' := ?_) #[true, true, true, true, true, true, true, true, true, true, true, true, true, true, true, false, false, false, false, false, false, false, false, false, false] rfl rfl (any_of HT_.out (by kernel_rfl)) (fun _ _ _ h => h) (Or.inl ⟨by rfl, ?_⟩) ?_ ?_
                                                rotate_left
                                                · intro w'
                                                  go_simp
                                                  with_reducible rfl
                                                rotate_left
                                                · simp only [Act.put, List.setIfInBounds_toArray, List.set_cons_zero, List.set_cons_succ, i64_w, i32_w]
                                                  rfl
                                                refine pure_ (i := 15) (N := some 71) (v := ?_) (a' := ?_) #[true, true, true, true, true, true, true, true, true, true, true, true, true, true, true, true, false, false, false, false, false, false, false, false, false] rfl rfl (any_of HT_.out (by kernel_rfl)) (fun _ _ _ h => h) (Or.inl ⟨by rfl, ?_⟩) ?_ ?_
                                                rotate_left
                                                · intro w'
                                                  go_simp
                                                  with_reducible rfl
                                                rotate_left
                                                · simp only [Act.put, List.setIfInBounds_toArray, List.set_cons_zero, List.set_cons_succ, i64_w, i32_w]
                                                  rfl
                                                refine pure_ (i := 17) (N := some 73) (v := ?_) (a' := ?_) #[true, true, true, true, true, true, true, true, true, true, true, true, true, true, true, true, false, true, false, false, false, false, false, false, false] rfl rfl (any_of HT_.out (by kernel_rfl)) (fun _ _ _ h => h) (Or.inl ⟨by rfl, ?_⟩) ?_ ?_
                                                rotate_left
                                                · intro w'
                                                  go_simp
                                                  with_reducible rfl
                                                rotate_left
                                                · simp only [Act.put, List.setIfInBounds_toArray, List.set_cons_zero, List.set_cons_succ, i64_w, i32_w]
                                                  rfl
                                                refine pure_ (i := 18) (N := some 74) (v := ?_) (a' := ?_) #[true, true, true, true, true, true, true, true, true, true, true, true, true, true, true, true, false, true, true, false, false, false, false, false, false] rfl rfl (any_of HT_.out (by kernel_rfl)) (fun _ _ _ h => h) (Or.inl ⟨by rfl, ?_⟩) ?_ ?_
                                                rotate_left
                                                · intro w'
                                                  go_simp
                                                  with_reducible rfl
                                                rotate_left
                                                · simp only [Act.put, List.setIfInBounds_toArray, List.set_cons_zero, List.set_cons_succ, i64_w, i32_w]
                                                  rfl
                                                refine pure_ (i := 19) (N := some 75) (v := ?_) (a' := ?_) #[true, true, true, true, true, true, true, true, true, true, true, true, true, true, true, true, false, true, true, true, false, false, false, false, false] rfl rfl (any_of HT_.out (by kernel_rfl)) (fun _ _ _ h => h) (Or.inl ⟨by rfl, ?_⟩) ?_ ?_
                                                rotate_left
                                                · intro w'
                                                  go_simp
                                                  with_reducible rfl
                                                rotate_left
                                                · simp only [Act.put, List.setIfInBounds_toArray, List.set_cons_zero, List.set_cons_succ, i64_w, i32_w]
                                                  rfl
                                                refine pure_ (i := 20) (N := some 76) (v := ?_) (a' := ?_) #[true, true, true, true, true, true, true, true, true, true, true, true, true, true, true, true, false, true, true, true, true, false, false, false, false] rfl rfl (any_of HT_.out (by kernel_rfl)) (fun _ _ _ h => h) (Or.inl ⟨by rfl, ?_⟩) ?_ ?_
                                                rotate_left
                                                · intro w'
                                                  go_simp
                                                  with_reducible rfl
                                                rotate_left
                                                · simp only [Act.put, List.setIfInBounds_toArray, List.set_cons_zero, List.set_cons_succ, i64_w, i32_w]
                                                  rfl
                                                refine take_ (i := 16) (N := some 72) (v := ?_) (a' := ?_) #[true, true, true, true, true, true, true, true, true, true, true, true, true, true, true, true, true, true, true, true, true, false, false, false, false] rfl rfl (take_ofW HT_.out HW_.out (by kernel_rfl)) (fun _ _ _ h => h) (Or.inl ⟨by rfl, ?_⟩) hHeld ?_ ?_
                                                rotate_left
                                                · rintro w' ⟨s0, s1, s2, s3, s4, s5, s6, s7, s8, s9, s10, s11, s12, s13, s14, s15⟩
                                                  go_simp
                                                  with_reducible rfl
                                                rotate_left
                                                · simp only [Act.put, List.setIfInBounds_toArray, List.set_cons_zero, List.set_cons_succ, i64_w, i32_w]
                                                  rfl
                                                refine take_ (i := 21) (N := some 77) (v := ?_) (a' := ?_) #[true, true, true, true, true, true, true, true, true, true, true, true, true, true, true, true, true, true, true, true, true, true, false, false, false] rfl rfl (take_ofW HT_.out HW_.out (by kernel_rfl)) (fun _ _ _ h => h) (Or.inl ⟨by rfl, ?_⟩) hHeld ?_ ?_
                                                rotate_left
                                                · rintro w' ⟨s0, s1, s2, s3, s4, s5, s6, s7, s8, s9, s10, s11, s12, s13, s14, s15⟩
                                                  go_simp
                                                  with_reducible rfl
                                                rotate_left
                                                · simp only [Act.put, List.setIfInBounds_toArray, List.set_cons_zero, List.set_cons_succ, i64_w, i32_w]
                                                  rfl
                                                refine one_ (i := 22) (N := some 78) #[true, true, true, true, true, true, true, true, true, true, true, true, true, true, true, true, true, true, true, true, true, true, true, false, false] rfl rfl (one_of HT_.out (by kernel_rfl)) (by decide) (fun K hK => ?_)
                                                refine goes_ Try.func14 (by kernel_rfl) rfl #[.agg #[.int .i64 ((rd_T23 t150 x53_3).f0), .int .i64 ((rd_T23 t150 x53_3).f1), .int .i64 ((rd_T23 t150 x53_3).f2), .int .i64 ((rd_T23 t150 x53_3).f3)], .agg #[.int .i64 ((rd_T23 t150 (ji46)).f0), .int .i64 ((rd_T23 t150 (ji46)).f1), .int .i64 ((rd_T23 t150 (ji46)).f2), .int .i64 ((rd_T23 t150 (ji46)).f3)]] (by rfl) rfl rfl (by (try simp only [List.map_toArray, List.map_cons, List.map_nil]); first | done | (simp only [hji46]; rfl) | rfl | (simp only [List.length_drop, List.length_take]; rfl)) ?_
                                                with_reducible refine (kissgateref10_Better.calls ((rd_T23 t150 x53_3).f0) ((rd_T23 t150 x53_3).f1) ((rd_T23 t150 x53_3).f2) ((rd_T23 t150 x53_3).f3) ((rd_T23 t150 (ji46)).f0) ((rd_T23 t150 (ji46)).f1) ((rd_T23 t150 (ji46)).f2) ((rd_T23 t150 (ji46)).f3) t177 _ A49.out).mono ?_
                                                rintro e w52 ⟨rfl, hb⟩
                                                have HS0_ := (hb.cell (World.block_lt_of_cell? _ _ (hHeld.1))).trans (hHeld.1)
                                                have HS1_ := (hb.cell (World.block_lt_of_cell? _ _ (hHeld.2.1))).trans (hHeld.2.1)
                                                have HS2_ := (hb.cell (World.block_lt_of_cell? _ _ (hHeld.2.2.1))).trans (hHeld.2.2.1)
                                                have HS3_ := (hb.cell (World.block_lt_of_cell? _ _ (hHeld.2.2.2.1))).trans (hHeld.2.2.2.1)
                                                have HS4_ := (hb.cell (World.block_lt_of_cell? _ _ (hHeld.2.2.2.2.1))).trans (hHeld.2.2.2.2.1)
                                                have HS5_ := (hb.cell (World.block_lt_of_cell? _ _ (hHeld.2.2.2.2.2.1))).trans (hHeld.2.2.2.2.2.1)
                                                have HS6_ := (hb.cell (World.block_lt_of_cell? _ _ (hHeld.2.2.2.2.2.2.1))).trans (hHeld.2.2.2.2.2.2.1)
                                                have HS7_ := (hb.cell (World.block_lt_of_cell? _ _ (hHeld.2.2.2.2.2.2.2.1))).trans (hHeld.2.2.2.2.2.2.2.1)
                                                have HS8_ := (hb.cell (World.block_lt_of_cell? _ _ (hHeld.2.2.2.2.2.2.2.2.1))).trans (hHeld.2.2.2.2.2.2.2.2.1)
                                                have HS9_ := (hb.cell (World.block_lt_of_cell? _ _ (hHeld.2.2.2.2.2.2.2.2.2.1))).trans (hHeld.2.2.2.2.2.2.2.2.2.1)
                                                have HS10_ := (hb.cell (World.block_lt_of_cell? _ _ (hHeld.2.2.2.2.2.2.2.2.2.2.1))).trans (hHeld.2.2.2.2.2.2.2.2.2.2.1)
                                                have HS11_ := (hb.cell (World.block_lt_of_cell? _ _ (hHeld.2.2.2.2.2.2.2.2.2.2.2.1))).trans (hHeld.2.2.2.2.2.2.2.2.2.2.2.1)
                                                have HS12_ := (hb.cell (World.block_lt_of_cell? _ _ (hHeld.2.2.2.2.2.2.2.2.2.2.2.2.1))).trans (hHeld.2.2.2.2.2.2.2.2.2.2.2.2.1)
                                                have HS13_ := (hb.cell (World.block_lt_of_cell? _ _ (hHeld.2.2.2.2.2.2.2.2.2.2.2.2.2.1))).trans (hHeld.2.2.2.2.2.2.2.2.2.2.2.2.2.1)
                                                have HS14_ := (hb.cell (World.block_lt_of_cell? _ _ (hHeld.2.2.2.2.2.2.2.2.2.2.2.2.2.2.1))).trans (hHeld.2.2.2.2.2.2.2.2.2.2.2.2.2.2.1)
                                                have HS15_ := (hb.cell (World.block_lt_of_cell? _ _ (hHeld.2.2.2.2.2.2.2.2.2.2.2.2.2.2.2))).trans (hHeld.2.2.2.2.2.2.2.2.2.2.2.2.2.2.2)
                                                refine ⟨_, rfl, ?_⟩
                                                have n0_ := Aside0.mk (Kd.R_below (by (with_reducible repeat (first | apply Kd.R_alloc | apply Kd.R_drewN | apply Kd.R_drew)); exact HO_7.out) hb)
                                                have n1_ := Aside0.mk (Kd.R_below (by (with_reducible repeat (first | apply Kd.R_alloc | apply Kd.R_drewN | apply Kd.R_drew)); exact HO_8.out) hb)
                                                have n2_ := Aside0.mk (below_step (by repeat (first | (with_reducible first | exact HB.out | apply below_alloc | apply pw_below_drewN | apply below_drew1) | exact HB.out)) hb)
                                                clear HO_7
                                                clear HO_8
                                                clear HB
                                                have HO_7 := n0_
                                                have HO_8 := n1_
                                                have HB := n2_
                                                clear n0_ n1_ n2_
                                                (try clear hb)
                                                (try clear hb2)
                                                (try clear hk)
                                                (try clear hi)
                                                refine hK.out _ _ ⟨HS0_, HS1_, HS2_, HS3_, HS4_, HS5_, HS6_, HS7_, HS8_, HS9_, HS10_, HS11_, HS12_, HS13_, HS14_, HS15_⟩ (fun hHeld => ?_)
                                                clear hK K
                                                refine norm_ (a' := ?_) ?_ ?_
                                                rotate_left
                                                · show Act.put _ (some 78) _ = _
                                                  simp only [Act.put, List.setIfInBounds_toArray, List.set_cons_zero, List.set_cons_succ, i64_w, i32_w]
                                                  rfl
                                                refine pure_ (i := 23) (N := some 79) (v := ?_) (a' := ?_) #[true, true, true, true, true, true, true, true, true, true, true, true, true, true, true, true, true, true, true, true, true, true, true, true, false] rfl rfl (any_of HT_.out (by kernel_rfl)) (fun _ _ _ h => h) (Or.inl ⟨by rfl, ?_⟩) ?_ ?_
                                                rotate_left
                                                · intro w'
                                                  go_simp
                                                  with_reducible rfl
                                                rotate_left
                                                · simp only [Act.put, List.setIfInBounds_toArray, List.set_cons_zero, List.set_cons_succ, i64_w, i32_w]
                                                  rfl
                                                refine pure_ (i := 24) (N := some 80) (v := ?_) (a' := ?_) #[true, true, true, true, true, true, true, true, true, true, true, true, true, true, true, true, true, true, true, true, true, true, true, true, true] rfl rfl (any_of HT_.out (by kernel_rfl)) (fun _ _ _ h => h) (Or.inl ⟨by rfl, ?_⟩) ?_ ?_
                                                rotate_left
                                                · intro w'
                                                  go_simp
                                                  with_reducible rfl
                                                rotate_left
                                                · simp only [Act.put, List.setIfInBounds_toArray, List.set_cons_zero, List.set_cons_succ, i64_w, i32_w]
                                                  rfl
                                                refine done_ (done_of HT_.out (by kernel_rfl)) ?_
                                                try go_wp2
                                                go_meet
                                                case rel => exact ⟨_, (t177), (by first | rfl | (simp; done) | (simp [*]; done)), H', ⟨by have := HJ4.out; have := HJ18.out; have := HK3.out; first | omega | exact Nat.le_refl _⟩, ⟨by (with_reducible repeat (first | apply Kd.R_alloc | apply Kd.R_drewN | apply Kd.R_drew)); exact HO_7.out⟩, ⟨by (with_reducible repeat (first | apply Kd.R_alloc | apply Kd.R_drewN | apply Kd.R_drew)); exact HO_8.out⟩, ⟨by repeat (first | (with_reducible first | exact HB.out | apply below_alloc | apply pw_below_drewN | apply below_drew1) | exact HB.out)⟩⟩
                                              · rw [if_neg c48] at H
                                                exact absurd H (by simp)
                                            · rw [if_neg c47] at H
                                              exact absurd H (by simp)
                                          · rw [if_neg c45] at H
                                            have c45b0 : decide (0 < x53_3) = false := decide_eq_false c45
                                            clear c45
                                            have H' := Aside0.mk H
                                            clear H
                                            try go_wp2
                                            have n0_ := Aside0.mk (Kd.R_drew HO_7.out)
                                            have n1_ := Aside0.mk (Kd.R_drew HO_8.out)
                                            have n2_ := Aside0.mk (below_drew1 HB.out)
                                            clear HO_7
                                            clear HO_8
                                            clear HB
                                            have HO_7 := n0_
                                            have HO_8 := n1_
                                            have HB := n2_
                                            clear n0_ n1_ n2_
                                            have p173 : 0 ≤ (x53_3 : Int) := of_decide_eq_true (by first | (with_reducible assumption) | assumption)
                                            have q173 : x53_3 < (t150.length : Int) := of_decide_eq_true (by first | (with_reducible assumption) | assumption)
                                            obtain ⟨ad173, e173, hx173_0, hx173_1, hx173_2, hx173_3⟩ := at_T23 (Kd.R_reads' HO_7.out).2.2 x53_3 p173 q173
                                            cases e173
                                            replace p173 := eq_true p173
                                            replace q173 := eq_true q173
                                            obtain ⟨Ao54, co54, eo54⟩ := Kd.R_slice HO_8.out
                                            (first | subst eo54 | (injection eo54 with f1_ f2_ f3_; have f4_ := f1_.symm; have f5_ := f3_.symm; clear f1_ f2_ f3_; subst f4_; subst f5_))
                                            have p174 : 0 ≤ (x53_3 : Int) := of_decide_eq_true (by first | (with_reducible assumption) | assumption)
                                            have q174 : x53_3 < (t170.length : Int) := of_decide_eq_true (by first | (with_reducible assumption) | assumption)
                                            obtain ⟨ad174, e174, hx174_0, hx174_1, hx174_2, hx174_3⟩ := at_T23 (Kd.R_reads' HO_8.out).2.2 x53_3 p174 q174
                                            cases e174
                                            replace p174 := eq_true p174
                                            replace q174 := eq_true q174
                                            refine start_ (n := 25) (S := fun w' => w'.cell? (ad173.add ((x53_3).toNat * 4)) = some (.int .i64 ((rd_T23 t150 x53_3).f0)) ∧ w'.cell? ⟨(ad173.add ((x53_3).toNat * 4)).block, (ad173.add ((x53_3).toNat * 4)).off + 1, none⟩ = some (.int .i64 ((rd_T23 t150 x53_3).f1)) ∧ w'.cell? ⟨(ad173.add ((x53_3).toNat * 4)).block, (ad173.add ((x53_3).toNat * 4)).off + 2, none⟩ = some (.int .i64 ((rd_T23 t150 x53_3).f2)) ∧ w'.cell? ⟨(ad173.add ((x53_3).toNat * 4)).block, (ad173.add ((x53_3).toNat * 4)).off + 3, none⟩ = some (.int .i64 ((rd_T23 t150 x53_3).f3)) ∧ w'.cell? (ad174.add ((x53_3).toNat * 4)) = some (.int .i64 ((rd_T23 t170 x53_3).f0)) ∧ w'.cell? ⟨(ad174.add ((x53_3).toNat * 4)).block, (ad174.add ((x53_3).toNat * 4)).off + 1, none⟩ = some (.int .i64 ((rd_T23 t170 x53_3).f1)) ∧ w'.cell? ⟨(ad174.add ((x53_3).toNat * 4)).block, (ad174.add ((x53_3).toNat * 4)).off + 2, none⟩ = some (.int .i64 ((rd_T23 t170 x53_3).f2)) ∧ w'.cell? ⟨(ad174.add ((x53_3).toNat * 4)).block, (ad174.add ((x53_3).toNat * 4)).off + 3, none⟩ = some (.int .i64 ((rd_T23 t170 x53_3).f3))) (ds := []) #[false, false, false, false, false, false, false, false, false, false, false, false, false, false, false, false, false, false, false, false, false, false, false, false, false] (by kernel_rfl) rfl rfl ⟨hx173_0, hx173_1, hx173_2, hx173_3, hx174_0, hx174_1, hx174_2, hx174_3⟩ (fun hHeld => ?_); refine with_tabW kissgatelaw10_PrioSorted.tab13 kissgatelaw10_PrioSorted.bits13 (fun HT_ HW_ => ?_)
                                            generalize wr.drew = w53 at HO_7 HO_8 HB hx173_0 hx173_1 hx173_2 hx173_3 hx174_0 hx174_1 hx174_2 hx174_3 hHeld ⊢
                                            refine pure_ (i := 0) (N := some 56) (v := ?_) (a' := ?_) #[true, false, false, false, false, false, false, false, false, false, false, false, false, false, false, false, false, false, false, false, false, false, false, false, false] rfl rfl (any_of HT_.out (by kernel_rfl)) (fun _ _ _ h => h) (Or.inl ⟨by rfl, ?_⟩) ?_ ?_
                                            rotate_left
                                            · intro w'
                                              go_simp
                                              with_reducible rfl
                                            rotate_left
                                            · simp only [Act.put, List.setIfInBounds_toArray, List.set_cons_zero, List.set_cons_succ, i64_w, i32_w]
                                              rfl
                                            refine pure_ (i := 1) (N := some 57) (v := ?_) (a' := ?_) #[true, true, false, false, false, false, false, false, false, false, false, false, false, false, false, false, false, false, false, false, false, false, false, false, false] rfl rfl (any_of HT_.out (by kernel_rfl)) (fun _ _ _ h => h) (Or.inl ⟨by rfl, ?_⟩) ?_ ?_
                                            rotate_left
                                            · intro w'
                                              go_simp
                                              with_reducible rfl
                                            rotate_left
                                            · simp only [Act.put, List.setIfInBounds_toArray, List.set_cons_zero, List.set_cons_succ, i64_w, i32_w]
                                              rfl
                                            refine pure_ (i := 2) (N := some 58) (v := ?_) (a' := ?_) #[true, true, true, false, false, false, false, false, false, false, false, false, false, false, false, false, false, false, false, false, false, false, false, false, false] rfl rfl (any_of HT_.out (by kernel_rfl)) (fun _ _ _ h => h) (Or.inl ⟨by rfl, ?_⟩) ?_ ?_
                                            rotate_left
                                            · intro w'
                                              go_simp
                                              with_reducible rfl
                                            rotate_left
                                            · simp only [Act.put, List.setIfInBounds_toArray, List.set_cons_zero, List.set_cons_succ, i64_w, i32_w]
                                              rfl
                                            refine pure_ (i := 4) (N := some 60) (v := ?_) (a' := ?_) #[true, true, true, false, true, false, false, false, false, false, false, false, false, false, false, false, false, false, false, false, false, false, false, false, false] rfl rfl (any_of HT_.out (by kernel_rfl)) (fun _ _ _ h => h) (Or.inl ⟨by rfl, ?_⟩) ?_ ?_
                                            rotate_left
                                            · intro w'
                                              go_simp
                                              with_reducible rfl
                                            rotate_left
                                            · simp only [Act.put, List.setIfInBounds_toArray, List.set_cons_zero, List.set_cons_succ, i64_w, i32_w]
                                              rfl
                                            refine pure_ (i := 5) (N := some 61) (v := ?_) (a' := ?_) #[true, true, true, false, true, true, false, false, false, false, false, false, false, false, false, false, false, false, false, false, false, false, false, false, false] rfl rfl (any_of HT_.out (by kernel_rfl)) (fun _ _ _ h => h) (Or.inl ⟨by rfl, ?_⟩) ?_ ?_
                                            rotate_left
                                            · intro w'
                                              go_simp
                                              with_reducible rfl
                                            rotate_left
                                            · simp only [Act.put, List.setIfInBounds_toArray, List.set_cons_zero, List.set_cons_succ, i64_w, i32_w]
                                              rfl
                                            refine pure_ (i := 6) (N := some 62) (v := ?_) (a' := ?_) #[true, true, true, false, true, true, true, false, false, false, false, false, false, false, false, false, false, false, false, false, false, false, false, false, false] rfl rfl (any_of HT_.out (by kernel_rfl)) (fun _ _ _ h => h) (Or.inl ⟨by rfl, ?_⟩) ?_ ?_
                                            rotate_left
                                            · intro w'
                                              go_simp
                                              with_reducible rfl
                                            rotate_left
                                            · simp only [Act.put, List.setIfInBounds_toArray, List.set_cons_zero, List.set_cons_succ, i64_w, i32_w]
                                              rfl
                                            refine take_ (i := 3) (N := some 59) (v := ?_) (a' := ?_) #[true, true, true, true, true, true, true, false, false, false, false, false, false, false, false, false, false, false, false, false, false, false, false, false, false] rfl rfl (take_ofW HT_.out HW_.out (by kernel_rfl)) (fun _ _ _ h => h) (Or.inl ⟨by rfl, ?_⟩) hHeld ?_ ?_
                                            rotate_left
                                            · rintro w' ⟨s0, s1, s2, s3, s4, s5, s6, s7⟩
                                              go_simp
                                              with_reducible rfl
                                            rotate_left
                                            · simp only [Act.put, List.setIfInBounds_toArray, List.set_cons_zero, List.set_cons_succ, i64_w, i32_w]
                                              rfl
                                            refine take_ (i := 7) (N := some 63) (v := ?_) (a' := ?_) #[true, true, true, true, true, true, true, true, false, false, false, false, false, false, false, false, false, false, false, false, false, false, false, false, false] rfl rfl (take_ofW HT_.out HW_.out (by kernel_rfl)) (fun _ _ _ h => h) (Or.inl ⟨by rfl, ?_⟩) hHeld ?_ ?_
                                            rotate_left
                                            · rintro w' ⟨s0, s1, s2, s3, s4, s5, s6, s7⟩
                                              go_simp
                                              with_reducible rfl
                                            rotate_left
                                            · simp only [Act.put, List.setIfInBounds_toArray, List.set_cons_zero, List.set_cons_succ, i64_w, i32_w]
                                              rfl
                                            refine pure_ (i := 8) (N := some 64) (v := ?_) (a' := ?_) #[true, true, true, true, true, true, true, true, true, false, false, false, false, false, false, false, false, false, false, false, false, false, false, false, false] rfl rfl (any_of HT_.out (by kernel_rfl)) (fun _ _ _ h => h) (Or.inl ⟨by rfl, ?_⟩) ?_ ?_
                                            rotate_left
                                            · intro w'
                                              go_simp
                                              with_reducible rfl
                                            rotate_left
                                            · simp only [Act.put, List.setIfInBounds_toArray, List.set_cons_zero, List.set_cons_succ, i64_w, i32_w]
                                              rfl
                                            refine pure_ (i := 9) (N := some 65) (v := ?_) (a' := ?_) #[true, true, true, true, true, true, true, true, true, true, false, false, false, false, false, false, false, false, false, false, false, false, false, false, false] rfl rfl (any_of HT_.out (by kernel_rfl)) (fun _ _ _ h => h) (Or.inl ⟨by rfl, ?_⟩) ?_ ?_
                                            rotate_left
                                            · intro w'
                                              go_simp
                                              with_reducible rfl
                                            rotate_left
                                            · simp only [Act.put, List.setIfInBounds_toArray, List.set_cons_zero, List.set_cons_succ, i64_w, i32_w]
                                              rfl
                                            refine pure_ (i := 10) (N := some 66) (v := ?_) (a' := ?_) #[true, true, true, true, true, true, true, true, true, true, true, false, false, false, false, false, false, false, false, false, false, false, false, false, false] rfl rfl (any_of HT_.out (by kernel_rfl)) (fun _ _ _ h => h) (Or.inl ⟨by rfl, ?_⟩) ?_ ?_
                                            rotate_left
                                            · intro w'
                                              go_simp
                                              with_reducible rfl
                                            rotate_left
                                            · simp only [Act.put, List.setIfInBounds_toArray, List.set_cons_zero, List.set_cons_succ, i64_w, i32_w]
                                              rfl
                                            refine pure_ (i := 11) (N := some 67) (v := ?_) (a' := ?_) #[true, true, true, true, true, true, true, true, true, true, true, true, false, false, false, false, false, false, false, false, false, false, false, false, false] rfl rfl (any_of HT_.out (by kernel_rfl)) (fun _ _ _ h => h) (Or.inl ⟨by rfl, ?_⟩) ?_ ?_
                                            rotate_left
                                            · intro w'
                                              go_simp
                                              with_reducible rfl
                                            rotate_left
                                            · simp only [Act.put, List.setIfInBounds_toArray, List.set_cons_zero, List.set_cons_succ, i64_w, i32_w]
                                              rfl
                                            refine pure_ (i := 12) (N := some 68) (v := ?_) (a' := ?_) #[true, true, true, true, true, true, true, true, true, true, true, true, true, false, false, false, false, false, false, false, false, false, false, false, false] rfl rfl (any_of HT_.out (by kernel_rfl)) (fun _ _ _ h => h) (Or.inl ⟨by rfl, ?_⟩) ?_ ?_
                                            rotate_left
                                            · intro w'
                                              go_simp
                                              with_reducible rfl
                                            rotate_left
                                            · simp only [Act.put, List.setIfInBounds_toArray, List.set_cons_zero, List.set_cons_succ, i64_w, i32_w]
                                              rfl
                                            refine pure_ (i := 13) (N := some 69) (v := undef) (a' := ?_) #[true, true, true, true, true, true, true, true, true, true, true, true, true, true, false, false, false, false, false, false, false, false, false, false, false] rfl rfl (any_of HT_.out (by kernel_rfl)) (fun _ _ _ h => h) (Or.inr ⟨by rfl, rfl⟩) ?_ ?_
                                            rotate_left
                                            · simp only [Act.put, List.setIfInBounds_toArray, List.set_cons_zero, List.set_cons_succ, i64_w, i32_w]
                                              rfl
                                            refine pure_ (i := 14) (N := some 70) (v := undef) (a' := ?_) #[true, true, true, true, true, true, true, true, true, true, true, true, true, true, true, false, false, false, false, false, false, false, false, false, false] rfl rfl (any_of HT_.out (by kernel_rfl)) (fun _ _ _ h => h) (Or.inr ⟨by rfl, rfl⟩) ?_ ?_
                                            rotate_left
                                            · simp only [Act.put, List.setIfInBounds_toArray, List.set_cons_zero, List.set_cons_succ, i64_w, i32_w]
                                              rfl
                                            refine pure_ (i := 15) (N := some 71) (v := undef) (a' := ?_) #[true, true, true, true, true, true, true, true, true, true, true, true, true, true, true, true, false, false, false, false, false, false, false, false, false] rfl rfl (any_of HT_.out (by kernel_rfl)) (fun _ _ _ h => h) (Or.inr ⟨by rfl, rfl⟩) ?_ ?_
                                            rotate_left
                                            · simp only [Act.put, List.setIfInBounds_toArray, List.set_cons_zero, List.set_cons_succ, i64_w, i32_w]
                                              rfl
                                            refine pure_ (i := 16) (N := some 72) (v := undef) (a' := ?_) #[true, true, true, true, true, true, true, true, true, true, true, true, true, true, true, true, true, false, false, false, false, false, false, false, false] rfl rfl (any_of HT_.out (by kernel_rfl)) (fun _ _ _ h => h) (Or.inr ⟨by rfl, rfl⟩) ?_ ?_
                                            rotate_left
                                            · simp only [Act.put, List.setIfInBounds_toArray, List.set_cons_zero, List.set_cons_succ, i64_w, i32_w]
                                              rfl
                                            refine pure_ (i := 17) (N := some 73) (v := undef) (a' := ?_) #[true, true, true, true, true, true, true, true, true, true, true, true, true, true, true, true, true, true, false, false, false, false, false, false, false] rfl rfl (any_of HT_.out (by kernel_rfl)) (fun _ _ _ h => h) (Or.inr ⟨by rfl, rfl⟩) ?_ ?_
                                            rotate_left
                                            · simp only [Act.put, List.setIfInBounds_toArray, List.set_cons_zero, List.set_cons_succ, i64_w, i32_w]
                                              rfl
                                            refine pure_ (i := 18) (N := some 74) (v := undef) (a' := ?_) #[true, true, true, true, true, true, true, true, true, true, true, true, true, true, true, true, true, true, true, false, false, false, false, false, false] rfl rfl (any_of HT_.out (by kernel_rfl)) (fun _ _ _ h => h) (Or.inr ⟨by rfl, rfl⟩) ?_ ?_
                                            rotate_left
                                            · simp only [Act.put, List.setIfInBounds_toArray, List.set_cons_zero, List.set_cons_succ, i64_w, i32_w]
                                              rfl
                                            refine pure_ (i := 19) (N := some 75) (v := undef) (a' := ?_) #[true, true, true, true, true, true, true, true, true, true, true, true, true, true, true, true, true, true, true, true, false, false, false, false, false] rfl rfl (any_of HT_.out (by kernel_rfl)) (fun _ _ _ h => h) (Or.inr ⟨by rfl, rfl⟩) ?_ ?_
                                            rotate_left
                                            · simp only [Act.put, List.setIfInBounds_toArray, List.set_cons_zero, List.set_cons_succ, i64_w, i32_w]
                                              rfl
                                            refine pure_ (i := 20) (N := some 76) (v := undef) (a' := ?_) #[true, true, true, true, true, true, true, true, true, true, true, true, true, true, true, true, true, true, true, true, true, false, false, false, false] rfl rfl (any_of HT_.out (by kernel_rfl)) (fun _ _ _ h => h) (Or.inr ⟨by rfl, rfl⟩) ?_ ?_
                                            rotate_left
                                            · simp only [Act.put, List.setIfInBounds_toArray, List.set_cons_zero, List.set_cons_succ, i64_w, i32_w]
                                              rfl
                                            refine pure_ (i := 21) (N := some 77) (v := undef) (a' := ?_) #[true, true, true, true, true, true, true, true, true, true, true, true, true, true, true, true, true, true, true, true, true, true, false, false, false] rfl rfl (any_of HT_.out (by kernel_rfl)) (fun _ _ _ h => h) (Or.inr ⟨by rfl, rfl⟩) ?_ ?_
                                            rotate_left
                                            · simp only [Act.put, List.setIfInBounds_toArray, List.set_cons_zero, List.set_cons_succ, i64_w, i32_w]
                                              rfl
                                            refine pure_ (i := 22) (N := some 78) (v := undef) (a' := ?_) #[true, true, true, true, true, true, true, true, true, true, true, true, true, true, true, true, true, true, true, true, true, true, true, false, false] rfl rfl (any_of HT_.out (by kernel_rfl)) (fun _ _ _ h => h) (Or.inr ⟨by rfl, rfl⟩) ?_ ?_
                                            rotate_left
                                            · simp only [Act.put, List.setIfInBounds_toArray, List.set_cons_zero, List.set_cons_succ, i64_w, i32_w]
                                              rfl
                                            refine pure_ (i := 23) (N := some 79) (v := ?_) (a' := ?_) #[true, true, true, true, true, true, true, true, true, true, true, true, true, true, true, true, true, true, true, true, true, true, true, true, false] rfl rfl (any_of HT_.out (by kernel_rfl)) (fun _ _ _ h => h) (Or.inl ⟨by rfl, ?_⟩) ?_ ?_
                                            rotate_left
                                            · intro w'
                                              go_simp
                                              with_reducible rfl
                                            rotate_left
                                            · simp only [Act.put, List.setIfInBounds_toArray, List.set_cons_zero, List.set_cons_succ, i64_w, i32_w]
                                              rfl
                                            refine pure_ (i := 24) (N := some 80) (v := ?_) (a' := ?_) #[true, true, true, true, true, true, true, true, true, true, true, true, true, true, true, true, true, true, true, true, true, true, true, true, true] rfl rfl (any_of HT_.out (by kernel_rfl)) (fun _ _ _ h => h) (Or.inl ⟨by rfl, ?_⟩) ?_ ?_
                                            rotate_left
                                            · intro w'
                                              go_simp
                                              with_reducible rfl
                                            rotate_left
                                            · simp only [Act.put, List.setIfInBounds_toArray, List.set_cons_zero, List.set_cons_succ, i64_w, i32_w]
                                              rfl
                                            refine done_ (done_of HT_.out (by kernel_rfl)) ?_
                                            try go_wp2
                                            go_meet
                                            case rel => exact ⟨_, (false), (by first | rfl | (simp; done) | (simp [*]; done)), H', ⟨by have := HJ4.out; have := HJ18.out; have := HK3.out; first | omega | exact Nat.le_refl _⟩, ⟨by (with_reducible repeat (first | apply Kd.R_alloc | apply Kd.R_drewN | apply Kd.R_drew)); exact HO_7.out⟩, ⟨by (with_reducible repeat (first | apply Kd.R_alloc | apply Kd.R_drewN | apply Kd.R_drew)); exact HO_8.out⟩, ⟨by repeat (first | (with_reducible first | exact HB.out | apply below_alloc | apply pw_below_drewN | apply below_drew1) | exact HB.out)⟩⟩
                                      · rw [if_neg c41] at H
                                        exact absurd H (by simp)
                                    · rw [if_neg c40] at H
                                      exact absurd H (by simp)
                                  · rw [if_neg c39] at H
                                    exact absurd H (by simp)
                                case rest =>
                                  clear HC38
                                  try clear c1
                                  try clear p1
                                  try clear q1
                                  try clear hx1
                                  try clear p2
                                  try clear c3
                                  try clear c4
                                  try clear p6
                                  try clear c14
                                  try clear p17
                                  try clear q17
                                  try clear hx17
                                  try clear c39
                                  try clear c40
                                  try clear c41
                                  try clear c42
                                  try clear c42b0
                                  try clear c45
                                  try clear c45b0
                                  try clear c47
                                  try clear c47b0
                                  try clear c48
                                  try clear c48b0
                                  try clear hx173_0
                                  try clear hx173_1
                                  try clear hx173_2
                                  try clear hx173_3
                                  try clear hx174_0
                                  try clear hx174_1
                                  try clear hx174_2
                                  try clear hx174_3
                                  try clear hx175_0
                                  try clear hx175_1
                                  try clear hx175_2
                                  try clear hx175_3
                                  try clear hx176_0
                                  try clear hx176_1
                                  try clear hx176_2
                                  try clear hx176_3
                                  try clear p173
                                  try clear p174
                                  try clear p175
                                  try clear p176
                                  try clear q173
                                  try clear q174
                                  try clear q175
                                  try clear q176
                                  obtain ⟨kq, x80_37, rfl, HA, HJ37, HO_7, HO_8, HB⟩ := hcut
                                  cases kq with
                                  | zero => exact absurd HA.out (by simp [kissgatelaw10_PrioSorted.j3])
                                  | succ kj37 =>
                                    have H := HA.out
                                    clear HA
                                    simp only [kissgatelaw10_PrioSorted.j3] at H
                                    by_cases c55 : x80_37 = true
                                    · subst c55
                                      have H1 : (some false) = some r := by rw [if_pos rfl] at H; exact H
                                      clear H
                                      have H := H1
                                      clear H1
                                      exact absurd (Option.some.inj H) (by rw [HRT.out]; decide)
                                    · replace c55 := Bool.eq_false_iff.mpr c55
                                      subst c55
                                      have H1 : (kissgatelaw10_PrioSorted.l1 kj37 l0 t150 t170 x53_3 0 0 (t150.length : Int) x53_3 (l0.length : Int) 0) = some r := by rw [if_neg (show ¬ (false = true) by decide)] at H; exact H
                                      clear H
                                      have H := H1
                                      clear H1
                                      have H' := Aside0.mk H
                                      clear H
                                      go_wp2
                                      go_loopg [10, 11, 83] kj37 (fun kq v10 v11 v83 w' => ∃ (x10_5 : Int) (x11_5 : Int) (x83_5 : Int), v10 = .int .i64 x10_5 ∧ v11 = .int .i64 x11_5 ∧ v83 = .int .i64 x83_5 ∧ Aside0 (kissgatelaw10_PrioSorted.l1 kq l0 t150 t170 x53_3 x10_5 x11_5 (t150.length : Int) x53_3 (l0.length : Int) x83_5 = some r) ∧ Aside0 (kq ≤ kj37) ∧ Aside0 (Kd.R k23 23 w' w.heap.size (fun k_ => some k_ ≠ (v171 : Value).ownBlock) (.slice Ao36 t150.length co36) t150) ∧ Aside0 (Kd.R k23 23 w' w.heap.size (fun k_ => some k_ ≠ ((.slice Ao36 t150.length co36) : Value).ownBlock) v171 t170) ∧ Aside0 (Below w.heap.size w w'))
                                      case atStart => exact ⟨(0), (0), (0), (by first | rfl | (simp; done) | (simp [*]; done)), (by first | rfl | (simp; done) | (simp [*]; done)), (by first | rfl | (simp; done) | (simp [*]; done)), H', ⟨Nat.le_refl _⟩, ⟨by (with_reducible repeat (first | apply Kd.R_alloc | apply Kd.R_drewN | apply Kd.R_drew)); exact HO_7.out⟩, ⟨by (with_reducible repeat (first | apply Kd.R_alloc | apply Kd.R_drewN | apply Kd.R_drew)); exact HO_8.out⟩, ⟨by repeat (first | (with_reducible first | exact HB.out | apply below_alloc | apply pw_below_drewN | apply below_drew1) | exact HB.out)⟩⟩
                                      case round =>
                                        clear H'
                                        try clear c1
                                        try clear p1
                                        try clear q1
                                        try clear hx1
                                        try clear p2
                                        try clear c3
                                        try clear c4
                                        try clear c5
                                        try clear p6
                                        try clear c14
                                        try clear p17
                                        try clear q17
                                        try clear hx17
                                        try clear c39
                                        try clear c40
                                        try clear c41
                                        try clear c42
                                        try clear c42b0
                                        try clear c45
                                        try clear c45b0
                                        try clear c47
                                        try clear c47b0
                                        try clear c48
                                        try clear c48b0
                                        try clear c55
                                        try clear hx173_0
                                        try clear hx173_1
                                        try clear hx173_2
                                        try clear hx173_3
                                        try clear hx174_0
                                        try clear hx174_1
                                        try clear hx174_2
                                        try clear hx174_3
                                        try clear hx175_0
                                        try clear hx175_1
                                        try clear hx175_2
                                        try clear hx175_3
                                        try clear hx176_0
                                        try clear hx176_1
                                        try clear hx176_2
                                        try clear hx176_3
                                        try clear p1
                                        try clear p17
                                        try clear p173
                                        try clear p174
                                        try clear p175
                                        try clear p176
                                        try clear p2
                                        try clear p6
                                        try clear q1
                                        try clear q17
                                        try clear q173
                                        try clear q174
                                        try clear q175
                                        try clear q176
                                        obtain ⟨x10_5, x11_5, x83_5, rfl, rfl, rfl, HA, HK5, HO_7, HO_8, HB⟩ := hrel
                                        cases gk with
                                        | zero => exact absurd HA.out (by simp [kissgatelaw10_PrioSorted.l1])
                                        | succ k5 =>
                                          have H := HA.out
                                          clear HA
                                          simp only [kissgatelaw10_PrioSorted.l1] at H
                                          by_cases c56 : x83_5 < (l0.length : Int)
                                          · rw [if_pos c56] at H
                                            have c56b0 : decide (x83_5 < (l0.length : Int)) = true := decide_eq_true c56
                                            clear c56
                                            by_cases c57 : 0 ≤ x83_5
                                            · rw [if_pos c57] at H
                                              have c57b0 : decide (0 ≤ x83_5) = true := decide_eq_true c57
                                              clear c57
                                              by_cases c58 : x83_5 < (l0.length : Int)
                                              · rw [if_pos c58] at H
                                                have c58b0 : decide (x83_5 < (l0.length : Int)) = true := decide_eq_true c58
                                                clear c58
                                                by_cases c59 : 0 ≤ x53_3
                                                · rw [if_pos c59] at H
                                                  have c59b0 : decide (0 ≤ x53_3) = true := decide_eq_true c59
                                                  clear c59
                                                  by_cases c60 : x53_3 < (t150.length : Int)
                                                  · rw [if_pos c60] at H
                                                    have c60b0 : decide (x53_3 < (t150.length : Int)) = true := decide_eq_true c60
                                                    clear c60
                                                    by_cases c61 : (((rd_T23 l0 x83_5).f0) == ((rd_T23 t150 x53_3).f0) && (((rd_T23 l0 x83_5).f1) == ((rd_T23 t150 x53_3).f1) && (((rd_T23 l0 x83_5).f2) == ((rd_T23 t150 x53_3).f2) && (((rd_T23 l0 x83_5).f3) == ((rd_T23 t150 x53_3).f3))))) = true
                                                    · rw [if_pos c61] at H
                                                      have c61b0 : (((rd_T23 l0 x83_5).f0) == ((rd_T23 t150 x53_3).f0) && (((rd_T23 l0 x83_5).f1) == ((rd_T23 t150 x53_3).f1) && (((rd_T23 l0 x83_5).f2) == ((rd_T23 t150 x53_3).f2) && (((rd_T23 l0 x83_5).f3) == ((rd_T23 t150 x53_3).f3))))) = true := c61
                                                      (try (have c61b1 : decide (((rd_T23 l0 x83_5).f0) = ((rd_T23 t150 x53_3).f0) && (((rd_T23 l0 x83_5).f1) == ((rd_T23 t150 x53_3).f1) && (((rd_T23 l0 x83_5).f2) == ((rd_T23 t150 x53_3).f2) && (((rd_T23 l0 x83_5).f3) == ((rd_T23 t150 x53_3).f3))))) = true := by simpa using c61))
                                                      (try (have c61b2 : (((rd_T23 l0 x83_5).f0) == ((rd_T23 t150 x53_3).f0) && (((rd_T23 l0 x83_5).f1) == ((rd_T23 t150 x53_3).f1) && (((rd_T23 l0 x83_5).f2) == ((rd_T23 t150 x53_3).f2) && (((rd_T23 l0 x83_5).f3) == ((rd_T23 t150 x53_3).f3))))) = true := by simpa using c61))
                                                      clear c61
                                                      by_cases c62 : x83_5 < (t150.length : Int)
                                                      · rw [if_pos c62] at H
                                                        have c62b0 : decide (x83_5 < (t150.length : Int)) = true := decide_eq_true c62
                                                        clear c62
                                                        by_cases c63 : (((rd_T23 t150 x83_5).f0) == ((rd_T23 t150 x53_3).f0) && (((rd_T23 t150 x83_5).f1) == ((rd_T23 t150 x53_3).f1) && (((rd_T23 t150 x83_5).f2) == ((rd_T23 t150 x53_3).f2) && (((rd_T23 t150 x83_5).f3) == ((rd_T23 t150 x53_3).f3))))) = true
                                                        · rw [if_pos c63] at H
                                                          have c63b0 : (((rd_T23 t150 x83_5).f0) == ((rd_T23 t150 x53_3).f0) && (((rd_T23 t150 x83_5).f1) == ((rd_T23 t150 x53_3).f1) && (((rd_T23 t150 x83_5).f2) == ((rd_T23 t150 x53_3).f2) && (((rd_T23 t150 x83_5).f3) == ((rd_T23 t150 x53_3).f3))))) = true := c63
                                                          (try (have c63b1 : decide (((rd_T23 t150 x83_5).f0) = ((rd_T23 t150 x53_3).f0) && (((rd_T23 t150 x83_5).f1) == ((rd_T23 t150 x53_3).f1) && (((rd_T23 t150 x83_5).f2) == ((rd_T23 t150 x53_3).f2) && (((rd_T23 t150 x83_5).f3) == ((rd_T23 t150 x53_3).f3))))) = true := by simpa using c63))
                                                          (try (have c63b2 : (((rd_T23 t150 x83_5).f0) == ((rd_T23 t150 x53_3).f0) && (((rd_T23 t150 x83_5).f1) == ((rd_T23 t150 x53_3).f1) && (((rd_T23 t150 x83_5).f2) == ((rd_T23 t150 x53_3).f2) && (((rd_T23 t150 x83_5).f3) == ((rd_T23 t150 x53_3).f3))))) = true := by simpa using c63))
                                                          clear c63
                                                          have H' := Aside0.mk H
                                                          clear H
                                                          try go_wp2
                                                          have n0_ := Aside0.mk (Kd.R_drew HO_7.out)
                                                          have n1_ := Aside0.mk (Kd.R_drew HO_8.out)
                                                          have n2_ := Aside0.mk (below_drew1 HB.out)
                                                          clear HO_7
                                                          clear HO_8
                                                          clear HB
                                                          have HO_7 := n0_
                                                          have HO_8 := n1_
                                                          have HB := n2_
                                                          clear n0_ n1_ n2_
                                                          have p178 : 0 ≤ (x83_5 : Int) := of_decide_eq_true (by first | (with_reducible assumption) | assumption)
                                                          have q178 : x83_5 < (l0.length : Int) := of_decide_eq_true (by first | (with_reducible assumption) | assumption)
                                                          obtain ⟨ad178, e178, hx178_0, hx178_1, hx178_2, hx178_3⟩ := at_T23 HR0.out x83_5 p178 q178
                                                          have hw178_3 := hx178_3
                                                          have hw178_2 := hx178_2
                                                          have hw178_1 := hx178_1
                                                          have hw178_0 := hx178_0
                                                          cases e178
                                                          replace hx178_0 := (HB.out.cell (World.block_lt_of_cell? w _ hx178_0)).trans hx178_0
                                                          replace hx178_1 := (HB.out.cell (World.block_lt_of_cell? w _ hx178_1)).trans hx178_1
                                                          replace hx178_2 := (HB.out.cell (World.block_lt_of_cell? w _ hx178_2)).trans hx178_2
                                                          replace hx178_3 := (HB.out.cell (World.block_lt_of_cell? w _ hx178_3)).trans hx178_3
                                                          replace p178 := eq_true p178
                                                          replace q178 := eq_true q178
                                                          have p179 : 0 ≤ (x53_3 : Int) := of_decide_eq_true (by first | (with_reducible assumption) | assumption)
                                                          have q179 : x53_3 < (t150.length : Int) := of_decide_eq_true (by first | (with_reducible assumption) | assumption)
                                                          obtain ⟨ad179, e179, hx179_0, hx179_1, hx179_2, hx179_3⟩ := at_T23 (Kd.R_reads' HO_7.out).2.2 x53_3 p179 q179
                                                          cases e179
                                                          replace p179 := eq_true p179
                                                          replace q179 := eq_true q179
                                                          refine start_ (n := 9) (S := fun w' => w'.cell? (ad178.add ((x83_5).toNat * 4)) = some (.int .i64 ((rd_T23 l0 x83_5).f0)) ∧ w'.cell? ⟨(ad178.add ((x83_5).toNat * 4)).block, (ad178.add ((x83_5).toNat * 4)).off + 1, none⟩ = some (.int .i64 ((rd_T23 l0 x83_5).f1)) ∧ w'.cell? ⟨(ad178.add ((x83_5).toNat * 4)).block, (ad178.add ((x83_5).toNat * 4)).off + 2, none⟩ = some (.int .i64 ((rd_T23 l0 x83_5).f2)) ∧ w'.cell? ⟨(ad178.add ((x83_5).toNat * 4)).block, (ad178.add ((x83_5).toNat * 4)).off + 3, none⟩ = some (.int .i64 ((rd_T23 l0 x83_5).f3)) ∧ w'.cell? (ad179.add ((x53_3).toNat * 4)) = some (.int .i64 ((rd_T23 t150 x53_3).f0)) ∧ w'.cell? ⟨(ad179.add ((x53_3).toNat * 4)).block, (ad179.add ((x53_3).toNat * 4)).off + 1, none⟩ = some (.int .i64 ((rd_T23 t150 x53_3).f1)) ∧ w'.cell? ⟨(ad179.add ((x53_3).toNat * 4)).block, (ad179.add ((x53_3).toNat * 4)).off + 2, none⟩ = some (.int .i64 ((rd_T23 t150 x53_3).f2)) ∧ w'.cell? ⟨(ad179.add ((x53_3).toNat * 4)).block, (ad179.add ((x53_3).toNat * 4)).off + 3, none⟩ = some (.int .i64 ((rd_T23 t150 x53_3).f3))) (ds := []) #[false, false, false, false, false, false, false, false, false] (by kernel_rfl) rfl rfl ⟨((HB.out.cell (World.block_lt_of_cell? w _ hw178_0)).trans hw178_0), ((HB.out.cell (World.block_lt_of_cell? w _ hw178_1)).trans hw178_1), ((HB.out.cell (World.block_lt_of_cell? w _ hw178_2)).trans hw178_2), ((HB.out.cell (World.block_lt_of_cell? w _ hw178_3)).trans hw178_3), hx179_0, hx179_1, hx179_2, hx179_3⟩ (fun hHeld => ?_); refine with_tabW kissgatelaw10_PrioSorted.tab19 kissgatelaw10_PrioSorted.bits19 (fun HT_ HW_ => ?_)
                                                          generalize wr.drew = w64 at HO_7 HO_8 HB hx178_0 hx178_1 hx178_2 hx178_3 hx179_0 hx179_1 hx179_2 hx179_3 hHeld ⊢
                                                          refine pure_ (i := 0) (N := some 86) (v := ?_) (a' := ?_) #[true, false, false, false, false, false, false, false, false] rfl rfl (any_of HT_.out (by kernel_rfl)) (fun _ _ _ h => h) (Or.inl ⟨by rfl, ?_⟩) ?_ ?_
                                                          rotate_left
                                                          · intro w'
                                                            go_simp
                                                            with_reducible rfl
                                                          rotate_left
                                                          · simp only [Act.put, List.setIfInBounds_toArray, List.set_cons_zero, List.set_cons_succ, i64_w, i32_w]
                                                            rfl
                                                          refine pure_ (i := 1) (N := some 87) (v := ?_) (a' := ?_) #[true, true, false, false, false, false, false, false, false] rfl rfl (any_of HT_.out (by kernel_rfl)) (fun _ _ _ h => h) (Or.inl ⟨by rfl, ?_⟩) ?_ ?_
                                                          rotate_left
                                                          · intro w'
                                                            go_simp
                                                            with_reducible rfl
                                                          rotate_left
                                                          · simp only [Act.put, List.setIfInBounds_toArray, List.set_cons_zero, List.set_cons_succ, i64_w, i32_w]
                                                            rfl
                                                          refine pure_ (i := 2) (N := some 88) (v := ?_) (a' := ?_) #[true, true, true, false, false, false, false, false, false] rfl rfl (any_of HT_.out (by kernel_rfl)) (fun _ _ _ h => h) (Or.inl ⟨by rfl, ?_⟩) ?_ ?_
                                                          rotate_left
                                                          · intro w'
                                                            go_simp
                                                            with_reducible rfl
                                                          rotate_left
                                                          · simp only [Act.put, List.setIfInBounds_toArray, List.set_cons_zero, List.set_cons_succ, i64_w, i32_w]
                                                            rfl
                                                          refine pure_ (i := 4) (N := some 90) (v := ?_) (a' := ?_) #[true, true, true, false, true, false, false, false, false] rfl rfl (any_of HT_.out (by kernel_rfl)) (fun _ _ _ h => h) (Or.inl ⟨by rfl, ?_⟩) ?_ ?_
                                                          rotate_left
                                                          · intro w'
                                                            go_simp
                                                            with_reducible rfl
                                                          rotate_left
                                                          · simp only [Act.put, List.setIfInBounds_toArray, List.set_cons_zero, List.set_cons_succ, i64_w, i32_w]
                                                            rfl
                                                          refine pure_ (i := 5) (N := some 91) (v := ?_) (a' := ?_) #[true, true, true, false, true, true, false, false, false] rfl rfl (any_of HT_.out (by kernel_rfl)) (fun _ _ _ h => h) (Or.inl ⟨by rfl, ?_⟩) ?_ ?_
                                                          rotate_left
                                                          · intro w'
                                                            go_simp
                                                            with_reducible rfl
                                                          rotate_left
                                                          · simp only [Act.put, List.setIfInBounds_toArray, List.set_cons_zero, List.set_cons_succ, i64_w, i32_w]
                                                            rfl
                                                          refine pure_ (i := 6) (N := some 92) (v := ?_) (a' := ?_) #[true, true, true, false, true, true, true, false, false] rfl rfl (any_of HT_.out (by kernel_rfl)) (fun _ _ _ h => h) (Or.inl ⟨by rfl, ?_⟩) ?_ ?_
                                                          rotate_left
                                                          · intro w'
                                                            go_simp
                                                            with_reducible rfl
                                                          rotate_left
                                                          · simp only [Act.put, List.setIfInBounds_toArray, List.set_cons_zero, List.set_cons_succ, i64_w, i32_w]
                                                            rfl
                                                          refine take_ (i := 3) (N := some 89) (v := ?_) (a' := ?_) #[true, true, true, true, true, true, true, false, false] rfl rfl (take_ofW HT_.out HW_.out (by kernel_rfl)) (fun _ _ _ h => h) (Or.inl ⟨by rfl, ?_⟩) hHeld ?_ ?_
                                                          rotate_left
                                                          · rintro w' ⟨s0, s1, s2, s3, s4, s5, s6, s7⟩
                                                            go_simp
                                                            with_reducible rfl
                                                          rotate_left
                                                          · simp only [Act.put, List.setIfInBounds_toArray, List.set_cons_zero, List.set_cons_succ, i64_w, i32_w]
                                                            rfl
                                                          refine take_ (i := 7) (N := some 93) (v := ?_) (a' := ?_) #[true, true, true, true, true, true, true, true, false] rfl rfl (take_ofW HT_.out HW_.out (by kernel_rfl)) (fun _ _ _ h => h) (Or.inl ⟨by rfl, ?_⟩) hHeld ?_ ?_
                                                          rotate_left
                                                          · rintro w' ⟨s0, s1, s2, s3, s4, s5, s6, s7⟩
                                                            go_simp
                                                            with_reducible rfl
                                                          rotate_left
                                                          · simp only [Act.put, List.setIfInBounds_toArray, List.set_cons_zero, List.set_cons_succ, i64_w, i32_w]
                                                            rfl
                                                          refine pure_ (i := 8) (N := some 94) (v := ?_) (a' := ?_) #[true, true, true, true, true, true, true, true, true] rfl rfl (any_of HT_.out (by kernel_rfl)) (fun _ _ _ h => h) (Or.inl ⟨by rfl, ?_⟩) ?_ ?_
                                                          rotate_left
                                                          · intro w'
                                                            go_simp
                                                            with_reducible rfl
                                                          rotate_left
                                                          · simp only [Act.put, List.setIfInBounds_toArray, List.set_cons_zero, List.set_cons_succ, i64_w, i32_w]
                                                            rfl
                                                          refine done_ (done_of HT_.out (by kernel_rfl)) ?_
                                                          try go_wp2
                                                          have n0_ := Aside0.mk (Kd.R_drew HO_7.out)
                                                          have n1_ := Aside0.mk (Kd.R_drew HO_8.out)
                                                          have n2_ := Aside0.mk (below_drew1 HB.out)
                                                          clear HO_7
                                                          clear HO_8
                                                          clear HB
                                                          have HO_7 := n0_
                                                          have HO_8 := n1_
                                                          have HB := n2_
                                                          clear n0_ n1_ n2_
                                                          have p180 : 0 ≤ (x83_5 : Int) := of_decide_eq_true (by first | (with_reducible assumption) | assumption)
                                                          have q180 : x83_5 < (t150.length : Int) := of_decide_eq_true (by first | (with_reducible assumption) | assumption)
                                                          obtain ⟨ad180, e180, hx180_0, hx180_1, hx180_2, hx180_3⟩ := at_T23 (Kd.R_reads' HO_7.out).2.2 x83_5 p180 q180
                                                          obtain rfl : ad179 = ad180 := (by injection e180)
                                                          replace p180 := eq_true p180
                                                          replace q180 := eq_true q180
                                                          have p181 : 0 ≤ (x53_3 : Int) := of_decide_eq_true (by first | (with_reducible assumption) | assumption)
                                                          have q181 : x53_3 < (t150.length : Int) := of_decide_eq_true (by first | (with_reducible assumption) | assumption)
                                                          obtain ⟨ad181, e181, hx181_0, hx181_1, hx181_2, hx181_3⟩ := at_T23 (Kd.R_reads' HO_7.out).2.2 x53_3 p181 q181
                                                          obtain rfl : ad179 = ad181 := (by injection e181)
                                                          replace p181 := eq_true p181
                                                          replace q181 := eq_true q181
                                                          refine start_ (n := 9) (S := fun w' => w'.cell? (ad179.add ((x83_5).toNat * 4)) = some (.int .i64 ((rd_T23 t150 x83_5).f0)) ∧ w'.cell? ⟨(ad179.add ((x83_5).toNat * 4)).block, (ad179.add ((x83_5).toNat * 4)).off + 1, none⟩ = some (.int .i64 ((rd_T23 t150 x83_5).f1)) ∧ w'.cell? ⟨(ad179.add ((x83_5).toNat * 4)).block, (ad179.add ((x83_5).toNat * 4)).off + 2, none⟩ = some (.int .i64 ((rd_T23 t150 x83_5).f2)) ∧ w'.cell? ⟨(ad179.add ((x83_5).toNat * 4)).block, (ad179.add ((x83_5).toNat * 4)).off + 3, none⟩ = some (.int .i64 ((rd_T23 t150 x83_5).f3)) ∧ w'.cell? (ad179.add ((x53_3).toNat * 4)) = some (.int .i64 ((rd_T23 t150 x53_3).f0)) ∧ w'.cell? ⟨(ad179.add ((x53_3).toNat * 4)).block, (ad179.add ((x53_3).toNat * 4)).off + 1, none⟩ = some (.int .i64 ((rd_T23 t150 x53_3).f1)) ∧ w'.cell? ⟨(ad179.add ((x53_3).toNat * 4)).block, (ad179.add ((x53_3).toNat * 4)).off + 2, none⟩ = some (.int .i64 ((rd_T23 t150 x53_3).f2)) ∧ w'.cell? ⟨(ad179.add ((x53_3).toNat * 4)).block, (ad179.add ((x53_3).toNat * 4)).off + 3, none⟩ = some (.int .i64 ((rd_T23 t150 x53_3).f3))) (ds := []) #[false, false, false, false, false, false, false, false, false] (by kernel_rfl) rfl rfl ⟨hx180_0, hx180_1, hx180_2, hx180_3, hx181_0, hx181_1, hx181_2, hx181_3⟩ (fun hHeld => ?_); refine with_tabW kissgatelaw10_PrioSorted.tab21 kissgatelaw10_PrioSorted.bits21 (fun HT_ HW_ => ?_)
                                                          generalize w64.drew = w65 at HO_7 HO_8 HB hx180_0 hx180_1 hx180_2 hx180_3 hx181_0 hx181_1 hx181_2 hx181_3 hHeld ⊢
                                                          refine pure_ (i := 0) (N := some 97) (v := ?_) (a' := ?_) #[true, false, false, false, false, false, false, false, false] rfl rfl (any_of HT_.out (by kernel_rfl)) (fun _ _ _ h => h) (Or.inl ⟨by rfl, ?_⟩) ?_ ?_
                                                          rotate_left
                                                          · intro w'
                                                            go_simp
                                                            with_reducible rfl
                                                          rotate_left
                                                          · simp only [Act.put, List.setIfInBounds_toArray, List.set_cons_zero, List.set_cons_succ, i64_w, i32_w]
                                                            rfl
                                                          refine pure_ (i := 1) (N := some 98) (v := ?_) (a' := ?_) #[true, true, false, false, false, false, false, false, false] rfl rfl (any_of HT_.out (by kernel_rfl)) (fun _ _ _ h => h) (Or.inl ⟨by rfl, ?_⟩) ?_ ?_
                                                          rotate_left
                                                          · intro w'
                                                            go_simp
                                                            with_reducible rfl
                                                          rotate_left
                                                          · simp only [Act.put, List.setIfInBounds_toArray, List.set_cons_zero, List.set_cons_succ, i64_w, i32_w]
                                                            rfl
                                                          refine pure_ (i := 2) (N := some 99) (v := ?_) (a' := ?_) #[true, true, true, false, false, false, false, false, false] rfl rfl (any_of HT_.out (by kernel_rfl)) (fun _ _ _ h => h) (Or.inl ⟨by rfl, ?_⟩) ?_ ?_
                                                          rotate_left
                                                          · intro w'
                                                            go_simp
                                                            with_reducible rfl
                                                          rotate_left
                                                          · simp only [Act.put, List.setIfInBounds_toArray, List.set_cons_zero, List.set_cons_succ, i64_w, i32_w]
                                                            rfl
                                                          refine pure_ (i := 4) (N := some 101) (v := ?_) (a' := ?_) #[true, true, true, false, true, false, false, false, false] rfl rfl (any_of HT_.out (by kernel_rfl)) (fun _ _ _ h => h) (Or.inl ⟨by rfl, ?_⟩) ?_ ?_
                                                          rotate_left
                                                          · intro w'
                                                            go_simp
                                                            with_reducible rfl
                                                          rotate_left
                                                          · simp only [Act.put, List.setIfInBounds_toArray, List.set_cons_zero, List.set_cons_succ, i64_w, i32_w]
                                                            rfl
                                                          refine pure_ (i := 5) (N := some 102) (v := ?_) (a' := ?_) #[true, true, true, false, true, true, false, false, false] rfl rfl (any_of HT_.out (by kernel_rfl)) (fun _ _ _ h => h) (Or.inl ⟨by rfl, ?_⟩) ?_ ?_
                                                          rotate_left
                                                          · intro w'
                                                            go_simp
                                                            with_reducible rfl
                                                          rotate_left
                                                          · simp only [Act.put, List.setIfInBounds_toArray, List.set_cons_zero, List.set_cons_succ, i64_w, i32_w]
                                                            rfl
                                                          refine pure_ (i := 6) (N := some 103) (v := ?_) (a' := ?_) #[true, true, true, false, true, true, true, false, false] rfl rfl (any_of HT_.out (by kernel_rfl)) (fun _ _ _ h => h) (Or.inl ⟨by rfl, ?_⟩) ?_ ?_
                                                          rotate_left
                                                          · intro w'
                                                            go_simp
                                                            with_reducible rfl
                                                          rotate_left
                                                          · simp only [Act.put, List.setIfInBounds_toArray, List.set_cons_zero, List.set_cons_succ, i64_w, i32_w]
                                                            rfl
                                                          refine take_ (i := 3) (N := some 100) (v := ?_) (a' := ?_) #[true, true, true, true, true, true, true, false, false] rfl rfl (take_ofW HT_.out HW_.out (by kernel_rfl)) (fun _ _ _ h => h) (Or.inl ⟨by rfl, ?_⟩) hHeld ?_ ?_
                                                          rotate_left
                                                          · rintro w' ⟨s0, s1, s2, s3, s4, s5, s6, s7⟩
                                                            go_simp
                                                            with_reducible rfl
                                                          rotate_left
                                                          · simp only [Act.put, List.setIfInBounds_toArray, List.set_cons_zero, List.set_cons_succ, i64_w, i32_w]
                                                            rfl
                                                          refine take_ (i := 7) (N := some 104) (v := ?_) (a' := ?_) #[true, true, true, true, true, true, true, true, false] rfl rfl (take_ofW HT_.out HW_.out (by kernel_rfl)) (fun _ _ _ h => h) (Or.inl ⟨by rfl, ?_⟩) hHeld ?_ ?_
                                                          rotate_left
                                                          · rintro w' ⟨s0, s1, s2, s3, s4, s5, s6, s7⟩
                                                            go_simp
                                                            with_reducible rfl
                                                          rotate_left
                                                          · simp only [Act.put, List.setIfInBounds_toArray, List.set_cons_zero, List.set_cons_succ, i64_w, i32_w]
                                                            rfl
                                                          refine pure_ (i := 8) (N := some 105) (v := ?_) (a' := ?_) #[true, true, true, true, true, true, true, true, true] rfl rfl (any_of HT_.out (by kernel_rfl)) (fun _ _ _ h => h) (Or.inl ⟨by rfl, ?_⟩) ?_ ?_
                                                          rotate_left
                                                          · intro w'
                                                            go_simp
                                                            with_reducible rfl
                                                          rotate_left
                                                          · simp only [Act.put, List.setIfInBounds_toArray, List.set_cons_zero, List.set_cons_succ, i64_w, i32_w]
                                                            rfl
                                                          refine done_ (done_of HT_.out (by kernel_rfl)) ?_
                                                          try go_wp2
                                                          go_roundg k5
                                                          case measure => have := HJ4.out; have := HJ18.out; have := HK3.out; have := HJ37.out; have := HK5.out; omega
                                                          case rel => exact ⟨(wrap64 (x10_5 + 1)), (wrap64 (x11_5 + 1)), (wrap64 (x83_5 + 1)), (by first | rfl | (simp; done) | (simp [*]; done)), (by first | rfl | (simp; done) | (simp [*]; done)), (by first | rfl | (simp; done) | (simp [*]; done)), H', ⟨by have := HJ4.out; have := HJ18.out; have := HK3.out; have := HJ37.out; have := HK5.out; omega⟩, ⟨by (with_reducible repeat (first | apply Kd.R_alloc | apply Kd.R_drewN | apply Kd.R_drew)); exact HO_7.out⟩, ⟨by (with_reducible repeat (first | apply Kd.R_alloc | apply Kd.R_drewN | apply Kd.R_drew)); exact HO_8.out⟩, ⟨by repeat (first | (with_reducible first | exact HB.out | apply below_alloc | apply pw_below_drewN | apply below_drew1) | exact HB.out)⟩⟩
                                                        · rw [if_neg c63] at H
                                                          have c63b0 : (((rd_T23 t150 x83_5).f0) == ((rd_T23 t150 x53_3).f0) && (((rd_T23 t150 x83_5).f1) == ((rd_T23 t150 x53_3).f1) && (((rd_T23 t150 x83_5).f2) == ((rd_T23 t150 x53_3).f2) && (((rd_T23 t150 x83_5).f3) == ((rd_T23 t150 x53_3).f3))))) = false := by simpa using c63
                                                          (try (have c63b1 : decide (((rd_T23 t150 x83_5).f0) = ((rd_T23 t150 x53_3).f0) && (((rd_T23 t150 x83_5).f1) == ((rd_T23 t150 x53_3).f1) && (((rd_T23 t150 x83_5).f2) == ((rd_T23 t150 x53_3).f2) && (((rd_T23 t150 x83_5).f3) == ((rd_T23 t150 x53_3).f3))))) = false := by simpa using c63))
                                                          (try (have c63b2 : (((rd_T23 t150 x83_5).f0) == ((rd_T23 t150 x53_3).f0) && (((rd_T23 t150 x83_5).f1) == ((rd_T23 t150 x53_3).f1) && (((rd_T23 t150 x83_5).f2) == ((rd_T23 t150 x53_3).f2) && (((rd_T23 t150 x83_5).f3) == ((rd_T23 t150 x53_3).f3))))) = false := by simpa using c63))
                                                          (try (have c63b3 : ¬ (((rd_T23 t150 x83_5).f0) = ((rd_T23 t150 x53_3).f0) && (((rd_T23 t150 x83_5).f1) == ((rd_T23 t150 x53_3).f1) && (((rd_T23 t150 x83_5).f2) == ((rd_T23 t150 x53_3).f2) && (((rd_T23 t150 x83_5).f3) == ((rd_T23 t150 x53_3).f3))))) := by simpa using c63))
                                                          clear c63
                                                          have H' := Aside0.mk H
                                                          clear H
                                                          try go_wp2
                                                          have n0_ := Aside0.mk (Kd.R_drew HO_7.out)
                                                          have n1_ := Aside0.mk (Kd.R_drew HO_8.out)
                                                          have n2_ := Aside0.mk (below_drew1 HB.out)
                                                          clear HO_7
                                                          clear HO_8
                                                          clear HB
                                                          have HO_7 := n0_
                                                          have HO_8 := n1_
                                                          have HB := n2_
                                                          clear n0_ n1_ n2_
                                                          have p178 : 0 ≤ (x83_5 : Int) := of_decide_eq_true (by first | (with_reducible assumption) | assumption)
                                                          have q178 : x83_5 < (l0.length : Int) := of_decide_eq_true (by first | (with_reducible assumption) | assumption)
                                                          obtain ⟨ad178, e178, hx178_0, hx178_1, hx178_2, hx178_3⟩ := at_T23 HR0.out x83_5 p178 q178
                                                          have hw178_3 := hx178_3
                                                          have hw178_2 := hx178_2
                                                          have hw178_1 := hx178_1
                                                          have hw178_0 := hx178_0
                                                          cases e178
                                                          replace hx178_0 := (HB.out.cell (World.block_lt_of_cell? w _ hx178_0)).trans hx178_0
                                                          replace hx178_1 := (HB.out.cell (World.block_lt_of_cell? w _ hx178_1)).trans hx178_1
                                                          replace hx178_2 := (HB.out.cell (World.block_lt_of_cell? w _ hx178_2)).trans hx178_2
                                                          replace hx178_3 := (HB.out.cell (World.block_lt_of_cell? w _ hx178_3)).trans hx178_3
                                                          replace p178 := eq_true p178
                                                          replace q178 := eq_true q178
                                                          have p179 : 0 ≤ (x53_3 : Int) := of_decide_eq_true (by first | (with_reducible assumption) | assumption)
                                                          have q179 : x53_3 < (t150.length : Int) := of_decide_eq_true (by first | (with_reducible assumption) | assumption)
                                                          obtain ⟨ad179, e179, hx179_0, hx179_1, hx179_2, hx179_3⟩ := at_T23 (Kd.R_reads' HO_7.out).2.2 x53_3 p179 q179
                                                          cases e179
                                                          replace p179 := eq_true p179
                                                          replace q179 := eq_true q179
                                                          refine start_ (n := 9) (S := fun w' => w'.cell? (ad178.add ((x83_5).toNat * 4)) = some (.int .i64 ((rd_T23 l0 x83_5).f0)) ∧ w'.cell? ⟨(ad178.add ((x83_5).toNat * 4)).block, (ad178.add ((x83_5).toNat * 4)).off + 1, none⟩ = some (.int .i64 ((rd_T23 l0 x83_5).f1)) ∧ w'.cell? ⟨(ad178.add ((x83_5).toNat * 4)).block, (ad178.add ((x83_5).toNat * 4)).off + 2, none⟩ = some (.int .i64 ((rd_T23 l0 x83_5).f2)) ∧ w'.cell? ⟨(ad178.add ((x83_5).toNat * 4)).block, (ad178.add ((x83_5).toNat * 4)).off + 3, none⟩ = some (.int .i64 ((rd_T23 l0 x83_5).f3)) ∧ w'.cell? (ad179.add ((x53_3).toNat * 4)) = some (.int .i64 ((rd_T23 t150 x53_3).f0)) ∧ w'.cell? ⟨(ad179.add ((x53_3).toNat * 4)).block, (ad179.add ((x53_3).toNat * 4)).off + 1, none⟩ = some (.int .i64 ((rd_T23 t150 x53_3).f1)) ∧ w'.cell? ⟨(ad179.add ((x53_3).toNat * 4)).block, (ad179.add ((x53_3).toNat * 4)).off + 2, none⟩ = some (.int .i64 ((rd_T23 t150 x53_3).f2)) ∧ w'.cell? ⟨(ad179.add ((x53_3).toNat * 4)).block, (ad179.add ((x53_3).toNat * 4)).off + 3, none⟩ = some (.int .i64 ((rd_T23 t150 x53_3).f3))) (ds := []) #[false, false, false, false, false, false, false, false, false] (by kernel_rfl) rfl rfl ⟨((HB.out.cell (World.block_lt_of_cell? w _ hw178_0)).trans hw178_0), ((HB.out.cell (World.block_lt_of_cell? w _ hw178_1)).trans hw178_1), ((HB.out.cell (World.block_lt_of_cell? w _ hw178_2)).trans hw178_2), ((HB.out.cell (World.block_lt_of_cell? w _ hw178_3)).trans hw178_3), hx179_0, hx179_1, hx179_2, hx179_3⟩ (fun hHeld => ?_); refine with_tabW kissgatelaw10_PrioSorted.tab19 kissgatelaw10_PrioSorted.bits19 (fun HT_ HW_ => ?_)
                                                          generalize wr.drew = w66 at HO_7 HO_8 HB hx178_0 hx178_1 hx178_2 hx178_3 hx179_0 hx179_1 hx179_2 hx179_3 hHeld ⊢
                                                          refine pure_ (i := 0) (N := some 86) (v := ?_) (a' := ?_) #[true, false, false, false, false, false, false, false, false] rfl rfl (any_of HT_.out (by kernel_rfl)) (fun _ _ _ h => h) (Or.inl ⟨by rfl, ?_⟩) ?_ ?_
                                                          rotate_left
                                                          · intro w'
                                                            go_simp
                                                            with_reducible rfl
                                                          rotate_left
                                                          · simp only [Act.put, List.setIfInBounds_toArray, List.set_cons_zero, List.set_cons_succ, i64_w, i32_w]
                                                            rfl
                                                          refine pure_ (i := 1) (N := some 87) (v := ?_) (a' := ?_) #[true, true, false, false, false, false, false, false, false] rfl rfl (any_of HT_.out (by kernel_rfl)) (fun _ _ _ h => h) (Or.inl ⟨by rfl, ?_⟩) ?_ ?_
                                                          rotate_left
                                                          · intro w'
                                                            go_simp
                                                            with_reducible rfl
                                                          rotate_left
                                                          · simp only [Act.put, List.setIfInBounds_toArray, List.set_cons_zero, List.set_cons_succ, i64_w, i32_w]
                                                            rfl
                                                          refine pure_ (i := 2) (N := some 88) (v := ?_) (a' := ?_) #[true, true, true, false, false, false, false, false, false] rfl rfl (any_of HT_.out (by kernel_rfl)) (fun _ _ _ h => h) (Or.inl ⟨by rfl, ?_⟩) ?_ ?_
                                                          rotate_left
                                                          · intro w'
                                                            go_simp
                                                            with_reducible rfl
                                                          rotate_left
                                                          · simp only [Act.put, List.setIfInBounds_toArray, List.set_cons_zero, List.set_cons_succ, i64_w, i32_w]
                                                            rfl
                                                          refine pure_ (i := 4) (N := some 90) (v := ?_) (a' := ?_) #[true, true, true, false, true, false, false, false, false] rfl rfl (any_of HT_.out (by kernel_rfl)) (fun _ _ _ h => h) (Or.inl ⟨by rfl, ?_⟩) ?_ ?_
                                                          rotate_left
                                                          · intro w'
                                                            go_simp
                                                            with_reducible rfl
                                                          rotate_left
                                                          · simp only [Act.put, List.setIfInBounds_toArray, List.set_cons_zero, List.set_cons_succ, i64_w, i32_w]
                                                            rfl
                                                          refine pure_ (i := 5) (N := some 91) (v := ?_) (a' := ?_) #[true, true, true, false, true, true, false, false, false] rfl rfl (any_of HT_.out (by kernel_rfl)) (fun _ _ _ h => h) (Or.inl ⟨by rfl, ?_⟩) ?_ ?_
                                                          rotate_left
                                                          · intro w'
                                                            go_simp
                                                            with_reducible rfl
                                                          rotate_left
                                                          · simp only [Act.put, List.setIfInBounds_toArray, List.set_cons_zero, List.set_cons_succ, i64_w, i32_w]
                                                            rfl
                                                          refine pure_ (i := 6) (N := some 92) (v := ?_) (a' := ?_) #[true, true, true, false, true, true, true, false, false] rfl rfl (any_of HT_.out (by kernel_rfl)) (fun _ _ _ h => h) (Or.inl ⟨by rfl, ?_⟩) ?_ ?_
                                                          rotate_left
                                                          · intro w'
                                                            go_simp
                                                            with_reducible rfl
                                                          rotate_left
                                                          · simp only [Act.put, List.setIfInBounds_toArray, List.set_cons_zero, List.set_cons_succ, i64_w, i32_w]
                                                            rfl
                                                          refine take_ (i := 3) (N := some 89) (v := ?_) (a' := ?_) #[true, true, true, true, true, true, true, false, false] rfl rfl (take_ofW HT_.out HW_.out (by kernel_rfl)) (fun _ _ _ h => h) (Or.inl ⟨by rfl, ?_⟩) hHeld ?_ ?_
                                                          rotate_left
                                                          · rintro w' ⟨s0, s1, s2, s3, s4, s5, s6, s7⟩
                                                            go_simp
                                                            with_reducible rfl
                                                          rotate_left
                                                          · simp only [Act.put, List.setIfInBounds_toArray, List.set_cons_zero, List.set_cons_succ, i64_w, i32_w]
                                                            rfl
                                                          refine take_ (i := 7) (N := some 93) (v := ?_) (a' := ?_) #[true, true, true, true, true, true, true, true, false] rfl rfl (take_ofW HT_.out HW_.out (by kernel_rfl)) (fun _ _ _ h => h) (Or.inl ⟨by rfl, ?_⟩) hHeld ?_ ?_
                                                          rotate_left
                                                          · rintro w' ⟨s0, s1, s2, s3, s4, s5, s6, s7⟩
                                                            go_simp
                                                            with_reducible rfl
                                                          rotate_left
                                                          · simp only [Act.put, List.setIfInBounds_toArray, List.set_cons_zero, List.set_cons_succ, i64_w, i32_w]
                                                            rfl
                                                          refine pure_ (i := 8) (N := some 94) (v := ?_) (a' := ?_) #[true, true, true, true, true, true, true, true, true] rfl rfl (any_of HT_.out (by kernel_rfl)) (fun _ _ _ h => h) (Or.inl ⟨by rfl, ?_⟩) ?_ ?_
                                                          rotate_left
                                                          · intro w'
                                                            go_simp
                                                            with_reducible rfl
                                                          rotate_left
                                                          · simp only [Act.put, List.setIfInBounds_toArray, List.set_cons_zero, List.set_cons_succ, i64_w, i32_w]
                                                            rfl
                                                          refine done_ (done_of HT_.out (by kernel_rfl)) ?_
                                                          try go_wp2
                                                          have n0_ := Aside0.mk (Kd.R_drew HO_7.out)
                                                          have n1_ := Aside0.mk (Kd.R_drew HO_8.out)
                                                          have n2_ := Aside0.mk (below_drew1 HB.out)
                                                          clear HO_7
                                                          clear HO_8
                                                          clear HB
                                                          have HO_7 := n0_
                                                          have HO_8 := n1_
                                                          have HB := n2_
                                                          clear n0_ n1_ n2_
                                                          have p180 : 0 ≤ (x83_5 : Int) := of_decide_eq_true (by first | (with_reducible assumption) | assumption)
                                                          have q180 : x83_5 < (t150.length : Int) := of_decide_eq_true (by first | (with_reducible assumption) | assumption)
                                                          obtain ⟨ad180, e180, hx180_0, hx180_1, hx180_2, hx180_3⟩ := at_T23 (Kd.R_reads' HO_7.out).2.2 x83_5 p180 q180
                                                          obtain rfl : ad179 = ad180 := (by injection e180)
                                                          replace p180 := eq_true p180
                                                          replace q180 := eq_true q180
                                                          have p181 : 0 ≤ (x53_3 : Int) := of_decide_eq_true (by first | (with_reducible assumption) | assumption)
                                                          have q181 : x53_3 < (t150.length : Int) := of_decide_eq_true (by first | (with_reducible assumption) | assumption)
                                                          obtain ⟨ad181, e181, hx181_0, hx181_1, hx181_2, hx181_3⟩ := at_T23 (Kd.R_reads' HO_7.out).2.2 x53_3 p181 q181
                                                          obtain rfl : ad179 = ad181 := (by injection e181)
                                                          replace p181 := eq_true p181
                                                          replace q181 := eq_true q181
                                                          refine start_ (n := 9) (S := fun w' => w'.cell? (ad179.add ((x83_5).toNat * 4)) = some (.int .i64 ((rd_T23 t150 x83_5).f0)) ∧ w'.cell? ⟨(ad179.add ((x83_5).toNat * 4)).block, (ad179.add ((x83_5).toNat * 4)).off + 1, none⟩ = some (.int .i64 ((rd_T23 t150 x83_5).f1)) ∧ w'.cell? ⟨(ad179.add ((x83_5).toNat * 4)).block, (ad179.add ((x83_5).toNat * 4)).off + 2, none⟩ = some (.int .i64 ((rd_T23 t150 x83_5).f2)) ∧ w'.cell? ⟨(ad179.add ((x83_5).toNat * 4)).block, (ad179.add ((x83_5).toNat * 4)).off + 3, none⟩ = some (.int .i64 ((rd_T23 t150 x83_5).f3)) ∧ w'.cell? (ad179.add ((x53_3).toNat * 4)) = some (.int .i64 ((rd_T23 t150 x53_3).f0)) ∧ w'.cell? ⟨(ad179.add ((x53_3).toNat * 4)).block, (ad179.add ((x53_3).toNat * 4)).off + 1, none⟩ = some (.int .i64 ((rd_T23 t150 x53_3).f1)) ∧ w'.cell? ⟨(ad179.add ((x53_3).toNat * 4)).block, (ad179.add ((x53_3).toNat * 4)).off + 2, none⟩ = some (.int .i64 ((rd_T23 t150 x53_3).f2)) ∧ w'.cell? ⟨(ad179.add ((x53_3).toNat * 4)).block, (ad179.add ((x53_3).toNat * 4)).off + 3, none⟩ = some (.int .i64 ((rd_T23 t150 x53_3).f3))) (ds := []) #[false, false, false, false, false, false, false, false, false] (by kernel_rfl) rfl rfl ⟨hx180_0, hx180_1, hx180_2, hx180_3, hx181_0, hx181_1, hx181_2, hx181_3⟩ (fun hHeld => ?_); refine with_tabW kissgatelaw10_PrioSorted.tab21 kissgatelaw10_PrioSorted.bits21 (fun HT_ HW_ => ?_)
                                                          generalize w66.drew = w67 at HO_7 HO_8 HB hx180_0 hx180_1 hx180_2 hx180_3 hx181_0 hx181_1 hx181_2 hx181_3 hHeld ⊢
                                                          refine pure_ (i := 0) (N := some 97) (v := ?_) (a' := ?_) #[true, false, false, false, false, false, false, false, false] rfl rfl (any_of HT_.out (by kernel_rfl)) (fun _ _ _ h => h) (Or.inl ⟨by rfl, ?_⟩) ?_ ?_
                                                          rotate_left
                                                          · intro w'
                                                            go_simp
                                                            with_reducible rfl
                                                          rotate_left
                                                          · simp only [Act.put, List.setIfInBounds_toArray, List.set_cons_zero, List.set_cons_succ, i64_w, i32_w]
                                                            rfl
                                                          refine pure_ (i := 1) (N := some 98) (v := ?_) (a' := ?_) #[true, true, false, false, false, false, false, false, false] rfl rfl (any_of HT_.out (by kernel_rfl)) (fun _ _ _ h => h) (Or.inl ⟨by rfl, ?_⟩) ?_ ?_
                                                          rotate_left
                                                          · intro w'
                                                            go_simp
                                                            with_reducible rfl
                                                          rotate_left
                                                          · simp only [Act.put, List.setIfInBounds_toArray, List.set_cons_zero, List.set_cons_succ, i64_w, i32_w]
                                                            rfl
                                                          refine pure_ (i := 2) (N := some 99) (v := ?_) (a' := ?_) #[true, true, true, false, false, false, false, false, false] rfl rfl (any_of HT_.out (by kernel_rfl)) (fun _ _ _ h => h) (Or.inl ⟨by rfl, ?_⟩) ?_ ?_
                                                          rotate_left
                                                          · intro w'
                                                            go_simp
                                                            with_reducible rfl
                                                          rotate_left
                                                          · simp only [Act.put, List.setIfInBounds_toArray, List.set_cons_zero, List.set_cons_succ, i64_w, i32_w]
                                                            rfl
                                                          refine pure_ (i := 4) (N := some 101) (v := ?_) (a' := ?_) #[true, true, true, false, true, false, false, false, false] rfl rfl (any_of HT_.out (by kernel_rfl)) (fun _ _ _ h => h) (Or.inl ⟨by rfl, ?_⟩) ?_ ?_
                                                          rotate_left
                                                          · intro w'
                                                            go_simp
                                                            with_reducible rfl
                                                          rotate_left
                                                          · simp only [Act.put, List.setIfInBounds_toArray, List.set_cons_zero, List.set_cons_succ, i64_w, i32_w]
                                                            rfl
                                                          refine pure_ (i := 5) (N := some 102) (v := ?_) (a' := ?_) #[true, true, true, false, true, true, false, false, false] rfl rfl (any_of HT_.out (by kernel_rfl)) (fun _ _ _ h => h) (Or.inl ⟨by rfl, ?_⟩) ?_ ?_
                                                          rotate_left
                                                          · intro w'
                                                            go_simp
                                                            with_reducible rfl
                                                          rotate_left
                                                          · simp only [Act.put, List.setIfInBounds_toArray, List.set_cons_zero, List.set_cons_succ, i64_w, i32_w]
                                                            rfl
                                                          refine pure_ (i := 6) (N := some 103) (v := ?_) (a' := ?_) #[true, true, true, false, true, true, true, false, false] rfl rfl (any_of HT_.out (by kernel_rfl)) (fun _ _ _ h => h) (Or.inl ⟨by rfl, ?_⟩) ?_ ?_
                                                          rotate_left
                                                          · intro w'
                                                            go_simp
                                                            with_reducible rfl
                                                          rotate_left
                                                          · simp only [Act.put, List.setIfInBounds_toArray, List.set_cons_zero, List.set_cons_succ, i64_w, i32_w]
                                                            rfl
                                                          refine take_ (i := 3) (N := some 100) (v := ?_) (a' := ?_) #[true, true, true, true, true, true, true, false, false] rfl rfl (take_ofW HT_.out HW_.out (by kernel_rfl)) (fun _ _ _ h => h) (Or.inl ⟨by rfl, ?_⟩) hHeld ?_ ?_
                                                          rotate_left
                                                          · rintro w' ⟨s0, s1, s2, s3, s4, s5, s6, s7⟩
                                                            go_simp
                                                            with_reducible rfl
                                                          rotate_left
                                                          · simp only [Act.put, List.setIfInBounds_toArray, List.set_cons_zero, List.set_cons_succ, i64_w, i32_w]
                                                            rfl
                                                          refine take_ (i := 7) (N := some 104) (v := ?_) (a' := ?_) #[true, true, true, true, true, true, true, true, false] rfl rfl (take_ofW HT_.out HW_.out (by kernel_rfl)) (fun _ _ _ h => h) (Or.inl ⟨by rfl, ?_⟩) hHeld ?_ ?_
                                                          rotate_left
                                                          · rintro w' ⟨s0, s1, s2, s3, s4, s5, s6, s7⟩
                                                            go_simp
                                                            with_reducible rfl
                                                          rotate_left
                                                          · simp only [Act.put, List.setIfInBounds_toArray, List.set_cons_zero, List.set_cons_succ, i64_w, i32_w]
                                                            rfl
                                                          refine pure_ (i := 8) (N := some 105) (v := ?_) (a' := ?_) #[true, true, true, true, true, true, true, true, true] rfl rfl (any_of HT_.out (by kernel_rfl)) (fun _ _ _ h => h) (Or.inl ⟨by rfl, ?_⟩) ?_ ?_
                                                          rotate_left
                                                          · intro w'
                                                            go_simp
                                                            with_reducible rfl
                                                          rotate_left
                                                          · simp only [Act.put, List.setIfInBounds_toArray, List.set_cons_zero, List.set_cons_succ, i64_w, i32_w]
                                                            rfl
                                                          refine done_ (done_of HT_.out (by kernel_rfl)) ?_
                                                          try go_wp2
                                                          go_roundg k5
                                                          case measure => have := HJ4.out; have := HJ18.out; have := HK3.out; have := HJ37.out; have := HK5.out; omega
                                                          case rel => exact ⟨(wrap64 (x10_5 + 1)), (x11_5), (wrap64 (x83_5 + 1)), (by first | rfl | (simp; done) | (simp [*]; done)), (by first | rfl | (simp; done) | (simp [*]; done)), (by first | rfl | (simp; done) | (simp [*]; done)), H', ⟨by have := HJ4.out; have := HJ18.out; have := HK3.out; have := HJ37.out; have := HK5.out; omega⟩, ⟨by (with_reducible repeat (first | apply Kd.R_alloc | apply Kd.R_drewN | apply Kd.R_drew)); exact HO_7.out⟩, ⟨by (with_reducible repeat (first | apply Kd.R_alloc | apply Kd.R_drewN | apply Kd.R_drew)); exact HO_8.out⟩, ⟨by repeat (first | (with_reducible first | exact HB.out | apply below_alloc | apply pw_below_drewN | apply below_drew1) | exact HB.out)⟩⟩
                                                      · rw [if_neg c62] at H
                                                        exact absurd H (by simp)
                                                    · rw [if_neg c61] at H
                                                      have c61b0 : (((rd_T23 l0 x83_5).f0) == ((rd_T23 t150 x53_3).f0) && (((rd_T23 l0 x83_5).f1) == ((rd_T23 t150 x53_3).f1) && (((rd_T23 l0 x83_5).f2) == ((rd_T23 t150 x53_3).f2) && (((rd_T23 l0 x83_5).f3) == ((rd_T23 t150 x53_3).f3))))) = false := by simpa using c61
                                                      (try (have c61b1 : decide (((rd_T23 l0 x83_5).f0) = ((rd_T23 t150 x53_3).f0) && (((rd_T23 l0 x83_5).f1) == ((rd_T23 t150 x53_3).f1) && (((rd_T23 l0 x83_5).f2) == ((rd_T23 t150 x53_3).f2) && (((rd_T23 l0 x83_5).f3) == ((rd_T23 t150 x53_3).f3))))) = false := by simpa using c61))
                                                      (try (have c61b2 : (((rd_T23 l0 x83_5).f0) == ((rd_T23 t150 x53_3).f0) && (((rd_T23 l0 x83_5).f1) == ((rd_T23 t150 x53_3).f1) && (((rd_T23 l0 x83_5).f2) == ((rd_T23 t150 x53_3).f2) && (((rd_T23 l0 x83_5).f3) == ((rd_T23 t150 x53_3).f3))))) = false := by simpa using c61))
                                                      (try (have c61b3 : ¬ (((rd_T23 l0 x83_5).f0) = ((rd_T23 t150 x53_3).f0) && (((rd_T23 l0 x83_5).f1) == ((rd_T23 t150 x53_3).f1) && (((rd_T23 l0 x83_5).f2) == ((rd_T23 t150 x53_3).f2) && (((rd_T23 l0 x83_5).f3) == ((rd_T23 t150 x53_3).f3))))) := by simpa using c61))
                                                      clear c61
                                                      by_cases c68 : x83_5 < (t150.length : Int)
                                                      · rw [if_pos c68] at H
                                                        have c68b0 : decide (x83_5 < (t150.length : Int)) = true := decide_eq_true c68
                                                        clear c68
                                                        by_cases c69 : (((rd_T23 t150 x83_5).f0) == ((rd_T23 t150 x53_3).f0) && (((rd_T23 t150 x83_5).f1) == ((rd_T23 t150 x53_3).f1) && (((rd_T23 t150 x83_5).f2) == ((rd_T23 t150 x53_3).f2) && (((rd_T23 t150 x83_5).f3) == ((rd_T23 t150 x53_3).f3))))) = true
                                                        · rw [if_pos c69] at H
                                                          have c69b0 : (((rd_T23 t150 x83_5).f0) == ((rd_T23 t150 x53_3).f0) && (((rd_T23 t150 x83_5).f1) == ((rd_T23 t150 x53_3).f1) && (((rd_T23 t150 x83_5).f2) == ((rd_T23 t150 x53_3).f2) && (((rd_T23 t150 x83_5).f3) == ((rd_T23 t150 x53_3).f3))))) = true := c69
                                                          (try (have c69b1 : decide (((rd_T23 t150 x83_5).f0) = ((rd_T23 t150 x53_3).f0) && (((rd_T23 t150 x83_5).f1) == ((rd_T23 t150 x53_3).f1) && (((rd_T23 t150 x83_5).f2) == ((rd_T23 t150 x53_3).f2) && (((rd_T23 t150 x83_5).f3) == ((rd_T23 t150 x53_3).f3))))) = true := by simpa using c69))
                                                          (try (have c69b2 : (((rd_T23 t150 x83_5).f0) == ((rd_T23 t150 x53_3).f0) && (((rd_T23 t150 x83_5).f1) == ((rd_T23 t150 x53_3).f1) && (((rd_T23 t150 x83_5).f2) == ((rd_T23 t150 x53_3).f2) && (((rd_T23 t150 x83_5).f3) == ((rd_T23 t150 x53_3).f3))))) = true := by simpa using c69))
                                                          clear c69
                                                          have H' := Aside0.mk H
                                                          clear H
                                                          try go_wp2
                                                          have n0_ := Aside0.mk (Kd.R_drew HO_7.out)
                                                          have n1_ := Aside0.mk (Kd.R_drew HO_8.out)
                                                          have n2_ := Aside0.mk (below_drew1 HB.out)
                                                          clear HO_7
                                                          clear HO_8
                                                          clear HB
                                                          have HO_7 := n0_
                                                          have HO_8 := n1_
                                                          have HB := n2_
                                                          clear n0_ n1_ n2_
                                                          have p178 : 0 ≤ (x83_5 : Int) := of_decide_eq_true (by first | (with_reducible assumption) | assumption)
                                                          have q178 : x83_5 < (l0.length : Int) := of_decide_eq_true (by first | (with_reducible assumption) | assumption)
                                                          obtain ⟨ad178, e178, hx178_0, hx178_1, hx178_2, hx178_3⟩ := at_T23 HR0.out x83_5 p178 q178
                                                          have hw178_3 := hx178_3
                                                          have hw178_2 := hx178_2
                                                          have hw178_1 := hx178_1
                                                          have hw178_0 := hx178_0
                                                          cases e178
                                                          replace hx178_0 := (HB.out.cell (World.block_lt_of_cell? w _ hx178_0)).trans hx178_0
                                                          replace hx178_1 := (HB.out.cell (World.block_lt_of_cell? w _ hx178_1)).trans hx178_1
                                                          replace hx178_2 := (HB.out.cell (World.block_lt_of_cell? w _ hx178_2)).trans hx178_2
                                                          replace hx178_3 := (HB.out.cell (World.block_lt_of_cell? w _ hx178_3)).trans hx178_3
                                                          replace p178 := eq_true p178
                                                          replace q178 := eq_true q178
                                                          have p179 : 0 ≤ (x53_3 : Int) := of_decide_eq_true (by first | (with_reducible assumption) | assumption)
                                                          have q179 : x53_3 < (t150.length : Int) := of_decide_eq_true (by first | (with_reducible assumption) | assumption)
                                                          obtain ⟨ad179, e179, hx179_0, hx179_1, hx179_2, hx179_3⟩ := at_T23 (Kd.R_reads' HO_7.out).2.2 x53_3 p179 q179
                                                          cases e179
                                                          replace p179 := eq_true p179
                                                          replace q179 := eq_true q179
                                                          refine start_ (n := 9) (S := fun w' => w'.cell? (ad178.add ((x83_5).toNat * 4)) = some (.int .i64 ((rd_T23 l0 x83_5).f0)) ∧ w'.cell? ⟨(ad178.add ((x83_5).toNat * 4)).block, (ad178.add ((x83_5).toNat * 4)).off + 1, none⟩ = some (.int .i64 ((rd_T23 l0 x83_5).f1)) ∧ w'.cell? ⟨(ad178.add ((x83_5).toNat * 4)).block, (ad178.add ((x83_5).toNat * 4)).off + 2, none⟩ = some (.int .i64 ((rd_T23 l0 x83_5).f2)) ∧ w'.cell? ⟨(ad178.add ((x83_5).toNat * 4)).block, (ad178.add ((x83_5).toNat * 4)).off + 3, none⟩ = some (.int .i64 ((rd_T23 l0 x83_5).f3)) ∧ w'.cell? (ad179.add ((x53_3).toNat * 4)) = some (.int .i64 ((rd_T23 t150 x53_3).f0)) ∧ w'.cell? ⟨(ad179.add ((x53_3).toNat * 4)).block, (ad179.add ((x53_3).toNat * 4)).off + 1, none⟩ = some (.int .i64 ((rd_T23 t150 x53_3).f1)) ∧ w'.cell? ⟨(ad179.add ((x53_3).toNat * 4)).block, (ad179.add ((x53_3).toNat * 4)).off + 2, none⟩ = some (.int .i64 ((rd_T23 t150 x53_3).f2)) ∧ w'.cell? ⟨(ad179.add ((x53_3).toNat * 4)).block, (ad179.add ((x53_3).toNat * 4)).off + 3, none⟩ = some (.int .i64 ((rd_T23 t150 x53_3).f3))) (ds := []) #[false, false, false, false, false, false, false, false, false] (by kernel_rfl) rfl rfl ⟨((HB.out.cell (World.block_lt_of_cell? w _ hw178_0)).trans hw178_0), ((HB.out.cell (World.block_lt_of_cell? w _ hw178_1)).trans hw178_1), ((HB.out.cell (World.block_lt_of_cell? w _ hw178_2)).trans hw178_2), ((HB.out.cell (World.block_lt_of_cell? w _ hw178_3)).trans hw178_3), hx179_0, hx179_1, hx179_2, hx179_3⟩ (fun hHeld => ?_); refine with_tabW kissgatelaw10_PrioSorted.tab19 kissgatelaw10_PrioSorted.bits19 (fun HT_ HW_ => ?_)
                                                          generalize wr.drew = w70 at HO_7 HO_8 HB hx178_0 hx178_1 hx178_2 hx178_3 hx179_0 hx179_1 hx179_2 hx179_3 hHeld ⊢
                                                          refine pure_ (i := 0) (N := some 86) (v := ?_) (a' := ?_) #[true, false, false, false, false, false, false, false, false] rfl rfl (any_of HT_.out (by kernel_rfl)) (fun _ _ _ h => h) (Or.inl ⟨by rfl, ?_⟩) ?_ ?_
                                                          rotate_left
                                                          · intro w'
                                                            go_simp
                                                            with_reducible rfl
                                                          rotate_left
                                                          · simp only [Act.put, List.setIfInBounds_toArray, List.set_cons_zero, List.set_cons_succ, i64_w, i32_w]
                                                            rfl
                                                          refine pure_ (i := 1) (N := some 87) (v := ?_) (a' := ?_) #[true, true, false, false, false, false, false, false, false] rfl rfl (any_of HT_.out (by kernel_rfl)) (fun _ _ _ h => h) (Or.inl ⟨by rfl, ?_⟩) ?_ ?_
                                                          rotate_left
                                                          · intro w'
                                                            go_simp
                                                            with_reducible rfl
                                                          rotate_left
                                                          · simp only [Act.put, List.setIfInBounds_toArray, List.set_cons_zero, List.set_cons_succ, i64_w, i32_w]
                                                            rfl
                                                          refine pure_ (i := 2) (N := some 88) (v := ?_) (a' := ?_) #[true, true, true, false, false, false, false, false, false] rfl rfl (any_of HT_.out (by kernel_rfl)) (fun _ _ _ h => h) (Or.inl ⟨by rfl, ?_⟩) ?_ ?_
                                                          rotate_left
                                                          · intro w'
                                                            go_simp
                                                            with_reducible rfl
                                                          rotate_left
                                                          · simp only [Act.put, List.setIfInBounds_toArray, List.set_cons_zero, List.set_cons_succ, i64_w, i32_w]
                                                            rfl
                                                          refine pure_ (i := 4) (N := some 90) (v := ?_) (a' := ?_) #[true, true, true, false, true, false, false, false, false] rfl rfl (any_of HT_.out (by kernel_rfl)) (fun _ _ _ h => h) (Or.inl ⟨by rfl, ?_⟩) ?_ ?_
                                                          rotate_left
                                                          · intro w'
                                                            go_simp
                                                            with_reducible rfl
                                                          rotate_left
                                                          · simp only [Act.put, List.setIfInBounds_toArray, List.set_cons_zero, List.set_cons_succ, i64_w, i32_w]
                                                            rfl
                                                          refine pure_ (i := 5) (N := some 91) (v := ?_) (a' := ?_) #[true, true, true, false, true, true, false, false, false] rfl rfl (any_of HT_.out (by kernel_rfl)) (fun _ _ _ h => h) (Or.inl ⟨by rfl, ?_⟩) ?_ ?_
                                                          rotate_left
                                                          · intro w'
                                                            go_simp
                                                            with_reducible rfl
                                                          rotate_left
                                                          · simp only [Act.put, List.setIfInBounds_toArray, List.set_cons_zero, List.set_cons_succ, i64_w, i32_w]
                                                            rfl
                                                          refine pure_ (i := 6) (N := some 92) (v := ?_) (a' := ?_) #[true, true, true, false, true, true, true, false, false] rfl rfl (any_of HT_.out (by kernel_rfl)) (fun _ _ _ h => h) (Or.inl ⟨by rfl, ?_⟩) ?_ ?_
                                                          rotate_left
                                                          · intro w'
                                                            go_simp
                                                            with_reducible rfl
                                                          rotate_left
                                                          · simp only [Act.put, List.setIfInBounds_toArray, List.set_cons_zero, List.set_cons_succ, i64_w, i32_w]
                                                            rfl
                                                          refine take_ (i := 3) (N := some 89) (v := ?_) (a' := ?_) #[true, true, true, true, true, true, true, false, false] rfl rfl (take_ofW HT_.out HW_.out (by kernel_rfl)) (fun _ _ _ h => h) (Or.inl ⟨by rfl, ?_⟩) hHeld ?_ ?_
                                                          rotate_left
                                                          · rintro w' ⟨s0, s1, s2, s3, s4, s5, s6, s7⟩
                                                            go_simp
                                                            with_reducible rfl
                                                          rotate_left
                                                          · simp only [Act.put, List.setIfInBounds_toArray, List.set_cons_zero, List.set_cons_succ, i64_w, i32_w]
                                                            rfl
                                                          refine take_ (i := 7) (N := some 93) (v := ?_) (a' := ?_) #[true, true, true, true, true, true, true, true, false] rfl rfl (take_ofW HT_.out HW_.out (by kernel_rfl)) (fun _ _ _ h => h) (Or.inl ⟨by rfl, ?_⟩) hHeld ?_ ?_
                                                          rotate_left
                                                          · rintro w' ⟨s0, s1, s2, s3, s4, s5, s6, s7⟩
                                                            go_simp
                                                            with_reducible rfl
                                                          rotate_left
                                                          · simp only [Act.put, List.setIfInBounds_toArray, List.set_cons_zero, List.set_cons_succ, i64_w, i32_w]
                                                            rfl
                                                          refine pure_ (i := 8) (N := some 94) (v := ?_) (a' := ?_) #[true, true, true, true, true, true, true, true, true] rfl rfl (any_of HT_.out (by kernel_rfl)) (fun _ _ _ h => h) (Or.inl ⟨by rfl, ?_⟩) ?_ ?_
                                                          rotate_left
                                                          · intro w'
                                                            go_simp
                                                            with_reducible rfl
                                                          rotate_left
                                                          · simp only [Act.put, List.setIfInBounds_toArray, List.set_cons_zero, List.set_cons_succ, i64_w, i32_w]
                                                            rfl
                                                          refine done_ (done_of HT_.out (by kernel_rfl)) ?_
                                                          try go_wp2
                                                          have n0_ := Aside0.mk (Kd.R_drew HO_7.out)
                                                          have n1_ := Aside0.mk (Kd.R_drew HO_8.out)
                                                          have n2_ := Aside0.mk (below_drew1 HB.out)
                                                          clear HO_7
                                                          clear HO_8
                                                          clear HB
                                                          have HO_7 := n0_
                                                          have HO_8 := n1_
                                                          have HB := n2_
                                                          clear n0_ n1_ n2_
                                                          have p182 : 0 ≤ (x83_5 : Int) := of_decide_eq_true (by first | (with_reducible assumption) | assumption)
                                                          have q182 : x83_5 < (t150.length : Int) := of_decide_eq_true (by first | (with_reducible assumption) | assumption)
                                                          obtain ⟨ad182, e182, hx182_0, hx182_1, hx182_2, hx182_3⟩ := at_T23 (Kd.R_reads' HO_7.out).2.2 x83_5 p182 q182
                                                          obtain rfl : ad179 = ad182 := (by injection e182)
                                                          replace p182 := eq_true p182
                                                          replace q182 := eq_true q182
                                                          have p183 : 0 ≤ (x53_3 : Int) := of_decide_eq_true (by first | (with_reducible assumption) | assumption)
                                                          have q183 : x53_3 < (t150.length : Int) := of_decide_eq_true (by first | (with_reducible assumption) | assumption)
                                                          obtain ⟨ad183, e183, hx183_0, hx183_1, hx183_2, hx183_3⟩ := at_T23 (Kd.R_reads' HO_7.out).2.2 x53_3 p183 q183
                                                          obtain rfl : ad179 = ad183 := (by injection e183)
                                                          replace p183 := eq_true p183
                                                          replace q183 := eq_true q183
                                                          refine start_ (n := 9) (S := fun w' => w'.cell? (ad179.add ((x83_5).toNat * 4)) = some (.int .i64 ((rd_T23 t150 x83_5).f0)) ∧ w'.cell? ⟨(ad179.add ((x83_5).toNat * 4)).block, (ad179.add ((x83_5).toNat * 4)).off + 1, none⟩ = some (.int .i64 ((rd_T23 t150 x83_5).f1)) ∧ w'.cell? ⟨(ad179.add ((x83_5).toNat * 4)).block, (ad179.add ((x83_5).toNat * 4)).off + 2, none⟩ = some (.int .i64 ((rd_T23 t150 x83_5).f2)) ∧ w'.cell? ⟨(ad179.add ((x83_5).toNat * 4)).block, (ad179.add ((x83_5).toNat * 4)).off + 3, none⟩ = some (.int .i64 ((rd_T23 t150 x83_5).f3)) ∧ w'.cell? (ad179.add ((x53_3).toNat * 4)) = some (.int .i64 ((rd_T23 t150 x53_3).f0)) ∧ w'.cell? ⟨(ad179.add ((x53_3).toNat * 4)).block, (ad179.add ((x53_3).toNat * 4)).off + 1, none⟩ = some (.int .i64 ((rd_T23 t150 x53_3).f1)) ∧ w'.cell? ⟨(ad179.add ((x53_3).toNat * 4)).block, (ad179.add ((x53_3).toNat * 4)).off + 2, none⟩ = some (.int .i64 ((rd_T23 t150 x53_3).f2)) ∧ w'.cell? ⟨(ad179.add ((x53_3).toNat * 4)).block, (ad179.add ((x53_3).toNat * 4)).off + 3, none⟩ = some (.int .i64 ((rd_T23 t150 x53_3).f3))) (ds := []) #[false, false, false, false, false, false, false, false, false] (by kernel_rfl) rfl rfl ⟨hx182_0, hx182_1, hx182_2, hx182_3, hx183_0, hx183_1, hx183_2, hx183_3⟩ (fun hHeld => ?_); refine with_tabW kissgatelaw10_PrioSorted.tab21 kissgatelaw10_PrioSorted.bits21 (fun HT_ HW_ => ?_)
                                                          generalize w70.drew = w71 at HO_7 HO_8 HB hx182_0 hx182_1 hx182_2 hx182_3 hx183_0 hx183_1 hx183_2 hx183_3 hHeld ⊢
                                                          refine pure_ (i := 0) (N := some 97) (v := ?_) (a' := ?_) #[true, false, false, false, false, false, false, false, false] rfl rfl (any_of HT_.out (by kernel_rfl)) (fun _ _ _ h => h) (Or.inl ⟨by rfl, ?_⟩) ?_ ?_
                                                          rotate_left
                                                          · intro w'
                                                            go_simp
                                                            with_reducible rfl
                                                          rotate_left
                                                          · simp only [Act.put, List.setIfInBounds_toArray, List.set_cons_zero, List.set_cons_succ, i64_w, i32_w]
                                                            rfl
                                                          refine pure_ (i := 1) (N := some 98) (v := ?_) (a' := ?_) #[true, true, false, false, false, false, false, false, false] rfl rfl (any_of HT_.out (by kernel_rfl)) (fun _ _ _ h => h) (Or.inl ⟨by rfl, ?_⟩) ?_ ?_
                                                          rotate_left
                                                          · intro w'
                                                            go_simp
                                                            with_reducible rfl
                                                          rotate_left
                                                          · simp only [Act.put, List.setIfInBounds_toArray, List.set_cons_zero, List.set_cons_succ, i64_w, i32_w]
                                                            rfl
                                                          refine pure_ (i := 2) (N := some 99) (v := ?_) (a' := ?_) #[true, true, true, false, false, false, false, false, false] rfl rfl (any_of HT_.out (by kernel_rfl)) (fun _ _ _ h => h) (Or.inl ⟨by rfl, ?_⟩) ?_ ?_
                                                          rotate_left
                                                          · intro w'
                                                            go_simp
                                                            with_reducible rfl
                                                          rotate_left
                                                          · simp only [Act.put, List.setIfInBounds_toArray, List.set_cons_zero, List.set_cons_succ, i64_w, i32_w]
                                                            rfl
                                                          refine pure_ (i := 4) (N := some 101) (v := ?_) (a' := ?_) #[true, true, true, false, true, false, false, false, false] rfl rfl (any_of HT_.out (by kernel_rfl)) (fun _ _ _ h => h) (Or.inl ⟨by rfl, ?_⟩) ?_ ?_
                                                          rotate_left
                                                          · intro w'
                                                            go_simp
                                                            with_reducible rfl
                                                          rotate_left
                                                          · simp only [Act.put, List.setIfInBounds_toArray, List.set_cons_zero, List.set_cons_succ, i64_w, i32_w]
                                                            rfl
                                                          refine pure_ (i := 5) (N := some 102) (v := ?_) (a' := ?_) #[true, true, true, false, true, true, false, false, false] rfl rfl (any_of HT_.out (by kernel_rfl)) (fun _ _ _ h => h) (Or.inl ⟨by rfl, ?_⟩) ?_ ?_
                                                          rotate_left
                                                          · intro w'
                                                            go_simp
                                                            with_reducible rfl
                                                          rotate_left
                                                          · simp only [Act.put, List.setIfInBounds_toArray, List.set_cons_zero, List.set_cons_succ, i64_w, i32_w]
                                                            rfl
                                                          refine pure_ (i := 6) (N := some 103) (v := ?_) (a' := ?_) #[true, true, true, false, true, true, true, false, false] rfl rfl (any_of HT_.out (by kernel_rfl)) (fun _ _ _ h => h) (Or.inl ⟨by rfl, ?_⟩) ?_ ?_
                                                          rotate_left
                                                          · intro w'
                                                            go_simp
                                                            with_reducible rfl
                                                          rotate_left
                                                          · simp only [Act.put, List.setIfInBounds_toArray, List.set_cons_zero, List.set_cons_succ, i64_w, i32_w]
                                                            rfl
                                                          refine take_ (i := 3) (N := some 100) (v := ?_) (a' := ?_) #[true, true, true, true, true, true, true, false, false] rfl rfl (take_ofW HT_.out HW_.out (by kernel_rfl)) (fun _ _ _ h => h) (Or.inl ⟨by rfl, ?_⟩) hHeld ?_ ?_
                                                          rotate_left
                                                          · rintro w' ⟨s0, s1, s2, s3, s4, s5, s6, s7⟩
                                                            go_simp
                                                            with_reducible rfl
                                                          rotate_left
                                                          · simp only [Act.put, List.setIfInBounds_toArray, List.set_cons_zero, List.set_cons_succ, i64_w, i32_w]
                                                            rfl
                                                          refine take_ (i := 7) (N := some 104) (v := ?_) (a' := ?_) #[true, true, true, true, true, true, true, true, false] rfl rfl (take_ofW HT_.out HW_.out (by kernel_rfl)) (fun _ _ _ h => h) (Or.inl ⟨by rfl, ?_⟩) hHeld ?_ ?_
                                                          rotate_left
                                                          · rintro w' ⟨s0, s1, s2, s3, s4, s5, s6, s7⟩
                                                            go_simp
                                                            with_reducible rfl
                                                          rotate_left
                                                          · simp only [Act.put, List.setIfInBounds_toArray, List.set_cons_zero, List.set_cons_succ, i64_w, i32_w]
                                                            rfl
                                                          refine pure_ (i := 8) (N := some 105) (v := ?_) (a' := ?_) #[true, true, true, true, true, true, true, true, true] rfl rfl (any_of HT_.out (by kernel_rfl)) (fun _ _ _ h => h) (Or.inl ⟨by rfl, ?_⟩) ?_ ?_
                                                          rotate_left
                                                          · intro w'
                                                            go_simp
                                                            with_reducible rfl
                                                          rotate_left
                                                          · simp only [Act.put, List.setIfInBounds_toArray, List.set_cons_zero, List.set_cons_succ, i64_w, i32_w]
                                                            rfl
                                                          refine done_ (done_of HT_.out (by kernel_rfl)) ?_
                                                          try go_wp2
                                                          go_roundg k5
                                                          case measure => have := HJ4.out; have := HJ18.out; have := HK3.out; have := HJ37.out; have := HK5.out; omega
                                                          case rel => exact ⟨(x10_5), (wrap64 (x11_5 + 1)), (wrap64 (x83_5 + 1)), (by first | rfl | (simp; done) | (simp [*]; done)), (by first | rfl | (simp; done) | (simp [*]; done)), (by first | rfl | (simp; done) | (simp [*]; done)), H', ⟨by have := HJ4.out; have := HJ18.out; have := HK3.out; have := HJ37.out; have := HK5.out; omega⟩, ⟨by (with_reducible repeat (first | apply Kd.R_alloc | apply Kd.R_drewN | apply Kd.R_drew)); exact HO_7.out⟩, ⟨by (with_reducible repeat (first | apply Kd.R_alloc | apply Kd.R_drewN | apply Kd.R_drew)); exact HO_8.out⟩, ⟨by repeat (first | (with_reducible first | exact HB.out | apply below_alloc | apply pw_below_drewN | apply below_drew1) | exact HB.out)⟩⟩
                                                        · rw [if_neg c69] at H
                                                          have c69b0 : (((rd_T23 t150 x83_5).f0) == ((rd_T23 t150 x53_3).f0) && (((rd_T23 t150 x83_5).f1) == ((rd_T23 t150 x53_3).f1) && (((rd_T23 t150 x83_5).f2) == ((rd_T23 t150 x53_3).f2) && (((rd_T23 t150 x83_5).f3) == ((rd_T23 t150 x53_3).f3))))) = false := by simpa using c69
                                                          (try (have c69b1 : decide (((rd_T23 t150 x83_5).f0) = ((rd_T23 t150 x53_3).f0) && (((rd_T23 t150 x83_5).f1) == ((rd_T23 t150 x53_3).f1) && (((rd_T23 t150 x83_5).f2) == ((rd_T23 t150 x53_3).f2) && (((rd_T23 t150 x83_5).f3) == ((rd_T23 t150 x53_3).f3))))) = false := by simpa using c69))
                                                          (try (have c69b2 : (((rd_T23 t150 x83_5).f0) == ((rd_T23 t150 x53_3).f0) && (((rd_T23 t150 x83_5).f1) == ((rd_T23 t150 x53_3).f1) && (((rd_T23 t150 x83_5).f2) == ((rd_T23 t150 x53_3).f2) && (((rd_T23 t150 x83_5).f3) == ((rd_T23 t150 x53_3).f3))))) = false := by simpa using c69))
                                                          (try (have c69b3 : ¬ (((rd_T23 t150 x83_5).f0) = ((rd_T23 t150 x53_3).f0) && (((rd_T23 t150 x83_5).f1) == ((rd_T23 t150 x53_3).f1) && (((rd_T23 t150 x83_5).f2) == ((rd_T23 t150 x53_3).f2) && (((rd_T23 t150 x83_5).f3) == ((rd_T23 t150 x53_3).f3))))) := by simpa using c69))
                                                          clear c69
                                                          have H' := Aside0.mk H
                                                          clear H
                                                          try go_wp2
                                                          have n0_ := Aside0.mk (Kd.R_drew HO_7.out)
                                                          have n1_ := Aside0.mk (Kd.R_drew HO_8.out)
                                                          have n2_ := Aside0.mk (below_drew1 HB.out)
                                                          clear HO_7
                                                          clear HO_8
                                                          clear HB
                                                          have HO_7 := n0_
                                                          have HO_8 := n1_
                                                          have HB := n2_
                                                          clear n0_ n1_ n2_
                                                          have p178 : 0 ≤ (x83_5 : Int) := of_decide_eq_true (by first | (with_reducible assumption) | assumption)
                                                          have q178 : x83_5 < (l0.length : Int) := of_decide_eq_true (by first | (with_reducible assumption) | assumption)
                                                          obtain ⟨ad178, e178, hx178_0, hx178_1, hx178_2, hx178_3⟩ := at_T23 HR0.out x83_5 p178 q178
                                                          have hw178_3 := hx178_3
                                                          have hw178_2 := hx178_2
                                                          have hw178_1 := hx178_1
                                                          have hw178_0 := hx178_0
                                                          cases e178
                                                          replace hx178_0 := (HB.out.cell (World.block_lt_of_cell? w _ hx178_0)).trans hx178_0
                                                          replace hx178_1 := (HB.out.cell (World.block_lt_of_cell? w _ hx178_1)).trans hx178_1
                                                          replace hx178_2 := (HB.out.cell (World.block_lt_of_cell? w _ hx178_2)).trans hx178_2
                                                          replace hx178_3 := (HB.out.cell (World.block_lt_of_cell? w _ hx178_3)).trans hx178_3
                                                          replace p178 := eq_true p178
                                                          replace q178 := eq_true q178
                                                          have p179 : 0 ≤ (x53_3 : Int) := of_decide_eq_true (by first | (with_reducible assumption) | assumption)
                                                          have q179 : x53_3 < (t150.length : Int) := of_decide_eq_true (by first | (with_reducible assumption) | assumption)
                                                          obtain ⟨ad179, e179, hx179_0, hx179_1, hx179_2, hx179_3⟩ := at_T23 (Kd.R_reads' HO_7.out).2.2 x53_3 p179 q179
                                                          cases e179
                                                          replace p179 := eq_true p179
                                                          replace q179 := eq_true q179
                                                          refine start_ (n := 9) (S := fun w' => w'.cell? (ad178.add ((x83_5).toNat * 4)) = some (.int .i64 ((rd_T23 l0 x83_5).f0)) ∧ w'.cell? ⟨(ad178.add ((x83_5).toNat * 4)).block, (ad178.add ((x83_5).toNat * 4)).off + 1, none⟩ = some (.int .i64 ((rd_T23 l0 x83_5).f1)) ∧ w'.cell? ⟨(ad178.add ((x83_5).toNat * 4)).block, (ad178.add ((x83_5).toNat * 4)).off + 2, none⟩ = some (.int .i64 ((rd_T23 l0 x83_5).f2)) ∧ w'.cell? ⟨(ad178.add ((x83_5).toNat * 4)).block, (ad178.add ((x83_5).toNat * 4)).off + 3, none⟩ = some (.int .i64 ((rd_T23 l0 x83_5).f3)) ∧ w'.cell? (ad179.add ((x53_3).toNat * 4)) = some (.int .i64 ((rd_T23 t150 x53_3).f0)) ∧ w'.cell? ⟨(ad179.add ((x53_3).toNat * 4)).block, (ad179.add ((x53_3).toNat * 4)).off + 1, none⟩ = some (.int .i64 ((rd_T23 t150 x53_3).f1)) ∧ w'.cell? ⟨(ad179.add ((x53_3).toNat * 4)).block, (ad179.add ((x53_3).toNat * 4)).off + 2, none⟩ = some (.int .i64 ((rd_T23 t150 x53_3).f2)) ∧ w'.cell? ⟨(ad179.add ((x53_3).toNat * 4)).block, (ad179.add ((x53_3).toNat * 4)).off + 3, none⟩ = some (.int .i64 ((rd_T23 t150 x53_3).f3))) (ds := []) #[false, false, false, false, false, false, false, false, false] (by kernel_rfl) rfl rfl ⟨((HB.out.cell (World.block_lt_of_cell? w _ hw178_0)).trans hw178_0), ((HB.out.cell (World.block_lt_of_cell? w _ hw178_1)).trans hw178_1), ((HB.out.cell (World.block_lt_of_cell? w _ hw178_2)).trans hw178_2), ((HB.out.cell (World.block_lt_of_cell? w _ hw178_3)).trans hw178_3), hx179_0, hx179_1, hx179_2, hx179_3⟩ (fun hHeld => ?_); refine with_tabW kissgatelaw10_PrioSorted.tab19 kissgatelaw10_PrioSorted.bits19 (fun HT_ HW_ => ?_)
                                                          generalize wr.drew = w72 at HO_7 HO_8 HB hx178_0 hx178_1 hx178_2 hx178_3 hx179_0 hx179_1 hx179_2 hx179_3 hHeld ⊢
                                                          refine pure_ (i := 0) (N := some 86) (v := ?_) (a' := ?_) #[true, false, false, false, false, false, false, false, false] rfl rfl (any_of HT_.out (by kernel_rfl)) (fun _ _ _ h => h) (Or.inl ⟨by rfl, ?_⟩) ?_ ?_
                                                          rotate_left
                                                          · intro w'
                                                            go_simp
                                                            with_reducible rfl
                                                          rotate_left
                                                          · simp only [Act.put, List.setIfInBounds_toArray, List.set_cons_zero, List.set_cons_succ, i64_w, i32_w]
                                                            rfl
                                                          refine pure_ (i := 1) (N := some 87) (v := ?_) (a' := ?_) #[true, true, false, false, false, false, false, false, false] rfl rfl (any_of HT_.out (by kernel_rfl)) (fun _ _ _ h => h) (Or.inl ⟨by rfl, ?_⟩) ?_ ?_
                                                          rotate_left
                                                          · intro w'
                                                            go_simp
                                                            with_reducible rfl
                                                          rotate_left
                                                          · simp only [Act.put, List.setIfInBounds_toArray, List.set_cons_zero, List.set_cons_succ, i64_w, i32_w]
                                                            rfl
                                                          refine pure_ (i := 2) (N := some 88) (v := ?_) (a' := ?_) #[true, true, true, false, false, false, false, false, false] rfl rfl (any_of HT_.out (by kernel_rfl)) (fun _ _ _ h => h) (Or.inl ⟨by rfl, ?_⟩) ?_ ?_
                                                          rotate_left
                                                          · intro w'
                                                            go_simp
                                                            with_reducible rfl
                                                          rotate_left
                                                          · simp only [Act.put, List.setIfInBounds_toArray, List.set_cons_zero, List.set_cons_succ, i64_w, i32_w]
                                                            rfl
                                                          refine pure_ (i := 4) (N := some 90) (v := ?_) (a' := ?_) #[true, true, true, false, true, false, false, false, false] rfl rfl (any_of HT_.out (by kernel_rfl)) (fun _ _ _ h => h) (Or.inl ⟨by rfl, ?_⟩) ?_ ?_
                                                          rotate_left
                                                          · intro w'
                                                            go_simp
                                                            with_reducible rfl
                                                          rotate_left
                                                          · simp only [Act.put, List.setIfInBounds_toArray, List.set_cons_zero, List.set_cons_succ, i64_w, i32_w]
                                                            rfl
                                                          refine pure_ (i := 5) (N := some 91) (v := ?_) (a' := ?_) #[true, true, true, false, true, true, false, false, false] rfl rfl (any_of HT_.out (by kernel_rfl)) (fun _ _ _ h => h) (Or.inl ⟨by rfl, ?_⟩) ?_ ?_
                                                          rotate_left
                                                          · intro w'
                                                            go_simp
                                                            with_reducible rfl
                                                          rotate_left
                                                          · simp only [Act.put, List.setIfInBounds_toArray, List.set_cons_zero, List.set_cons_succ, i64_w, i32_w]
                                                            rfl
                                                          refine pure_ (i := 6) (N := some 92) (v := ?_) (a' := ?_) #[true, true, true, false, true, true, true, false, false] rfl rfl (any_of HT_.out (by kernel_rfl)) (fun _ _ _ h => h) (Or.inl ⟨by rfl, ?_⟩) ?_ ?_
                                                          rotate_left
                                                          · intro w'
                                                            go_simp
                                                            with_reducible rfl
                                                          rotate_left
                                                          · simp only [Act.put, List.setIfInBounds_toArray, List.set_cons_zero, List.set_cons_succ, i64_w, i32_w]
                                                            rfl
                                                          refine take_ (i := 3) (N := some 89) (v := ?_) (a' := ?_) #[true, true, true, true, true, true, true, false, false] rfl rfl (take_ofW HT_.out HW_.out (by kernel_rfl)) (fun _ _ _ h => h) (Or.inl ⟨by rfl, ?_⟩) hHeld ?_ ?_
                                                          rotate_left
                                                          · rintro w' ⟨s0, s1, s2, s3, s4, s5, s6, s7⟩
                                                            go_simp
                                                            with_reducible rfl
                                                          rotate_left
                                                          · simp only [Act.put, List.setIfInBounds_toArray, List.set_cons_zero, List.set_cons_succ, i64_w, i32_w]
                                                            rfl
                                                          refine take_ (i := 7) (N := some 93) (v := ?_) (a' := ?_) #[true, true, true, true, true, true, true, true, false] rfl rfl (take_ofW HT_.out HW_.out (by kernel_rfl)) (fun _ _ _ h => h) (Or.inl ⟨by rfl, ?_⟩) hHeld ?_ ?_
                                                          rotate_left
                                                          · rintro w' ⟨s0, s1, s2, s3, s4, s5, s6, s7⟩
                                                            go_simp
                                                            with_reducible rfl
                                                          rotate_left
                                                          · simp only [Act.put, List.setIfInBounds_toArray, List.set_cons_zero, List.set_cons_succ, i64_w, i32_w]
                                                            rfl
                                                          refine pure_ (i := 8) (N := some 94) (v := ?_) (a' := ?_) #[true, true, true, true, true, true, true, true, true] rfl rfl (any_of HT_.out (by kernel_rfl)) (fun _ _ _ h => h) (Or.inl ⟨by rfl, ?_⟩) ?_ ?_
                                                          rotate_left
                                                          · intro w'
                                                            go_simp
                                                            with_reducible rfl
                                                          rotate_left
                                                          · simp only [Act.put, List.setIfInBounds_toArray, List.set_cons_zero, List.set_cons_succ, i64_w, i32_w]
                                                            rfl
                                                          refine done_ (done_of HT_.out (by kernel_rfl)) ?_
                                                          try go_wp2
                                                          have n0_ := Aside0.mk (Kd.R_drew HO_7.out)
                                                          have n1_ := Aside0.mk (Kd.R_drew HO_8.out)
                                                          have n2_ := Aside0.mk (below_drew1 HB.out)
                                                          clear HO_7
                                                          clear HO_8
                                                          clear HB
                                                          have HO_7 := n0_
                                                          have HO_8 := n1_
                                                          have HB := n2_
                                                          clear n0_ n1_ n2_
                                                          have p182 : 0 ≤ (x83_5 : Int) := of_decide_eq_true (by first | (with_reducible assumption) | assumption)
                                                          have q182 : x83_5 < (t150.length : Int) := of_decide_eq_true (by first | (with_reducible assumption) | assumption)
                                                          obtain ⟨ad182, e182, hx182_0, hx182_1, hx182_2, hx182_3⟩ := at_T23 (Kd.R_reads' HO_7.out).2.2 x83_5 p182 q182
                                                          obtain rfl : ad179 = ad182 := (by injection e182)
                                                          replace p182 := eq_true p182
                                                          replace q182 := eq_true q182
                                                          have p183 : 0 ≤ (x53_3 : Int) := of_decide_eq_true (by first | (with_reducible assumption) | assumption)
                                                          have q183 : x53_3 < (t150.length : Int) := of_decide_eq_true (by first | (with_reducible assumption) | assumption)
                                                          obtain ⟨ad183, e183, hx183_0, hx183_1, hx183_2, hx183_3⟩ := at_T23 (Kd.R_reads' HO_7.out).2.2 x53_3 p183 q183
                                                          obtain rfl : ad179 = ad183 := (by injection e183)
                                                          replace p183 := eq_true p183
                                                          replace q183 := eq_true q183
                                                          refine start_ (n := 9) (S := fun w' => w'.cell? (ad179.add ((x83_5).toNat * 4)) = some (.int .i64 ((rd_T23 t150 x83_5).f0)) ∧ w'.cell? ⟨(ad179.add ((x83_5).toNat * 4)).block, (ad179.add ((x83_5).toNat * 4)).off + 1, none⟩ = some (.int .i64 ((rd_T23 t150 x83_5).f1)) ∧ w'.cell? ⟨(ad179.add ((x83_5).toNat * 4)).block, (ad179.add ((x83_5).toNat * 4)).off + 2, none⟩ = some (.int .i64 ((rd_T23 t150 x83_5).f2)) ∧ w'.cell? ⟨(ad179.add ((x83_5).toNat * 4)).block, (ad179.add ((x83_5).toNat * 4)).off + 3, none⟩ = some (.int .i64 ((rd_T23 t150 x83_5).f3)) ∧ w'.cell? (ad179.add ((x53_3).toNat * 4)) = some (.int .i64 ((rd_T23 t150 x53_3).f0)) ∧ w'.cell? ⟨(ad179.add ((x53_3).toNat * 4)).block, (ad179.add ((x53_3).toNat * 4)).off + 1, none⟩ = some (.int .i64 ((rd_T23 t150 x53_3).f1)) ∧ w'.cell? ⟨(ad179.add ((x53_3).toNat * 4)).block, (ad179.add ((x53_3).toNat * 4)).off + 2, none⟩ = some (.int .i64 ((rd_T23 t150 x53_3).f2)) ∧ w'.cell? ⟨(ad179.add ((x53_3).toNat * 4)).block, (ad179.add ((x53_3).toNat * 4)).off + 3, none⟩ = some (.int .i64 ((rd_T23 t150 x53_3).f3))) (ds := []) #[false, false, false, false, false, false, false, false, false] (by kernel_rfl) rfl rfl ⟨hx182_0, hx182_1, hx182_2, hx182_3, hx183_0, hx183_1, hx183_2, hx183_3⟩ (fun hHeld => ?_); refine with_tabW kissgatelaw10_PrioSorted.tab21 kissgatelaw10_PrioSorted.bits21 (fun HT_ HW_ => ?_)
                                                          generalize w72.drew = w73 at HO_7 HO_8 HB hx182_0 hx182_1 hx182_2 hx182_3 hx183_0 hx183_1 hx183_2 hx183_3 hHeld ⊢
                                                          refine pure_ (i := 0) (N := some 97) (v := ?_) (a' := ?_) #[true, false, false, false, false, false, false, false, false] rfl rfl (any_of HT_.out (by kernel_rfl)) (fun _ _ _ h => h) (Or.inl ⟨by rfl, ?_⟩) ?_ ?_
                                                          rotate_left
                                                          · intro w'
                                                            go_simp
                                                            with_reducible rfl
                                                          rotate_left
                                                          · simp only [Act.put, List.setIfInBounds_toArray, List.set_cons_zero, List.set_cons_succ, i64_w, i32_w]
                                                            rfl
                                                          refine pure_ (i := 1) (N := some 98) (v := ?_) (a' := ?_) #[true, true, false, false, false, false, false, false, false] rfl rfl (any_of HT_.out (by kernel_rfl)) (fun _ _ _ h => h) (Or.inl ⟨by rfl, ?_⟩) ?_ ?_
                                                          rotate_left
                                                          · intro w'
                                                            go_simp
                                                            with_reducible rfl
                                                          rotate_left
                                                          · simp only [Act.put, List.setIfInBounds_toArray, List.set_cons_zero, List.set_cons_succ, i64_w, i32_w]
                                                            rfl
                                                          refine pure_ (i := 2) (N := some 99) (v := ?_) (a' := ?_) #[true, true, true, false, false, false, false, false, false] rfl rfl (any_of HT_.out (by kernel_rfl)) (fun _ _ _ h => h) (Or.inl ⟨by rfl, ?_⟩) ?_ ?_
                                                          rotate_left
                                                          · intro w'
                                                            go_simp
                                                            with_reducible rfl
                                                          rotate_left
                                                          · simp only [Act.put, List.setIfInBounds_toArray, List.set_cons_zero, List.set_cons_succ, i64_w, i32_w]
                                                            rfl
                                                          refine pure_ (i := 4) (N := some 101) (v := ?_) (a' := ?_) #[true, true, true, false, true, false, false, false, false] rfl rfl (any_of HT_.out (by kernel_rfl)) (fun _ _ _ h => h) (Or.inl ⟨by rfl, ?_⟩) ?_ ?_
                                                          rotate_left
                                                          · intro w'
                                                            go_simp
                                                            with_reducible rfl
                                                          rotate_left
                                                          · simp only [Act.put, List.setIfInBounds_toArray, List.set_cons_zero, List.set_cons_succ, i64_w, i32_w]
                                                            rfl
                                                          refine pure_ (i := 5) (N := some 102) (v := ?_) (a' := ?_) #[true, true, true, false, true, true, false, false, false] rfl rfl (any_of HT_.out (by kernel_rfl)) (fun _ _ _ h => h) (Or.inl ⟨by rfl, ?_⟩) ?_ ?_
                                                          rotate_left
                                                          · intro w'
                                                            go_simp
                                                            with_reducible rfl
                                                          rotate_left
                                                          · simp only [Act.put, List.setIfInBounds_toArray, List.set_cons_zero, List.set_cons_succ, i64_w, i32_w]
                                                            rfl
                                                          refine pure_ (i := 6) (N := some 103) (v := ?_) (a' := ?_) #[true, true, true, false, true, true, true, false, false] rfl rfl (any_of HT_.out (by kernel_rfl)) (fun _ _ _ h => h) (Or.inl ⟨by rfl, ?_⟩) ?_ ?_
                                                          rotate_left
                                                          · intro w'
                                                            go_simp
                                                            with_reducible rfl
                                                          rotate_left
                                                          · simp only [Act.put, List.setIfInBounds_toArray, List.set_cons_zero, List.set_cons_succ, i64_w, i32_w]
                                                            rfl
                                                          refine take_ (i := 3) (N := some 100) (v := ?_) (a' := ?_) #[true, true, true, true, true, true, true, false, false] rfl rfl (take_ofW HT_.out HW_.out (by kernel_rfl)) (fun _ _ _ h => h) (Or.inl ⟨by rfl, ?_⟩) hHeld ?_ ?_
                                                          rotate_left
                                                          · rintro w' ⟨s0, s1, s2, s3, s4, s5, s6, s7⟩
                                                            go_simp
                                                            with_reducible rfl
                                                          rotate_left
                                                          · simp only [Act.put, List.setIfInBounds_toArray, List.set_cons_zero, List.set_cons_succ, i64_w, i32_w]
                                                            rfl
                                                          refine take_ (i := 7) (N := some 104) (v := ?_) (a' := ?_) #[true, true, true, true, true, true, true, true, false] rfl rfl (take_ofW HT_.out HW_.out (by kernel_rfl)) (fun _ _ _ h => h) (Or.inl ⟨by rfl, ?_⟩) hHeld ?_ ?_
                                                          rotate_left
                                                          · rintro w' ⟨s0, s1, s2, s3, s4, s5, s6, s7⟩
                                                            go_simp
                                                            with_reducible rfl
                                                          rotate_left
                                                          · simp only [Act.put, List.setIfInBounds_toArray, List.set_cons_zero, List.set_cons_succ, i64_w, i32_w]
                                                            rfl
                                                          refine pure_ (i := 8) (N := some 105) (v := ?_) (a' := ?_) #[true, true, true, true, true, true, true, true, true] rfl rfl (any_of HT_.out (by kernel_rfl)) (fun _ _ _ h => h) (Or.inl ⟨by rfl, ?_⟩) ?_ ?_
                                                          rotate_left
                                                          · intro w'
                                                            go_simp
                                                            with_reducible rfl
                                                          rotate_left
                                                          · simp only [Act.put, List.setIfInBounds_toArray, List.set_cons_zero, List.set_cons_succ, i64_w, i32_w]
                                                            rfl
                                                          refine done_ (done_of HT_.out (by kernel_rfl)) ?_
                                                          try go_wp2
                                                          go_roundg k5
                                                          case measure => have := HJ4.out; have := HJ18.out; have := HK3.out; have := HJ37.out; have := HK5.out; omega
                                                          case rel => exact ⟨(x10_5), (x11_5), (wrap64 (x83_5 + 1)), (by first | rfl | (simp; done) | (simp [*]; done)), (by first | rfl | (simp; done) | (simp [*]; done)), (by first | rfl | (simp; done) | (simp [*]; done)), H', ⟨by have := HJ4.out; have := HJ18.out; have := HK3.out; have := HJ37.out; have := HK5.out; omega⟩, ⟨by (with_reducible repeat (first | apply Kd.R_alloc | apply Kd.R_drewN | apply Kd.R_drew)); exact HO_7.out⟩, ⟨by (with_reducible repeat (first | apply Kd.R_alloc | apply Kd.R_drewN | apply Kd.R_drew)); exact HO_8.out⟩, ⟨by repeat (first | (with_reducible first | exact HB.out | apply below_alloc | apply pw_below_drewN | apply below_drew1) | exact HB.out)⟩⟩
                                                      · rw [if_neg c68] at H
                                                        exact absurd H (by simp)
                                                  · rw [if_neg c60] at H
                                                    exact absurd H (by simp)
                                                · rw [if_neg c59] at H
                                                  exact absurd H (by simp)
                                              · rw [if_neg c58] at H
                                                exact absurd H (by simp)
                                            · rw [if_neg c57] at H
                                              exact absurd H (by simp)
                                          · rw [if_neg c56] at H
                                            have c56b0 : decide (x83_5 < (l0.length : Int)) = false := decide_eq_false c56
                                            clear c56
                                            by_cases c74 : x10_5 = x11_5
                                            · rw [if_pos c74] at H
                                              have c74b0 : (x10_5 == x11_5) = true := beq_iff_eq.mpr c74
                                              have c74b1 : (x10_5 != x11_5) = false := bne_eq_false_iff_eq.mpr c74
                                              clear c74
                                              have H' := Aside0.mk H
                                              clear H
                                              go_wp2
                                              go_roundg k5
                                              case measure => have := HJ4.out; have := HJ18.out; have := HK3.out; have := HJ37.out; have := HK5.out; omega
                                              case rel => exact ⟨(wrap64 (x53_3 + 1)), (by first | rfl | (simp; done) | (simp [*]; done)), H', ⟨by have := HJ4.out; have := HJ18.out; have := HK3.out; have := HJ37.out; have := HK5.out; omega⟩, ⟨by (with_reducible repeat (first | apply Kd.R_alloc | apply Kd.R_drewN | apply Kd.R_drew)); exact HO_7.out⟩, ⟨by (with_reducible repeat (first | apply Kd.R_alloc | apply Kd.R_drewN | apply Kd.R_drew)); exact HO_8.out⟩, ⟨by repeat (first | (with_reducible first | exact HB.out | apply below_alloc | apply pw_below_drewN | apply below_drew1) | exact HB.out)⟩⟩
                                            · rw [if_neg c74] at H
                                              have c74b0 : (x10_5 == x11_5) = false := beq_eq_false_iff_ne.mpr c74
                                              have c74b1 : (x10_5 != x11_5) = true := bne_iff_ne.mpr c74
                                              exact absurd (Option.some.inj H) (by rw [HRT.out]; decide)
                              · rw [if_neg c37] at H
                                have c37b0 : decide (x53_3 < (t150.length : Int)) = false := decide_eq_false c37
                                clear c37
                                obtain rfl := Option.some.inj H
                                go_wp2
                                go_ret
                                exact ⟨by first | rfl | (simp [errW_none, errW_some] <;> rfl) | (simp only [← hji11]; first | rfl | (simp [errW_none, errW_some] <;> rfl)) | (simp [*, errW_none, errW_some] <;> rfl), by repeat (first | (with_reducible first | exact HB.out | apply below_alloc | apply pw_below_drewN | apply below_drew1) | exact HB.out)⟩
                  · rw [if_neg c17] at H
                    exact absurd H (by simp)
                · rw [if_neg c14] at H
                  exact absurd H (by simp)
              · rw [if_neg c13] at H
                exact absurd H (by simp)
            · rw [if_neg c12] at H
              exact absurd H (by simp)
  · replace c4 := Bool.eq_false_iff.mpr c4
    subst c4
    have H1 : (some false) = some r := by rw [if_neg (show ¬ (false = true) by decide)] at H; exact H
    clear H
    have H := H1
    clear H1
    exact absurd (Option.some.inj H) (by rw [HRT.out]; decide)end Go.Proofs.Ytjhkbmdblfdlnaa.QSrt
