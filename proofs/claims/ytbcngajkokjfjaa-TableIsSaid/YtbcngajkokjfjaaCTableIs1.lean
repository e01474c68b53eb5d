/- Functions of the program as plain Lean functions, what their calls do, and what follows of it. Conditions: each theorem's own. -/
import Derived.Test.YtbcngajkokjfjaaCTableIs0
namespace Go.Proofs.Ytbcngajkokjfjaa.QTabI
open Go.RowKit Go.Proofs.YtbcngajkokjfjaaW.PrintWords Go.Proofs.YtbcngajkokjfjaaW.PrintLast Go.Proofs.YtbcngajkokjfjaaW.PrintMore
attribute [local go_sem] max2_int min2_int max_two min_two max_three min_three max_four min_four
set_option linter.unusedVariables false
set_option linter.unusedSimpArgs false
attribute [local go_sem high] eqA30
mutual
def kissgatelaw13_TableIs.j0 : Nat → Bool → Int → Int → List (List (S30)) → Int → Int → Bool → Option (Bool)
  | 0, _, _, _, _, _, _, _ => none
  | k + 1, x0, x1, x2, x7, x8, x9, x30 => if x30 = true then (some false) else (kissgatelaw13_TableIs.l0 k x0 x1 x2 x7 x8 x9 0)
def kissgatelaw13_TableIs.l0 : Nat → Bool → Int → Int → List (List (S30)) → Int → Int → Int → Option (Bool)
  | 0, _, _, _, _, _, _, _ => none
  | k + 1, x0, x1, x2, x7, x8, x9, x10 => if x10 < x8 then (if 0 ≤ x10 then (if x10 < (x7.length : Int) then (if ((rd_L2 x7 x10).length : Int) = x9 then (kissgatelaw13_TableIs.l1 k x0 x1 x2 x7 x8 x9 x10 0) else (some false)) else (none)) else (none)) else ((table_At.f x7 x1 x2).bind fun bt173 => (if x1 < 0 then (if bt173.2.2 = true then (some false) else (some (bt173.1 == x1 && (bt173.2.1 == 0)))) else (if x1 ≥ x8 then (if bt173.2.2 = true then (some false) else (some (bt173.1 == x1 && (bt173.2.1 == 0)))) else (if x2 < 0 then (if bt173.2.2 = true then (some false) else (some (bt173.1 == x1 && (bt173.2.1 == 0)))) else (if x2 ≥ x9 then (if bt173.2.2 = true then (some false) else (some (bt173.1 == x1 && (bt173.2.1 == 0)))) else (if bt173.2.2 = true then (if 0 ≤ x1 then (if x1 < (x7.length : Int) then (if 0 ≤ x2 then (if x2 < ((rd_L2 x7 x1).length : Int) then (some (bt173.1 == ((rd_T30 (rd_L2 x7 x1) x2).f0) && (bt173.2.1 == ((rd_T30 (rd_L2 x7 x1) x2).f1)))) else (none)) else (none)) else (none)) else (none)) else (some false)))))))
def kissgatelaw13_TableIs.l1 : Nat → Bool → Int → Int → List (List (S30)) → Int → Int → Int → Int → Option (Bool)
  | 0, _, _, _, _, _, _, _, _ => none
  | k + 1, x0, x1, x2, x7, x8, x9, x10, x11 => if x11 < x9 then (if 0 ≤ x10 then (if x10 < (x7.length : Int) then (if 0 ≤ x11 then (if x11 < ((rd_L2 x7 x10).length : Int) then ((kissgateref13_Next.f x0 x10 x11).bind fun t182 => ((kissgateref13_Act.f x0 x10 x11).bind fun t183 => (if (!(((rd_T30 (rd_L2 x7 x10) x11).f0) == t182) || (!(((rd_T30 (rd_L2 x7 x10) x11).f1) == t183))) = true then (some false) else (kissgatelaw13_TableIs.l1 k x0 x1 x2 x7 x8 x9 x10 (wrap64 (x11 + 1)))))) else (none)) else (none)) else (none)) else (none)) else (kissgatelaw13_TableIs.l0 k x0 x1 x2 x7 x8 x9 (wrap64 (x10 + 1)))
end
def kissgatelaw13_TableIs.f (k : Nat) (a0 : Bool) (a1 : Int) (a2 : Int) : Option (Bool) := (kissgatelaw13_alive.f k).bind fun t166 => (if t166 = true then ((kissgatelaw13_one.f a0).bind fun t167 => ((kissgateref13_States.f a0).bind fun t170 => ((kissgateref13_Events.f a0).bind fun t171 => (if (t167.length : Int) = t170 then ((table_Good.f k t167).bind fun t172 => (kissgatelaw13_TableIs.j0 k a0 a1 a2 t167 t170 t171 (!t172))) else (kissgatelaw13_TableIs.j0 k a0 a1 a2 t167 t170 t171 true))))) else (some false))
theorem kissgatelaw13_TableIs.mono_l : ∀ k, (∀ y0 y1 y2 y3 y4 y5 y6, LeO (kissgatelaw13_TableIs.j0 k y0 y1 y2 y3 y4 y5 y6) (kissgatelaw13_TableIs.j0 (k + 1) y0 y1 y2 y3 y4 y5 y6)) ∧ (∀ y0 y1 y2 y3 y4 y5 y6, LeO (kissgatelaw13_TableIs.l0 k y0 y1 y2 y3 y4 y5 y6) (kissgatelaw13_TableIs.l0 (k + 1) y0 y1 y2 y3 y4 y5 y6)) ∧ (∀ y0 y1 y2 y3 y4 y5 y6 y7, LeO (kissgatelaw13_TableIs.l1 k y0 y1 y2 y3 y4 y5 y6 y7) (kissgatelaw13_TableIs.l1 (k + 1) y0 y1 y2 y3 y4 y5 y6 y7))
  | 0 => ⟨fun _ _ _ _ _ _ _ r h => by simp [kissgatelaw13_TableIs.j0] at h, fun _ _ _ _ _ _ _ r h => by simp [kissgatelaw13_TableIs.l0] at h, fun _ _ _ _ _ _ _ _ r h => by simp [kissgatelaw13_TableIs.l1] at h⟩
  | k + 1 => by
    obtain ⟨ih0, ih1, ih2⟩ := kissgatelaw13_TableIs.mono_l k
    refine ⟨?_, ?_, ?_⟩
    · intro y0 y1 y2 y3 y4 y5 y6
      unfold kissgatelaw13_TableIs.j0
      repeat' first
      | (with_reducible exact ih0 _ _ _ _ _ _ _)
      | (with_reducible exact ih1 _ _ _ _ _ _ _)
      | (with_reducible exact ih2 _ _ _ _ _ _ _ _)
      | (with_reducible exact kissgatelaw13_alive.mono _)
      | (with_reducible exact table_Good.mono _ _)
      | (with_reducible exact LeO.refl _)
      | (with_reducible exact LeO.none _)
      | (with_reducible refine LeO.ite ?_ ?_)
      | (with_reducible refine LeO.bind ?_ (fun _ => ?_))
      | exact ih0 _ _ _ _ _ _ _
      | exact ih1 _ _ _ _ _ _ _
      | exact ih2 _ _ _ _ _ _ _ _
      | exact kissgatelaw13_alive.mono _
      | exact table_Good.mono _ _
      | exact LeO.none _
      | refine LeO.ite ?_ ?_
      | refine LeO.bind ?_ (fun _ => ?_)
    · intro y0 y1 y2 y3 y4 y5 y6
      unfold kissgatelaw13_TableIs.l0
      repeat' first
      | (with_reducible exact ih0 _ _ _ _ _ _ _)
      | (with_reducible exact ih1 _ _ _ _ _ _ _)
      | (with_reducible exact ih2 _ _ _ _ _ _ _ _)
      | (with_reducible exact kissgatelaw13_alive.mono _)
      | (with_reducible exact table_Good.mono _ _)
      | (with_reducible exact LeO.refl _)
      | (with_reducible exact LeO.none _)
      | (with_reducible refine LeO.ite ?_ ?_)
      | (with_reducible refine LeO.bind ?_ (fun _ => ?_))
      | exact ih0 _ _ _ _ _ _ _
      | exact ih1 _ _ _ _ _ _ _
      | exact ih2 _ _ _ _ _ _ _ _
      | exact kissgatelaw13_alive.mono _
      | exact table_Good.mono _ _
      | exact LeO.none _
      | refine LeO.ite ?_ ?_
      | refine LeO.bind ?_ (fun _ => ?_)
    · intro y0 y1 y2 y3 y4 y5 y6 y7
      unfold kissgatelaw13_TableIs.l1
      repeat' first
      | (with_reducible exact ih0 _ _ _ _ _ _ _)
      | (with_reducible exact ih1 _ _ _ _ _ _ _)
      | (with_reducible exact ih2 _ _ _ _ _ _ _ _)
      | (with_reducible exact kissgatelaw13_alive.mono _)
      | (with_reducible exact table_Good.mono _ _)
      | (with_reducible exact LeO.refl _)
      | (with_reducible exact LeO.none _)
      | (with_reducible refine LeO.ite ?_ ?_)
      | (with_reducible refine LeO.bind ?_ (fun _ => ?_))
      | exact ih0 _ _ _ _ _ _ _
      | exact ih1 _ _ _ _ _ _ _
      | exact ih2 _ _ _ _ _ _ _ _
      | exact kissgatelaw13_alive.mono _
      | exact table_Good.mono _ _
      | exact LeO.none _
      | refine LeO.ite ?_ ?_
      | refine LeO.bind ?_ (fun _ => ?_)
def kissgatelaw13_TableIs.T15 : Bool × List (List Nat × List Nat) := (true, [([], []), ([], []), ([0, 1], [0, 1]), ([2], [2]), ([], []), ([3, 4], [3, 4]), ([5], [5]), ([], []), ([], []), ([], []), ([7, 8, 9], [7, 8, 9]), ([], []), ([], []), ([], []), ([11, 12, 13, 10], [11, 12, 13]), ([10, 14], [10, 14]), ([6, 15], [6, 15])])
def kissgatelaw13_TableIs.B15 : List Nat := [0, 0, 3, 7, 0, 31, 63, 0, 0, 0, 896, 0, 0, 0, 16256, 32640, 65535]
theorem kissgatelaw13_TableIs.tab15 : rtab .any (opsOf Try.f11 15) = kissgatelaw13_TableIs.T15 := by kernel_rfl
theorem kissgatelaw13_TableIs.bits15 : waitsOk kissgatelaw13_TableIs.T15.2 kissgatelaw13_TableIs.B15 = true := by kernel_rfl
def kissgatelaw13_TableIs.T20 : Bool × List (List Nat × List Nat) := (true, [([], []), ([0], [0]), ([1], [1]), ([1], [1]), ([1], [1]), ([3, 4, 1], [1, 3, 4]), ([5, 1], [1, 5]), ([1], [1]), ([6, 7, 1], [1, 6, 7]), ([8, 1], [1, 8]), ([2, 9, 1], [1, 2, 9]), ([1, 10], [1, 10]), ([11, 1, 0, 1, 2, 3, 4, 5, 6, 7, 8, 9, 10, 11], [11])])
def kissgatelaw13_TableIs.B20 : List Nat := [0, 1, 3, 3, 3, 27, 59, 3, 251, 507, 1023, 2047, 4095]
theorem kissgatelaw13_TableIs.tab20 : rtab .any (opsOf Try.f11 20) = kissgatelaw13_TableIs.T20 := by kernel_rfl
theorem kissgatelaw13_TableIs.bits20 : waitsOk kissgatelaw13_TableIs.T20.2 kissgatelaw13_TableIs.B20 = true := by kernel_rfl
set_option maxHeartbeats 8000000 in
set_option maxRecDepth 100000 in
theorem kissgatelaw13_TableIs.calls (k : Nat) (a0 : Bool) (a1 : Int) (a2 : Int) (r : Bool) (hT : r = true) (w : World) (h : kissgatelaw13_TableIs.f k a0 a1 a2 = some r) :
    Calls Try.prog 11 #[.bool a0, .int .i64 a1, .int .i64 a2] w fun e w' => e = .returned (.bool r) ∧ Below w.heap.size w w' := by
  have HRT := Aside0.mk hT
  clear hT
  have hu30 := Try.underlying30
  have HB := Aside0.mk (Below.refl w.heap.size w)
  have H : ((kissgatelaw13_alive.f k).bind fun t166 => (if t166 = true then ((kissgatelaw13_one.f a0).bind fun t167 => ((kissgateref13_States.f a0).bind fun t170 => ((kissgateref13_Events.f a0).bind fun t171 => (if (t167.length : Int) = t170 then ((table_Good.f k t167).bind fun t172 => (kissgatelaw13_TableIs.j0 k a0 a1 a2 t167 t170 t171 (!t172))) else (kissgatelaw13_TableIs.j0 k a0 a1 a2 t167 t170 t171 true))))) else (some false))) = some r := h
  clear h
  replace H := Option.bind_eq_some_iff.mp H
  obtain ⟨t166, A40, H⟩ := H
  replace H : (if t166 = true then ((kissgatelaw13_one.f a0).bind fun t167 => ((kissgateref13_States.f a0).bind fun t170 => ((kissgateref13_Events.f a0).bind fun t171 => (if (t167.length : Int) = t170 then ((table_Good.f k t167).bind fun t172 => (kissgatelaw13_TableIs.j0 k a0 a1 a2 t167 t170 t171 (!t172))) else (kissgatelaw13_TableIs.j0 k a0 a1 a2 t167 t170 t171 true))))) else (some false)) = some r := H
  have A4 := Aside0.mk A40
  clear A40
  by_cases c5 : t166 = true
  · subst c5
    have H1 : ((kissgatelaw13_one.f a0).bind fun t167 => ((kissgateref13_States.f a0).bind fun t170 => ((kissgateref13_Events.f a0).bind fun t171 => (if (t167.length : Int) = t170 then ((table_Good.f k t167).bind fun t172 => (kissgatelaw13_TableIs.j0 k a0 a1 a2 t167 t170 t171 (!t172))) else (kissgatelaw13_TableIs.j0 k a0 a1 a2 t167 t170 t171 true))))) = some r := by rw [if_pos rfl] at H; exact H
    clear H
    have H := H1
    clear H1
    replace H := Option.bind_eq_some_iff.mp H
    obtain ⟨t167, A60, H⟩ := H
    replace H : ((kissgateref13_States.f a0).bind fun t170 => ((kissgateref13_Events.f a0).bind fun t171 => (if (t167.length : Int) = t170 then ((table_Good.f k t167).bind fun t172 => (kissgatelaw13_TableIs.j0 k a0 a1 a2 t167 t170 t171 (!t172))) else (kissgatelaw13_TableIs.j0 k a0 a1 a2 t167 t170 t171 true)))) = some r := H
    have A6 := Aside0.mk A60
    clear A60
    replace H := Option.bind_eq_some_iff.mp H
    obtain ⟨t170, A70, H⟩ := H
    replace H : ((kissgateref13_Events.f a0).bind fun t171 => (if (t167.length : Int) = t170 then ((table_Good.f k t167).bind fun t172 => (kissgatelaw13_TableIs.j0 k a0 a1 a2 t167 t170 t171 (!t172))) else (kissgatelaw13_TableIs.j0 k a0 a1 a2 t167 t170 t171 true))) = some r := H
    have A7 := Aside0.mk A70
    clear A70
    replace H := Option.bind_eq_some_iff.mp H
    obtain ⟨t171, A80, H⟩ := H
    replace H : (if (t167.length : Int) = t170 then ((table_Good.f k t167).bind fun t172 => (kissgatelaw13_TableIs.j0 k a0 a1 a2 t167 t170 t171 (!t172))) else (kissgatelaw13_TableIs.j0 k a0 a1 a2 t167 t170 t171 true)) = some r := H
    have A8 := Aside0.mk A80
    clear A80
    have HC9 := Aside0.mk H
    clear H
    go_enter Try.func11, Try.ntmps11
    go_upto_region 5 with (first | ((with_reducible refine gate_callee (f := 14) rfl ?_); refine goesL_ (some 14) rfl rfl Try.func14 (by kernel_rfl) rfl #[] rfl (by (try simp only [List.map_toArray, List.map_cons, List.map_nil]); first | done | rfl | (simp only [List.length_drop, List.length_take]; rfl)) ?_; (with_reducible refine (kissgatelaw13_alive.calls k  true _ A4.out).mono ?_); rintro e w10 ⟨rfl, hb⟩; refine ⟨_, rfl, ?_⟩; have n0_ := Aside0.mk (below_step (by repeat (first | (with_reducible first | exact HB.out | apply below_alloc | apply pw_below_drewN | apply below_drew1) | exact HB.out)) hb); clear HB; have HB := n0_; clear n0_; (try clear hb); (try clear hb2); (try clear hk); (try clear hi)) | ((with_reducible refine gate_callee (f := 27) rfl ?_); refine goesL_ (some 17) rfl rfl Try.func27 (by kernel_rfl) rfl #[.bool a0] rfl (by (try simp only [List.map_toArray, List.map_cons, List.map_nil]); first | done | rfl | (simp only [List.length_drop, List.length_take]; rfl)) ?_; (with_reducible refine (kissgatelaw13_one.calls a0 t167 _ A6.out).mono ?_); rintro e w11 ⟨v168, rfl, ho0, hb⟩; refine ⟨_, rfl, ?_⟩; have n0_ := Aside0.mk (Kd.N_lower (Kd.N_mono (ok' := fun k_ => True) ho0 (fun k_ hk_ => trivial)) (below_size (by repeat (first | (with_reducible first | exact HB.out | apply below_alloc | apply pw_below_drewN | apply below_drew1) | exact HB.out)))); have n1_ := Aside0.mk (below_step (by repeat (first | (with_reducible first | exact HB.out | apply below_alloc | apply pw_below_drewN | apply below_drew1) | exact HB.out)) hb); clear HB; have HO169 := n0_; have HB := n1_; clear n0_ n1_; (try clear hb); (try clear hb2); (try clear hk); (try clear hi); (try clear ho0)) | ((with_reducible refine gate_callee (f := 28) rfl ?_); refine goesL_ (some 19) rfl rfl Try.func28 (by kernel_rfl) rfl #[.bool a0] rfl (by (try simp only [List.map_toArray, List.map_cons, List.map_nil]); first | done | rfl | (simp only [List.length_drop, List.length_take]; rfl)) ?_; (with_reducible refine (kissgateref13_States.calls a0 t170 _ A7.out).mono ?_); rintro e w' ⟨rfl, ⟨nd, rfl⟩⟩; refine ⟨_, rfl, ?_⟩) | ((with_reducible refine gate_callee (f := 29) rfl ?_); refine goesL_ (some 21) rfl rfl Try.func29 (by kernel_rfl) rfl #[.bool a0] rfl (by (try simp only [List.map_toArray, List.map_cons, List.map_nil]); first | done | rfl | (simp only [List.length_drop, List.length_take]; rfl)) ?_; (with_reducible refine (kissgateref13_Events.calls a0 t171 _ A8.out).mono ?_); rintro e w' ⟨rfl, ⟨nd, rfl⟩⟩; refine ⟨_, rfl, ?_⟩))
    (try simp only [Act.put, List.setIfInBounds_toArray, List.set_cons_zero, List.set_cons_succ])
    go_cut [30] (fun v30 wc => ∃ (kq : Nat) (x30_8 : Bool), v30 = .bool x30_8 ∧ Aside0 (kissgatelaw13_TableIs.j0 kq a0 a1 a2 t167 t170 t171 x30_8 = some r) ∧ Aside0 (kq ≤ k) ∧ Aside0 (Kd.N (Kd.slice 30 k30) 27 wc w.heap.size (fun _ => True) v168 t167) ∧ Aside0 (Below w.heap.size w wc))
    case first =>
      have H := HC9.out
      clear HC9
      by_cases c12 : (t167.length : Int) = t170
      · rw [if_pos c12] at H
        have c12b0 : ((t167.length : Int) == t170) = true := beq_iff_eq.mpr c12
        have c12b1 : ((t167.length : Int) != t170) = false := bne_eq_false_iff_eq.mpr c12
        clear c12
        (first | rw [c12b0] | (simp only [i64_w, i32_w]; rw [c12b0]) | skip)
        replace H := Option.bind_eq_some_iff.mp H
        obtain ⟨t172, A130, H⟩ := H
        replace H : (kissgatelaw13_TableIs.j0 k a0 a1 a2 t167 t170 t171 (!t172)) = some r := H
        have A13 := Aside0.mk A130
        clear A130
        have H' := Aside0.mk H
        clear H
        obtain ⟨Ao14, co14, eo14⟩ := Kd.N_slice HO169.out
        subst eo14
        go_wp2_with (first | (go_at_call 26; (with_reducible refine (table_Good.calls k _ _ t167 t172 _ ?side1 ?side2 A13.out).mono ?_); (case side1 => repeat (first | exact (Kd.N_reads' HO169.out).2.2 | (with_reducible refine Kd.C_alloc ?_ _) | (with_reducible refine Kd.C_drewN ?_ _) | (with_reducible refine Kd.C_drew ?_))); (case side2 => exact (Kd.N_reads' HO169.out).2.1); rintro e w15 ⟨rfl, hb⟩; have n0_ := Aside0.mk (Kd.N_below (by (with_reducible repeat (first | apply Kd.N_alloc | apply Kd.N_drewN | apply Kd.N_drew)); exact HO169.out) hb); have n1_ := Aside0.mk (below_step (by repeat (first | (with_reducible first | exact HB.out | apply below_alloc | apply pw_below_drewN | apply below_drew1) | exact HB.out)) hb); clear HO169; clear HB; have HO169 := n0_; have HB := n1_; clear n0_ n1_; (try clear hb); (try clear hb2); (try clear hk); (try clear hi)))
        go_meet
        case rel => exact ⟨_, (!t172), (by first | rfl | (simp; done) | (simp [*]; done)), H', ⟨by first | omega | exact Nat.le_refl _⟩, ⟨by (with_reducible repeat (first | apply Kd.N_alloc | apply Kd.N_drewN | apply Kd.N_drew)); exact HO169.out⟩, ⟨by repeat (first | (with_reducible first | exact HB.out | apply below_alloc | apply pw_below_drewN | apply below_drew1) | exact HB.out)⟩⟩
      · rw [if_neg c12] at H
        have c12b0 : ((t167.length : Int) == t170) = false := beq_eq_false_iff_ne.mpr c12
        have c12b1 : ((t167.length : Int) != t170) = true := bne_iff_ne.mpr c12
        (first | rw [c12b0] | (simp only [i64_w, i32_w]; rw [c12b0]) | skip)
        have H' := Aside0.mk H
        clear H
        obtain ⟨Ao16, co16, eo16⟩ := Kd.N_slice HO169.out
        subst eo16
        go_wp2
        go_meet
        case rel => exact ⟨_, (true), (by first | rfl | (simp; done) | (simp [*]; done)), H', ⟨by first | omega | exact Nat.le_refl _⟩, ⟨by (with_reducible repeat (first | apply Kd.N_alloc | apply Kd.N_drewN | apply Kd.N_drew)); exact HO169.out⟩, ⟨by repeat (first | (with_reducible first | exact HB.out | apply below_alloc | apply pw_below_drewN | apply below_drew1) | exact HB.out)⟩⟩
    case rest =>
      clear HC9
      try clear c1
      try clear c2
      try clear p2
      try clear c5
      try clear c11
      try clear c12
      try clear c12b0
      try clear c12b1
      try clear c14
      obtain ⟨kq, x30_8, rfl, HA, HJ8, HO_7, HB⟩ := hcut
      cases kq with
      | zero => exact absurd HA.out (by simp [kissgatelaw13_TableIs.j0])
      | succ kj8 =>
        have H := HA.out
        clear HA
        simp only [kissgatelaw13_TableIs.j0] at H
        by_cases c17 : x30_8 = true
        · subst c17
          have H1 : (some false) = some r := by rw [if_pos rfl] at H; exact H
          clear H
          have H := H1
          clear H1
          exact absurd (Option.some.inj H) (by rw [HRT.out]; decide)
        · replace c17 := Bool.eq_false_iff.mpr c17
          subst c17
          have H1 : (kissgatelaw13_TableIs.l0 kj8 a0 a1 a2 t167 t170 t171 0) = some r := by rw [if_neg (show ¬ (false = true) by decide)] at H; exact H
          clear H
          have H := H1
          clear H1
          have H' := Aside0.mk H
          clear H
          go_wp2
          go_loopg [10] kj8 (fun kq v10 w' => ∃ (x10_2 : Int), v10 = .int .i64 x10_2 ∧ Aside0 (kissgatelaw13_TableIs.l0 kq a0 a1 a2 t167 t170 t171 x10_2 = some r) ∧ Aside0 (kq ≤ kj8) ∧ Aside0 (Kd.N (Kd.slice 30 k30) 27 w' w.heap.size (fun _ => True) v168 t167) ∧ Aside0 (Below w.heap.size w w'))
          case atStart => exact ⟨(0), (by first | rfl | (simp; done) | (simp [*]; done)), H', ⟨Nat.le_refl _⟩, ⟨by (with_reducible repeat (first | apply Kd.N_alloc | apply Kd.N_drewN | apply Kd.N_drew)); exact HO_7.out⟩, ⟨by repeat (first | (with_reducible first | exact HB.out | apply below_alloc | apply pw_below_drewN | apply below_drew1) | exact HB.out)⟩⟩
          case round =>
            clear H'
            try clear c1
            try clear c2
            try clear p2
            try clear c5
            try clear c11
            try clear c12
            try clear c12b0
            try clear c12b1
            try clear c14
            try clear c17
            try clear p2
            obtain ⟨x10_2, rfl, HA, HK2, HO_7, HB⟩ := hrel
            cases gk with
            | zero => exact absurd HA.out (by simp [kissgatelaw13_TableIs.l0])
            | succ k2 =>
              have H := HA.out
              clear HA
              simp only [kissgatelaw13_TableIs.l0] at H
              by_cases c18 : x10_2 < t170
              · rw [if_pos c18] at H
                have c18b0 : decide (x10_2 < t170) = true := decide_eq_true c18
                clear c18
                by_cases c19 : 0 ≤ x10_2
                · rw [if_pos c19] at H
                  have c19b0 : decide (0 ≤ x10_2) = true := decide_eq_true c19
                  clear c19
                  by_cases c20 : x10_2 < (t167.length : Int)
                  · rw [if_pos c20] at H
                    have c20b0 : decide (x10_2 < (t167.length : Int)) = true := decide_eq_true c20
                    clear c20
                    by_cases c21 : ((rd_L2 t167 x10_2).length : Int) = t171
                    · rw [if_pos c21] at H
                      have c21b0 : (((rd_L2 t167 x10_2).length : Int) == t171) = true := beq_iff_eq.mpr c21
                      have c21b1 : (((rd_L2 t167 x10_2).length : Int) != t171) = false := bne_eq_false_iff_eq.mpr c21
                      clear c21
                      have H' := Aside0.mk H
                      clear H
                      obtain ⟨Ao22, co22, eo22⟩ := Kd.N_slice HO_7.out
                      subst eo22
                      have p179 : 0 ≤ (x10_2 : Int) := of_decide_eq_true (by first | (with_reducible assumption) | assumption)
                      have q179 : x10_2 < (t167.length : Int) := of_decide_eq_true (by first | (with_reducible assumption) | assumption)
                      obtain ⟨ad179, A179_0, c179_0, e179, hx179_0, hl179_0, hi179_0⟩ := at_L2 (Kd.N_reads' HO_7.out).2.2 x10_2 p179 q179
                      cases e179
                      obtain ⟨ce179, hce179, hMe179, hcc179⟩ := Kd.N_get HO_7.out [] x10_2 p179 (by first | exact q179 | exact of_decide_eq_true (by first | (with_reducible assumption) | assumption) | (have e_ := (Kd.N_reads' HO_7.out).1; omega))
                      obtain ⟨ua179_0, uc179_0, rfl, ul179_0, ge179_0⟩ := Kd.FK_slice_open hMe179
                      have hv179_0 := hcc179 0 _ rfl
                      rw [Nat.add_zero, show ((Kd.slice 30 k30)).sz = 1 from rfl, Nat.mul_one] at hv179_0
                      replace hv179_0 := Option.some.inj (hv179_0.symm.trans hx179_0)
                      injection hv179_0 with hva_ hvn_ hvc_
                      rw [hva_] at ge179_0
                      rw [hvc_] at ul179_0
                      have HL179_0 := Aside0.mk (show Kd.V k30 30 _ w.heap.size _ _ (rd_L2 t167 x10_2) from Kd.V_mk ul179_0 ge179_0)
                      clear hva_ hvn_ hvc_ ge179_0 ul179_0
                      clear hcc179 hce179
                      have HR179_0 := Aside0.mk hi179_0
                      have HC179_0 := Aside0.mk hl179_0
                      clear hi179_0 hl179_0
                      replace p179 := eq_true p179
                      replace q179 := eq_true q179
                      go_wp2
                      go_loopg [11] k2 (fun kq v11 w' => ∃ (x11_3 : Int), v11 = .int .i64 x11_3 ∧ Aside0 (kissgatelaw13_TableIs.l1 kq a0 a1 a2 t167 t170 t171 x10_2 x11_3 = some r) ∧ Aside0 (kq ≤ k2) ∧ Aside0 (Kd.N (Kd.slice 30 k30) 27 w' w.heap.size (fun _ => True) (.slice (some ad179) t167.length co22) t167) ∧ Aside0 (Kd.C k30 w' A179_0 (rd_L2 t167 x10_2).length (rd_L2 t167 x10_2)) ∧ Aside0 (Below w.heap.size w w'))
                      case atStart => exact ⟨(0), (by first | rfl | (simp; done) | (simp [*]; done)), H', ⟨Nat.le_refl _⟩, ⟨by (with_reducible repeat (first | apply Kd.N_alloc | apply Kd.N_drewN | apply Kd.N_drew)); exact HO_7.out⟩, ⟨by repeat (first | (with_reducible exact HR179_0.out) | (with_reducible refine Kd.C_alloc ?_ _) | (with_reducible refine Kd.C_drewN ?_ _) | (with_reducible refine Kd.C_drew ?_) | exact HR179_0.out)⟩, ⟨by repeat (first | (with_reducible first | exact HB.out | apply below_alloc | apply pw_below_drewN | apply below_drew1) | exact HB.out)⟩⟩
                      case round =>
                        clear H'
                        try clear c1
                        try clear p1
                        try clear q1
                        try clear hx1
                        try clear c2
                        try clear p2
                        try clear c5
                        try clear c11
                        try clear c12
                        try clear c12b0
                        try clear c12b1
                        try clear c14
                        try clear c17
                        try clear p17
                        try clear q17
                        try clear hx17
                        try clear c18
                        try clear c18b0
                        try clear c19
                        try clear c19b0
                        try clear c20
                        try clear c20b0
                        try clear c21
                        try clear c21b0
                        try clear c21b1
                        try clear hx179_0
                        try clear p179
                        try clear p2
                        try clear q179
                        obtain ⟨x11_3, rfl, HA, HK3, HO_7, HR179_0, HB⟩ := hrel
                        cases gk with
                        | zero => exact absurd HA.out (by simp [kissgatelaw13_TableIs.l1])
                        | succ k3 =>
                          have H := HA.out
                          clear HA
                          simp only [kissgatelaw13_TableIs.l1] at H
                          by_cases c23 : x11_3 < t171
                          · rw [if_pos c23] at H
                            have c23b0 : decide (x11_3 < t171) = true := decide_eq_true c23
                            clear c23
                            by_cases c24 : 0 ≤ x10_2
                            · rw [if_pos c24] at H
                              have c24b0 : decide (0 ≤ x10_2) = true := decide_eq_true c24
                              clear c24
                              by_cases c25 : x10_2 < (t167.length : Int)
                              · rw [if_pos c25] at H
                                have c25b0 : decide (x10_2 < (t167.length : Int)) = true := decide_eq_true c25
                                clear c25
                                by_cases c26 : 0 ≤ x11_3
                                · rw [if_pos c26] at H
                                  have c26b0 : decide (0 ≤ x11_3) = true := decide_eq_true c26
                                  clear c26
                                  by_cases c27 : x11_3 < ((rd_L2 t167 x10_2).length : Int)
                                  · rw [if_pos c27] at H
                                    have c27b0 : decide (x11_3 < ((rd_L2 t167 x10_2).length : Int)) = true := decide_eq_true c27
                                    clear c27
                                    replace H := Option.bind_eq_some_iff.mp H
                                    obtain ⟨t182, A280, H⟩ := H
                                    replace H : ((kissgateref13_Act.f a0 x10_2 x11_3).bind fun t183 => (if (!(((rd_T30 (rd_L2 t167 x10_2) x11_3).f0) == t182) || (!(((rd_T30 (rd_L2 t167 x10_2) x11_3).f1) == t183))) = true then (some false) else (kissgatelaw13_TableIs.l1 k3 a0 a1 a2 t167 t170 t171 x10_2 (wrap64 (x11_3 + 1))))) = some r := H
                                    have A28 := Aside0.mk A280
                                    clear A280
                                    replace H := Option.bind_eq_some_iff.mp H
                                    obtain ⟨t183, A290, H⟩ := H
                                    replace H : (if (!(((rd_T30 (rd_L2 t167 x10_2) x11_3).f0) == t182) || (!(((rd_T30 (rd_L2 t167 x10_2) x11_3).f1) == t183))) = true then (some false) else (kissgatelaw13_TableIs.l1 k3 a0 a1 a2 t167 t170 t171 x10_2 (wrap64 (x11_3 + 1)))) = some r := H
                                    have A29 := Aside0.mk A290
                                    clear A290
                                    by_cases c30 : (!(((rd_T30 (rd_L2 t167 x10_2) x11_3).f0) == t182) || (!(((rd_T30 (rd_L2 t167 x10_2) x11_3).f1) == t183))) = true
                                    · rw [if_pos c30] at H
                                      have c30b0 : (!(((rd_T30 (rd_L2 t167 x10_2) x11_3).f0) == t182) || (!(((rd_T30 (rd_L2 t167 x10_2) x11_3).f1) == t183))) = true := c30
                                      clear c30
                                      exact absurd (Option.some.inj H) (by rw [HRT.out]; decide)
                                    · rw [if_neg c30] at H
                                      have c30b0 : (!(((rd_T30 (rd_L2 t167 x10_2) x11_3).f0) == t182) || (!(((rd_T30 (rd_L2 t167 x10_2) x11_3).f1) == t183))) = false := by simpa using c30
                                      clear c30
                                      have H' := Aside0.mk H
                                      clear H
                                      try go_wp2
                                      have n0_ := Aside0.mk (Kd.N_drew HO_7.out)
                                      have n1_ := Aside0.mk (Kd.C_drew HR179_0.out)
                                      have n2_ := Aside0.mk (below_drew1 HB.out)
                                      clear HO_7
                                      clear HR179_0
                                      clear HB
                                      have HO_7 := n0_
                                      have HR179_0 := n1_
                                      have HB := n2_
                                      clear n0_ n1_ n2_
                                      have p180 : 0 ≤ (x10_2 : Int) := of_decide_eq_true (by first | (with_reducible assumption) | assumption)
                                      have q180 : x10_2 < (t167.length : Int) := of_decide_eq_true (by first | (with_reducible assumption) | assumption)
                                      obtain ⟨ad180, A180_0, c180_0, e180, hx180_0, hl180_0, hi180_0⟩ := at_L2 (Kd.N_reads' HO_7.out).2.2 x10_2 p180 q180
                                      obtain rfl : ad179 = ad180 := (by injection e180)
                                      obtain ⟨ce180, hce180, hMe180, hcc180⟩ := Kd.N_get HO_7.out [] x10_2 p180 (by first | exact q180 | exact of_decide_eq_true (by first | (with_reducible assumption) | assumption) | (have e_ := (Kd.N_reads' HO_7.out).1; omega))
                                      obtain ⟨ua180_0, uc180_0, rfl, ul180_0, ge180_0⟩ := Kd.FK_slice_open hMe180
                                      have hv180_0 := hcc180 0 _ rfl
                                      rw [Nat.add_zero, show ((Kd.slice 30 k30)).sz = 1 from rfl, Nat.mul_one] at hv180_0
                                      replace hv180_0 := Option.some.inj (hv180_0.symm.trans hx180_0)
                                      injection hv180_0 with hva_ hvn_ hvc_
                                      rw [hva_] at ge180_0
                                      rw [hvc_] at ul180_0
                                      have HL180_0 := Aside0.mk (show Kd.V k30 30 _ w.heap.size _ _ (rd_L2 t167 x10_2) from Kd.V_mk ul180_0 ge180_0)
                                      clear hva_ hvn_ hvc_ ge180_0 ul180_0
                                      clear hcc180 hce180
                                      have HR180_0 := Aside0.mk hi180_0
                                      have HC180_0 := Aside0.mk hl180_0
                                      clear hi180_0 hl180_0
                                      replace p180 := eq_true p180
                                      replace q180 := eq_true q180
                                      have p181 : 0 ≤ (x11_3 : Int) := of_decide_eq_true (by first | (with_reducible assumption) | assumption)
                                      have q181 : x11_3 < ((rd_L2 t167 x10_2).length : Int) := of_decide_eq_true (by first | (with_reducible assumption) | assumption)
                                      obtain ⟨ad181, e181, hx181_0, hx181_1⟩ := at_T30 (by repeat (first | (with_reducible exact HR180_0.out) | (with_reducible refine Kd.C_alloc ?_ _) | (with_reducible refine Kd.C_drewN ?_ _) | (with_reducible refine Kd.C_drew ?_) | exact HR180_0.out)) x11_3 p181 q181
                                      cases e181
                                      replace p181 := eq_true p181
                                      replace q181 := eq_true q181
                                      refine start_ (n := 17) (S := fun w' => w'.cell? (ad179.add (x10_2).toNat) = some (.slice (some ad181) (rd_L2 t167 x10_2).length c180_0) ∧ w'.cell? (ad181.add ((x11_3).toNat * 2)) = some (.int .i64 ((rd_T30 (rd_L2 t167 x10_2) x11_3).f0)) ∧ w'.cell? ⟨(ad181.add ((x11_3).toNat * 2)).block, (ad181.add ((x11_3).toNat * 2)).off + 1, none⟩ = some (.int .i64 ((rd_T30 (rd_L2 t167 x10_2) x11_3).f1))) (ds := []) #[false, false, false, false, false, false, false, false, false, false, false, false, false, false, false, false, false] (by kernel_rfl) rfl rfl ⟨hx180_0, hx181_0, hx181_1⟩ (fun hHeld => ?_); refine with_tabW kissgatelaw13_TableIs.tab15 kissgatelaw13_TableIs.bits15 (fun HT_ HW_ => ?_)
                                      generalize wr.drew = w34 at HO_7 HR179_0 HB HL180_0 HR180_0 hx180_0 hx181_0 hx181_1 hHeld ⊢
                                      refine pure_ (i := 0) (N := some 48) (v := ?_) (a' := ?_) #[true, false, false, false, false, false, false, false, false, false, false, false, false, false, false, false, false] rfl rfl (any_of HT_.out (by kernel_rfl)) (fun _ _ _ h => h) (Or.inl ⟨by rfl, ?_⟩) ?_ ?_
                                      rotate_left
                                      · intro w'
                                        go_simp
                                        with_reducible rfl
                                      rotate_left
                                      · simp only [Act.put, List.setIfInBounds_toArray, List.set_cons_zero, List.set_cons_succ, i64_w, i32_w]
                                        rfl
                                      refine pure_ (i := 1) (N := some 49) (v := ?_) (a' := ?_) #[true, true, false, false, false, false, false, false, false, false, false, false, false, false, false, false, false] rfl rfl (any_of HT_.out (by kernel_rfl)) (fun _ _ _ h => h) (Or.inl ⟨by rfl, ?_⟩) ?_ ?_
                                      rotate_left
                                      · intro w'
                                        go_simp
                                        with_reducible rfl
                                      rotate_left
                                      · simp only [Act.put, List.setIfInBounds_toArray, List.set_cons_zero, List.set_cons_succ, i64_w, i32_w]
                                        rfl
                                      refine pure_ (i := 2) (N := some 50) (v := ?_) (a' := ?_) #[true, true, true, false, false, false, false, false, false, false, false, false, false, false, false, false, false] rfl rfl (any_of HT_.out (by kernel_rfl)) (fun _ _ _ h => h) (Or.inl ⟨by rfl, ?_⟩) ?_ ?_
                                      rotate_left
                                      · intro w'
                                        go_simp
                                        with_reducible rfl
                                      rotate_left
                                      · simp only [Act.put, List.setIfInBounds_toArray, List.set_cons_zero, List.set_cons_succ, i64_w, i32_w]
                                        rfl
                                      refine pure_ (i := 4) (N := some 52) (v := ?_) (a' := ?_) #[true, true, true, false, true, false, false, false, false, false, false, false, false, false, false, false, false] rfl rfl (any_of HT_.out (by kernel_rfl)) (fun _ _ _ h => h) (Or.inl ⟨by rfl, ?_⟩) ?_ ?_
                                      rotate_left
                                      · intro w'
                                        go_simp
                                        with_reducible rfl
                                      rotate_left
                                      · simp only [Act.put, List.setIfInBounds_toArray, List.set_cons_zero, List.set_cons_succ, i64_w, i32_w]
                                        rfl
                                      refine pure_ (i := 7) (N := some 55) (v := ?_) (a' := ?_) #[true, true, true, false, true, false, false, true, false, false, false, false, false, false, false, false, false] rfl rfl (any_of HT_.out (by kernel_rfl)) (fun _ _ _ h => h) (Or.inl ⟨by rfl, ?_⟩) ?_ ?_
                                      rotate_left
                                      · intro w'
                                        go_simp
                                        with_reducible rfl
                                      rotate_left
                                      · simp only [Act.put, List.setIfInBounds_toArray, List.set_cons_zero, List.set_cons_succ, i64_w, i32_w]
                                        rfl
                                      refine pure_ (i := 8) (N := some 56) (v := ?_) (a' := ?_) #[true, true, true, false, true, false, false, true, true, false, false, false, false, false, false, false, false] rfl rfl (any_of HT_.out (by kernel_rfl)) (fun _ _ _ h => h) (Or.inl ⟨by rfl, ?_⟩) ?_ ?_
                                      rotate_left
                                      · intro w'
                                        go_simp
                                        with_reducible rfl
                                      rotate_left
                                      · simp only [Act.put, List.setIfInBounds_toArray, List.set_cons_zero, List.set_cons_succ, i64_w, i32_w]
                                        rfl
                                      refine pure_ (i := 9) (N := some 57) (v := ?_) (a' := ?_) #[true, true, true, false, true, false, false, true, true, true, false, false, false, false, false, false, false] rfl rfl (any_of HT_.out (by kernel_rfl)) (fun _ _ _ h => h) (Or.inl ⟨by rfl, ?_⟩) ?_ ?_
                                      rotate_left
                                      · intro w'
                                        go_simp
                                        with_reducible rfl
                                      rotate_left
                                      · simp only [Act.put, List.setIfInBounds_toArray, List.set_cons_zero, List.set_cons_succ, i64_w, i32_w]
                                        rfl
                                      refine pure_ (i := 11) (N := some 59) (v := ?_) (a' := ?_) #[true, true, true, false, true, false, false, true, true, true, false, true, false, false, false, false, false] rfl rfl (any_of HT_.out (by kernel_rfl)) (fun _ _ _ h => h) (Or.inl ⟨by rfl, ?_⟩) ?_ ?_
                                      rotate_left
                                      · intro w'
                                        go_simp
                                        with_reducible rfl
                                      rotate_left
                                      · simp only [Act.put, List.setIfInBounds_toArray, List.set_cons_zero, List.set_cons_succ, i64_w, i32_w]
                                        rfl
                                      refine pure_ (i := 12) (N := some 60) (v := ?_) (a' := ?_) #[true, true, true, false, true, false, false, true, true, true, false, true, true, false, false, false, false] rfl rfl (any_of HT_.out (by kernel_rfl)) (fun _ _ _ h => h) (Or.inl ⟨by rfl, ?_⟩) ?_ ?_
                                      rotate_left
                                      · intro w'
                                        go_simp
                                        with_reducible rfl
                                      rotate_left
                                      · simp only [Act.put, List.setIfInBounds_toArray, List.set_cons_zero, List.set_cons_succ, i64_w, i32_w]
                                        rfl
                                      refine pure_ (i := 13) (N := some 61) (v := ?_) (a' := ?_) #[true, true, true, false, true, false, false, true, true, true, false, true, true, true, false, false, false] rfl rfl (any_of HT_.out (by kernel_rfl)) (fun _ _ _ h => h) (Or.inl ⟨by rfl, ?_⟩) ?_ ?_
                                      rotate_left
                                      · intro w'
                                        go_simp
                                        with_reducible rfl
                                      rotate_left
                                      · simp only [Act.put, List.setIfInBounds_toArray, List.set_cons_zero, List.set_cons_succ, i64_w, i32_w]
                                        rfl
                                      refine take_ (i := 3) (N := some 51) (v := ?_) (a' := ?_) #[true, true, true, true, true, false, false, true, true, true, false, true, true, true, false, false, false] rfl rfl (take_ofW HT_.out HW_.out (by kernel_rfl)) (fun _ _ _ h => h) (Or.inl ⟨by rfl, ?_⟩) hHeld ?_ ?_
                                      rotate_left
                                      · rintro w' ⟨s0, s1, s2⟩
                                        go_simp
                                        with_reducible rfl
                                      rotate_left
                                      · simp only [Act.put, List.setIfInBounds_toArray, List.set_cons_zero, List.set_cons_succ, i64_w, i32_w]
                                        rfl
                                      refine pure_ (i := 5) (N := some 53) (v := ?_) (a' := ?_) #[true, true, true, true, true, true, false, true, true, true, false, true, true, true, false, false, false] rfl rfl (any_of HT_.out (by kernel_rfl)) (fun _ _ _ h => h) (Or.inl ⟨by rfl, ?_⟩) ?_ ?_
                                      rotate_left
                                      · intro w'
                                        go_simp
                                        with_reducible rfl
                                      rotate_left
                                      · simp only [Act.put, List.setIfInBounds_toArray, List.set_cons_zero, List.set_cons_succ, i64_w, i32_w]
                                        rfl
                                      refine take_ (i := 6) (N := some 54) (v := ?_) (a' := ?_) #[true, true, true, true, true, true, true, true, true, true, false, true, true, true, false, false, false] rfl rfl (take_ofW HT_.out HW_.out (by kernel_rfl)) (fun _ _ _ h => h) (Or.inl ⟨by rfl, ?_⟩) hHeld ?_ ?_
                                      rotate_left
                                      · rintro w' ⟨s0, s1, s2⟩
                                        go_simp
                                        with_reducible rfl
                                      rotate_left
                                      · simp only [Act.put, List.setIfInBounds_toArray, List.set_cons_zero, List.set_cons_succ, i64_w, i32_w]
                                        rfl
                                      refine one_ (i := 10) (N := some 58) #[true, true, true, true, true, true, true, true, true, true, true, true, true, true, false, false, false] rfl rfl (one_of HT_.out (by kernel_rfl)) (by decide) (fun K hK => ?_)
                                      refine goes_ Try.func30 (by kernel_rfl) rfl #[.bool a0, .int .i64 x10_2, .int .i64 x11_3] (by rfl) rfl rfl (by (try simp only [List.map_toArray, List.map_cons, List.map_nil]); first | done | rfl | (simp only [List.length_drop, List.length_take]; rfl)) ?_
                                      with_reducible refine (kissgateref13_Next.calls a0 x10_2 x11_3 t182 _ A28.out).mono ?_
                                      rintro e w35 ⟨rfl, hb⟩
                                      have HS0_ := (hb.cell (World.block_lt_of_cell? _ _ (hHeld.1))).trans (hHeld.1)
                                      have HS1_ := (hb.cell (World.block_lt_of_cell? _ _ (hHeld.2.1))).trans (hHeld.2.1)
                                      have HS2_ := (hb.cell (World.block_lt_of_cell? _ _ (hHeld.2.2))).trans (hHeld.2.2)
                                      refine ⟨_, rfl, ?_⟩
                                      have n0_ := Aside0.mk (Kd.N_below (by (with_reducible repeat (first | apply Kd.N_alloc | apply Kd.N_drewN | apply Kd.N_drew)); exact HO_7.out) hb)
                                      have n1_ := Aside0.mk (Kd.V_below (by (with_reducible repeat (first | apply Kd.V_alloc | apply Kd.V_drewN | apply Kd.V_drew)); exact HL180_0.out) hb)
                                      have n2_ := Aside0.mk (Kd.C_below (by repeat (first | (with_reducible exact HR179_0.out) | (with_reducible refine Kd.C_alloc ?_ _) | (with_reducible refine Kd.C_drewN ?_ _) | (with_reducible refine Kd.C_drew ?_) | exact HR179_0.out)) hb)
                                      have n3_ := Aside0.mk (Kd.C_below (by repeat (first | (with_reducible exact HR180_0.out) | (with_reducible refine Kd.C_alloc ?_ _) | (with_reducible refine Kd.C_drewN ?_ _) | (with_reducible refine Kd.C_drew ?_) | exact HR180_0.out)) hb)
                                      have n4_ := Aside0.mk (below_step (by repeat (first | (with_reducible first | exact HB.out | apply below_alloc | apply pw_below_drewN | apply below_drew1) | exact HB.out)) hb)
                                      clear HO_7
                                      clear HL180_0
                                      clear HR179_0
                                      clear HR180_0
                                      clear HB
                                      have HO_7 := n0_
                                      have HL180_0 := n1_
                                      have HR179_0 := n2_
                                      have HR180_0 := n3_
                                      have HB := n4_
                                      clear n0_ n1_ n2_ n3_ n4_
                                      (try clear hb)
                                      (try clear hb2)
                                      (try clear hk)
                                      (try clear hi)
                                      refine hK.out _ _ ⟨HS0_, HS1_, HS2_⟩ (fun hHeld => ?_)
                                      clear hK K
                                      refine norm_ (a' := ?_) ?_ ?_
                                      rotate_left
                                      · show Act.put _ (some 58) _ = _
                                        simp only [Act.put, List.setIfInBounds_toArray, List.set_cons_zero, List.set_cons_succ, i64_w, i32_w]
                                        rfl
                                      refine one_ (i := 14) (N := some 62) #[true, true, true, true, true, true, true, true, true, true, true, true, true, true, true, false, false] rfl rfl (one_of HT_.out (by kernel_rfl)) (by decide) (fun K hK => ?_)
                                      refine goes_ Try.func31 (by kernel_rfl) rfl #[.bool a0, .int .i64 x10_2, .int .i64 x11_3] (by rfl) rfl rfl (by (try simp only [List.map_toArray, List.map_cons, List.map_nil]); first | done | rfl | (simp only [List.length_drop, List.length_take]; rfl)) ?_
                                      with_reducible refine (kissgateref13_Act.calls a0 x10_2 x11_3 t183 _ A29.out).mono ?_
                                      rintro e w36 ⟨rfl, hb⟩
                                      have HS0_ := (hb.cell (World.block_lt_of_cell? _ _ (hHeld.1))).trans (hHeld.1)
                                      have HS1_ := (hb.cell (World.block_lt_of_cell? _ _ (hHeld.2.1))).trans (hHeld.2.1)
                                      have HS2_ := (hb.cell (World.block_lt_of_cell? _ _ (hHeld.2.2))).trans (hHeld.2.2)
                                      refine ⟨_, rfl, ?_⟩
                                      have n0_ := Aside0.mk (Kd.N_below (by (with_reducible repeat (first | apply Kd.N_alloc | apply Kd.N_drewN | apply Kd.N_drew)); exact HO_7.out) hb)
                                      have n1_ := Aside0.mk (Kd.V_below (by (with_reducible repeat (first | apply Kd.V_alloc | apply Kd.V_drewN | apply Kd.V_drew)); exact HL180_0.out) hb)
                                      have n2_ := Aside0.mk (Kd.C_below (by repeat (first | (with_reducible exact HR179_0.out) | (with_reducible refine Kd.C_alloc ?_ _) | (with_reducible refine Kd.C_drewN ?_ _) | (with_reducible refine Kd.C_drew ?_) | exact HR179_0.out)) hb)
                                      have n3_ := Aside0.mk (Kd.C_below (by repeat (first | (with_reducible exact HR180_0.out) | (with_reducible refine Kd.C_alloc ?_ _) | (with_reducible refine Kd.C_drewN ?_ _) | (with_reducible refine Kd.C_drew ?_) | exact HR180_0.out)) hb)
                                      have n4_ := Aside0.mk (below_step (by repeat (first | (with_reducible first | exact HB.out | apply below_alloc | apply pw_below_drewN | apply below_drew1) | exact HB.out)) hb)
                                      clear HO_7
                                      clear HL180_0
                                      clear HR179_0
                                      clear HR180_0
                                      clear HB
                                      have HO_7 := n0_
                                      have HL180_0 := n1_
                                      have HR179_0 := n2_
                                      have HR180_0 := n3_
                                      have HB := n4_
                                      clear n0_ n1_ n2_ n3_ n4_
                                      (try clear hb)
                                      (try clear hb2)
                                      (try clear hk)
                                      (try clear hi)
                                      refine hK.out _ _ ⟨HS0_, HS1_, HS2_⟩ (fun hHeld => ?_)
                                      clear hK K
                                      refine norm_ (a' := ?_) ?_ ?_
                                      rotate_left
                                      · show Act.put _ (some 62) _ = _
                                        simp only [Act.put, List.setIfInBounds_toArray, List.set_cons_zero, List.set_cons_succ, i64_w, i32_w]
                                        rfl
                                      refine pure_ (i := 15) (N := some 63) (v := ?_) (a' := ?_) #[true, true, true, true, true, true, true, true, true, true, true, true, true, true, true, true, false] rfl rfl (any_of HT_.out (by kernel_rfl)) (fun _ _ _ h => h) (Or.inl ⟨by rfl, ?_⟩) ?_ ?_
                                      rotate_left
                                      · intro w'
                                        go_simp
                                        with_reducible rfl
                                      rotate_left
                                      · simp only [Act.put, List.setIfInBounds_toArray, List.set_cons_zero, List.set_cons_succ, i64_w, i32_w]
                                        rfl
                                      refine pure_ (i := 16) (N := some 64) (v := ?_) (a' := ?_) #[true, true, true, true, true, true, true, true, true, true, true, true, true, true, true, true, true] rfl rfl (any_of HT_.out (by kernel_rfl)) (fun _ _ _ h => h) (Or.inl ⟨by rfl, ?_⟩) ?_ ?_
                                      rotate_left
                                      · intro w'
                                        go_simp
                                        with_reducible rfl
                                      rotate_left
                                      · simp only [Act.put, List.setIfInBounds_toArray, List.set_cons_zero, List.set_cons_succ, i64_w, i32_w]
                                        rfl
                                      refine done_ (done_of HT_.out (by kernel_rfl)) ?_
                                      try go_wp2
                                      go_roundg k3
                                      case measure => have := HJ8.out; have := HK2.out; have := HK3.out; omega
                                      case rel => exact ⟨(wrap64 (x11_3 + 1)), (by first | rfl | (simp; done) | (simp [*]; done)), H', ⟨by have := HJ8.out; have := HK2.out; have := HK3.out; omega⟩, ⟨by (with_reducible repeat (first | apply Kd.N_alloc | apply Kd.N_drewN | apply Kd.N_drew)); exact HO_7.out⟩, ⟨by repeat (first | (with_reducible exact HR179_0.out) | (with_reducible refine Kd.C_alloc ?_ _) | (with_reducible refine Kd.C_drewN ?_ _) | (with_reducible refine Kd.C_drew ?_) | exact HR179_0.out)⟩, ⟨by repeat (first | (with_reducible first | exact HB.out | apply below_alloc | apply pw_below_drewN | apply below_drew1) | exact HB.out)⟩⟩
                                  · rw [if_neg c27] at H
                                    exact absurd H (by simp)
                                · rw [if_neg c26] at H
                                  exact absurd H (by simp)
                              · rw [if_neg c25] at H
                                exact absurd H (by simp)
                            · rw [if_neg c24] at H
                              exact absurd H (by simp)
                          · rw [if_neg c23] at H
                            have c23b0 : decide (x11_3 < t171) = false := decide_eq_false c23
                            clear c23
                            have H' := Aside0.mk H
                            clear H
                            go_wp2
                            go_roundg k3
                            case measure => have := HJ8.out; have := HK2.out; have := HK3.out; omega
                            case rel => exact ⟨(wrap64 (x10_2 + 1)), (by first | rfl | (simp; done) | (simp [*]; done)), H', ⟨by have := HJ8.out; have := HK2.out; have := HK3.out; omega⟩, ⟨by (with_reducible repeat (first | apply Kd.N_alloc | apply Kd.N_drewN | apply Kd.N_drew)); exact HO_7.out⟩, ⟨by repeat (first | (with_reducible first | exact HB.out | apply below_alloc | apply pw_below_drewN | apply below_drew1) | exact HB.out)⟩⟩
                    · rw [if_neg c21] at H
                      have c21b0 : (((rd_L2 t167 x10_2).length : Int) == t171) = false := beq_eq_false_iff_ne.mpr c21
                      have c21b1 : (((rd_L2 t167 x10_2).length : Int) != t171) = true := bne_iff_ne.mpr c21
                      exact absurd (Option.some.inj H) (by rw [HRT.out]; decide)
                  · rw [if_neg c20] at H
                    exact absurd H (by simp)
                · rw [if_neg c19] at H
                  exact absurd H (by simp)
              · rw [if_neg c18] at H
                have c18b0 : decide (x10_2 < t170) = false := decide_eq_false c18
                clear c18
                replace H := Option.bind_eq_some_iff.mp H
                obtain ⟨⟨t173, t174, t175⟩, A380, H⟩ := H
                replace H : (if a1 < 0 then (if t175 = true then (some false) else (some (t173 == a1 && (t174 == 0)))) else (if a1 ≥ t170 then (if t175 = true then (some false) else (some (t173 == a1 && (t174 == 0)))) else (if a2 < 0 then (if t175 = true then (some false) else (some (t173 == a1 && (t174 == 0)))) else (if a2 ≥ t171 then (if t175 = true then (some false) else (some (t173 == a1 && (t174 == 0)))) else (if t175 = true then (if 0 ≤ a1 then (if a1 < (t167.length : Int) then (if 0 ≤ a2 then (if a2 < ((rd_L2 t167 a1).length : Int) then (some (t173 == ((rd_T30 (rd_L2 t167 a1) a2).f0) && (t174 == ((rd_T30 (rd_L2 t167 a1) a2).f1)))) else (none)) else (none)) else (none)) else (none)) else (some false)))))) = some r := H
                have A38 := Aside0.mk A380
                clear A380
                by_cases c39 : a1 < 0
                · rw [if_pos c39] at H
                  have c39b0 : decide (a1 < 0) = true := decide_eq_true c39
                  clear c39
                  by_cases c40 : t175 = true
                  · subst c40
                    have H1 : (some false) = some r := by rw [if_pos rfl] at H; exact H
                    clear H
                    have H := H1
                    clear H1
                    exact absurd (Option.some.inj H) (by rw [HRT.out]; decide)
                  · replace c40 := Bool.eq_false_iff.mpr c40
                    subst c40
                    have H1 : (some (t173 == a1 && (t174 == 0))) = some r := by rw [if_neg (show ¬ (false = true) by decide)] at H; exact H
                    clear H
                    have H := H1
                    clear H1
                    obtain rfl := Option.some.inj H
                    obtain ⟨Ao45, co45, eo45⟩ := Kd.N_slice HO_7.out
                    subst eo45
                    go_wp2_with (first | ((with_reducible refine gate_callee (f := 17) rfl ?_); refine goesL_ (some 69) rfl rfl Try.func17 (by kernel_rfl) rfl #[.slice Ao45 t167.length co45, .int .i64 a1, .int .i64 a2] rfl (by (try simp only [List.map_toArray, List.map_cons, List.map_nil]); first | done | rfl | (simp only [List.length_drop, List.length_take]; rfl)) ?_; (with_reducible refine (table_At.calls _ _ t167 a1 a2 t173 t174 false _ ?side1 ?side2 A38.out).mono ?_); (case side1 => repeat (first | exact (Kd.N_reads' HO_7.out).2.2 | (with_reducible refine Kd.C_alloc ?_ _) | (with_reducible refine Kd.C_drewN ?_ _) | (with_reducible refine Kd.C_drew ?_))); (case side2 => exact (Kd.N_reads' HO_7.out).2.1); rintro e w46 ⟨rfl, hb⟩; refine ⟨_, rfl, ?_⟩; have n0_ := Aside0.mk (Kd.N_below (by (with_reducible repeat (first | apply Kd.N_alloc | apply Kd.N_drewN | apply Kd.N_drew)); exact HO_7.out) hb); have n1_ := Aside0.mk (below_step (by repeat (first | (with_reducible first | exact HB.out | apply below_alloc | apply pw_below_drewN | apply below_drew1) | exact HB.out)) hb); clear HO_7; clear HB; have HO_7 := n0_; have HB := n1_; clear n0_ n1_; (try clear hb); (try clear hb2); (try clear hk); (try clear hi)) | ((with_reducible refine gate_dst (N := 12) rfl ?_); refine box_event ?hg (N := 12) ?hd (cs := #[.int .i64 0, .int .i64 0]) (t := 30) ?hr ?_; (case hd => rfl); (case hg => rfl); (case hr => first | (go_simp; done) | (go_simp; rfl)); intro gb176 hg w47 hbox hb; have n0_ := Aside0.mk (Kd.N_below (Kd.N_elderB (by (with_reducible repeat (first | apply Kd.N_alloc | apply Kd.N_drewN | apply Kd.N_drew)); exact HO_7.out) gb176 (Nat.le_of_eq hg.symm)) hb); have n1_ := Aside0.mk (below_step (by repeat (first | (with_reducible first | exact HB.out | apply below_alloc | apply pw_below_drewN | apply below_drew1) | exact HB.out)) hb); have n2_ := Aside0.mk (hbox); have n3_ := Aside0.mk ((by rw [hg]; exact (below_size (by repeat (first | (with_reducible first | exact HB.out | apply below_alloc | apply pw_below_drewN | apply below_drew1) | exact HB.out))) : w.heap.size ≤ gb176)); have n4_ := Aside0.mk ((by rw [hg]; exact (below_size (by repeat (first | (with_reducible first | exact HB.out | apply below_alloc | apply pw_below_drewN | apply below_drew1) | exact HB.out))) : w.heap.size ≤ gb176)); clear HO_7; clear HB; have HO_7 := n0_; have HB := n1_; have BK176 := n2_; have GW176 := n3_; have GE176 := n4_; clear n0_ n1_ n2_ n3_ n4_; clear hb hbox hg; have hcz48_0 : w47.cell? ⟨gb176, 0, none⟩ = some (.int .i64 0) := (blk_cell BK176.out 0).trans rfl; have hcz48_1 : w47.cell? ⟨gb176, 1, none⟩ = some (.int .i64 0) := (blk_cell BK176.out 1).trans rfl; have hfz48_0 := blk_frozen BK176.out 0; have hfz48_1 := blk_frozen BK176.out 1))
                    go_ret
                    exact ⟨by first | rfl | (simp [errW_none, errW_some] <;> rfl) | (simp [*, errW_none, errW_some] <;> rfl), by repeat (first | (with_reducible first | exact HB.out | apply below_alloc | apply pw_below_drewN | apply below_drew1 | refine below_set ?_ GE176.out) | exact HB.out)⟩
                · rw [if_neg c39] at H
                  have c39b0 : decide (a1 < 0) = false := decide_eq_false c39
                  clear c39
                  by_cases c49 : a1 ≥ t170
                  · rw [if_pos c49] at H
                    have c49b0 : decide (t170 ≤ a1) = true := decide_eq_true c49
                    clear c49
                    by_cases c50 : t175 = true
                    · subst c50
                      have H1 : (some false) = some r := by rw [if_pos rfl] at H; exact H
                      clear H
                      have H := H1
                      clear H1
                      exact absurd (Option.some.inj H) (by rw [HRT.out]; decide)
                    · replace c50 := Bool.eq_false_iff.mpr c50
                      subst c50
                      have H1 : (some (t173 == a1 && (t174 == 0))) = some r := by rw [if_neg (show ¬ (false = true) by decide)] at H; exact H
                      clear H
                      have H := H1
                      clear H1
                      obtain rfl := Option.some.inj H
                      obtain ⟨Ao55, co55, eo55⟩ := Kd.N_slice HO_7.out
                      subst eo55
                      go_wp2_with (first | ((with_reducible refine gate_callee (f := 17) rfl ?_); refine goesL_ (some 69) rfl rfl Try.func17 (by kernel_rfl) rfl #[.slice Ao55 t167.length co55, .int .i64 a1, .int .i64 a2] rfl (by (try simp only [List.map_toArray, List.map_cons, List.map_nil]); first | done | rfl | (simp only [List.length_drop, List.length_take]; rfl)) ?_; (with_reducible refine (table_At.calls _ _ t167 a1 a2 t173 t174 false _ ?side1 ?side2 A38.out).mono ?_); (case side1 => repeat (first | exact (Kd.N_reads' HO_7.out).2.2 | (with_reducible refine Kd.C_alloc ?_ _) | (with_reducible refine Kd.C_drewN ?_ _) | (with_reducible refine Kd.C_drew ?_))); (case side2 => exact (Kd.N_reads' HO_7.out).2.1); rintro e w56 ⟨rfl, hb⟩; refine ⟨_, rfl, ?_⟩; have n0_ := Aside0.mk (Kd.N_below (by (with_reducible repeat (first | apply Kd.N_alloc | apply Kd.N_drewN | apply Kd.N_drew)); exact HO_7.out) hb); have n1_ := Aside0.mk (below_step (by repeat (first | (with_reducible first | exact HB.out | apply below_alloc | apply pw_below_drewN | apply below_drew1) | exact HB.out)) hb); clear HO_7; clear HB; have HO_7 := n0_; have HB := n1_; clear n0_ n1_; (try clear hb); (try clear hb2); (try clear hk); (try clear hi)) | ((with_reducible refine gate_dst (N := 12) rfl ?_); refine box_event ?hg (N := 12) ?hd (cs := #[.int .i64 0, .int .i64 0]) (t := 30) ?hr ?_; (case hd => rfl); (case hg => rfl); (case hr => first | (go_simp; done) | (go_simp; rfl)); intro gb176 hg w57 hbox hb; have n0_ := Aside0.mk (Kd.N_below (Kd.N_elderB (by (with_reducible repeat (first | apply Kd.N_alloc | apply Kd.N_drewN | apply Kd.N_drew)); exact HO_7.out) gb176 (Nat.le_of_eq hg.symm)) hb); have n1_ := Aside0.mk (below_step (by repeat (first | (with_reducible first | exact HB.out | apply below_alloc | apply pw_below_drewN | apply below_drew1) | exact HB.out)) hb); have n2_ := Aside0.mk (hbox); have n3_ := Aside0.mk ((by rw [hg]; exact (below_size (by repeat (first | (with_reducible first | exact HB.out | apply below_alloc | apply pw_below_drewN | apply below_drew1) | exact HB.out))) : w.heap.size ≤ gb176)); have n4_ := Aside0.mk ((by rw [hg]; exact (below_size (by repeat (first | (with_reducible first | exact HB.out | apply below_alloc | apply pw_below_drewN | apply below_drew1) | exact HB.out))) : w.heap.size ≤ gb176)); clear HO_7; clear HB; have HO_7 := n0_; have HB := n1_; have BK176 := n2_; have GW176 := n3_; have GE176 := n4_; clear n0_ n1_ n2_ n3_ n4_; clear hb hbox hg; have hcz58_0 : w57.cell? ⟨gb176, 0, none⟩ = some (.int .i64 0) := (blk_cell BK176.out 0).trans rfl; have hcz58_1 : w57.cell? ⟨gb176, 1, none⟩ = some (.int .i64 0) := (blk_cell BK176.out 1).trans rfl; have hfz58_0 := blk_frozen BK176.out 0; have hfz58_1 := blk_frozen BK176.out 1))
                      go_ret
                      exact ⟨by first | rfl | (simp [errW_none, errW_some] <;> rfl) | (simp [*, errW_none, errW_some] <;> rfl), by repeat (first | (with_reducible first | exact HB.out | apply below_alloc | apply pw_below_drewN | apply below_drew1 | refine below_set ?_ GE176.out) | exact HB.out)⟩
                  · rw [if_neg c49] at H
                    have c49b0 : decide (t170 ≤ a1) = false := decide_eq_false c49
                    clear c49
                    by_cases c59 : a2 < 0
                    · rw [if_pos c59] at H
                      have c59b0 : decide (a2 < 0) = true := decide_eq_true c59
                      clear c59
                      by_cases c60 : t175 = true
                      · subst c60
                        have H1 : (some false) = some r := by rw [if_pos rfl] at H; exact H
                        clear H
                        have H := H1
                        clear H1
                        exact absurd (Option.some.inj H) (by rw [HRT.out]; decide)
                      · replace c60 := Bool.eq_false_iff.mpr c60
                        subst c60
                        have H1 : (some (t173 == a1 && (t174 == 0))) = some r := by rw [if_neg (show ¬ (false = true) by decide)] at H; exact H
                        clear H
                        have H := H1
                        clear H1
                        obtain rfl := Option.some.inj H
                        obtain ⟨Ao65, co65, eo65⟩ := Kd.N_slice HO_7.out
                        subst eo65
                        go_wp2_with (first | ((with_reducible refine gate_callee (f := 17) rfl ?_); refine goesL_ (some 69) rfl rfl Try.func17 (by kernel_rfl) rfl #[.slice Ao65 t167.length co65, .int .i64 a1, .int .i64 a2] rfl (by (try simp only [List.map_toArray, List.map_cons, List.map_nil]); first | done | rfl | (simp only [List.length_drop, List.length_take]; rfl)) ?_; (with_reducible refine (table_At.calls _ _ t167 a1 a2 t173 t174 false _ ?side1 ?side2 A38.out).mono ?_); (case side1 => repeat (first | exact (Kd.N_reads' HO_7.out).2.2 | (with_reducible refine Kd.C_alloc ?_ _) | (with_reducible refine Kd.C_drewN ?_ _) | (with_reducible refine Kd.C_drew ?_))); (case side2 => exact (Kd.N_reads' HO_7.out).2.1); rintro e w66 ⟨rfl, hb⟩; refine ⟨_, rfl, ?_⟩; have n0_ := Aside0.mk (Kd.N_below (by (with_reducible repeat (first | apply Kd.N_alloc | apply Kd.N_drewN | apply Kd.N_drew)); exact HO_7.out) hb); have n1_ := Aside0.mk (below_step (by repeat (first | (with_reducible first | exact HB.out | apply below_alloc | apply pw_below_drewN | apply below_drew1) | exact HB.out)) hb); clear HO_7; clear HB; have HO_7 := n0_; have HB := n1_; clear n0_ n1_; (try clear hb); (try clear hb2); (try clear hk); (try clear hi)) | ((with_reducible refine gate_dst (N := 12) rfl ?_); refine box_event ?hg (N := 12) ?hd (cs := #[.int .i64 0, .int .i64 0]) (t := 30) ?hr ?_; (case hd => rfl); (case hg => rfl); (case hr => first | (go_simp; done) | (go_simp; rfl)); intro gb176 hg w67 hbox hb; have n0_ := Aside0.mk (Kd.N_below (Kd.N_elderB (by (with_reducible repeat (first | apply Kd.N_alloc | apply Kd.N_drewN | apply Kd.N_drew)); exact HO_7.out) gb176 (Nat.le_of_eq hg.symm)) hb); have n1_ := Aside0.mk (below_step (by repeat (first | (with_reducible first | exact HB.out | apply below_alloc | apply pw_below_drewN | apply below_drew1) | exact HB.out)) hb); have n2_ := Aside0.mk (hbox); have n3_ := Aside0.mk ((by rw [hg]; exact (below_size (by repeat (first | (with_reducible first | exact HB.out | apply below_alloc | apply pw_below_drewN | apply below_drew1) | exact HB.out))) : w.heap.size ≤ gb176)); have n4_ := Aside0.mk ((by rw [hg]; exact (below_size (by repeat (first | (with_reducible first | exact HB.out | apply below_alloc | apply pw_below_drewN | apply below_drew1) | exact HB.out))) : w.heap.size ≤ gb176)); clear HO_7; clear HB; have HO_7 := n0_; have HB := n1_; have BK176 := n2_; have GW176 := n3_; have GE176 := n4_; clear n0_ n1_ n2_ n3_ n4_; clear hb hbox hg; have hcz68_0 : w67.cell? ⟨gb176, 0, none⟩ = some (.int .i64 0) := (blk_cell BK176.out 0).trans rfl; have hcz68_1 : w67.cell? ⟨gb176, 1, none⟩ = some (.int .i64 0) := (blk_cell BK176.out 1).trans rfl; have hfz68_0 := blk_frozen BK176.out 0; have hfz68_1 := blk_frozen BK176.out 1))
                        go_ret
                        exact ⟨by first | rfl | (simp [errW_none, errW_some] <;> rfl) | (simp [*, errW_none, errW_some] <;> rfl), by repeat (first | (with_reducible first | exact HB.out | apply below_alloc | apply pw_below_drewN | apply below_drew1 | refine below_set ?_ GE176.out) | exact HB.out)⟩
                    · rw [if_neg c59] at H
                      have c59b0 : decide (a2 < 0) = false := decide_eq_false c59
                      clear c59
                      by_cases c69 : a2 ≥ t171
                      · rw [if_pos c69] at H
                        have c69b0 : decide (t171 ≤ a2) = true := decide_eq_true c69
                        clear c69
                        by_cases c70 : t175 = true
                        · subst c70
                          have H1 : (some false) = some r := by rw [if_pos rfl] at H; exact H
                          clear H
                          have H := H1
                          clear H1
                          exact absurd (Option.some.inj H) (by rw [HRT.out]; decide)
                        · replace c70 := Bool.eq_false_iff.mpr c70
                          subst c70
                          have H1 : (some (t173 == a1 && (t174 == 0))) = some r := by rw [if_neg (show ¬ (false = true) by decide)] at H; exact H
                          clear H
                          have H := H1
                          clear H1
                          obtain rfl := Option.some.inj H
                          obtain ⟨Ao75, co75, eo75⟩ := Kd.N_slice HO_7.out
                          subst eo75
                          go_wp2_with (first | ((with_reducible refine gate_callee (f := 17) rfl ?_); refine goesL_ (some 69) rfl rfl Try.func17 (by kernel_rfl) rfl #[.slice Ao75 t167.length co75, .int .i64 a1, .int .i64 a2] rfl (by (try simp only [List.map_toArray, List.map_cons, List.map_nil]); first | done | rfl | (simp only [List.length_drop, List.length_take]; rfl)) ?_; (with_reducible refine (table_At.calls _ _ t167 a1 a2 t173 t174 false _ ?side1 ?side2 A38.out).mono ?_); (case side1 => repeat (first | exact (Kd.N_reads' HO_7.out).2.2 | (with_reducible refine Kd.C_alloc ?_ _) | (with_reducible refine Kd.C_drewN ?_ _) | (with_reducible refine Kd.C_drew ?_))); (case side2 => exact (Kd.N_reads' HO_7.out).2.1); rintro e w76 ⟨rfl, hb⟩; refine ⟨_, rfl, ?_⟩; have n0_ := Aside0.mk (Kd.N_below (by (with_reducible repeat (first | apply Kd.N_alloc | apply Kd.N_drewN | apply Kd.N_drew)); exact HO_7.out) hb); have n1_ := Aside0.mk (below_step (by repeat (first | (with_reducible first | exact HB.out | apply below_alloc | apply pw_below_drewN | apply below_drew1) | exact HB.out)) hb); clear HO_7; clear HB; have HO_7 := n0_; have HB := n1_; clear n0_ n1_; (try clear hb); (try clear hb2); (try clear hk); (try clear hi)) | ((with_reducible refine gate_dst (N := 12) rfl ?_); refine box_event ?hg (N := 12) ?hd (cs := #[.int .i64 0, .int .i64 0]) (t := 30) ?hr ?_; (case hd => rfl); (case hg => rfl); (case hr => first | (go_simp; done) | (go_simp; rfl)); intro gb176 hg w77 hbox hb; have n0_ := Aside0.mk (Kd.N_below (Kd.N_elderB (by (with_reducible repeat (first | apply Kd.N_alloc | apply Kd.N_drewN | apply Kd.N_drew)); exact HO_7.out) gb176 (Nat.le_of_eq hg.symm)) hb); have n1_ := Aside0.mk (below_step (by repeat (first | (with_reducible first | exact HB.out | apply below_alloc | apply pw_below_drewN | apply below_drew1) | exact HB.out)) hb); have n2_ := Aside0.mk (hbox); have n3_ := Aside0.mk ((by rw [hg]; exact (below_size (by repeat (first | (with_reducible first | exact HB.out | apply below_alloc | apply pw_below_drewN | apply below_drew1) | exact HB.out))) : w.heap.size ≤ gb176)); have n4_ := Aside0.mk ((by rw [hg]; exact (below_size (by repeat (first | (with_reducible first | exact HB.out | apply below_alloc | apply pw_below_drewN | apply below_drew1) | exact HB.out))) : w.heap.size ≤ gb176)); clear HO_7; clear HB; have HO_7 := n0_; have HB := n1_; have BK176 := n2_; have GW176 := n3_; have GE176 := n4_; clear n0_ n1_ n2_ n3_ n4_; clear hb hbox hg; have hcz78_0 : w77.cell? ⟨gb176, 0, none⟩ = some (.int .i64 0) := (blk_cell BK176.out 0).trans rfl; have hcz78_1 : w77.cell? ⟨gb176, 1, none⟩ = some (.int .i64 0) := (blk_cell BK176.out 1).trans rfl; have hfz78_0 := blk_frozen BK176.out 0; have hfz78_1 := blk_frozen BK176.out 1))
                          go_ret
                          exact ⟨by first | rfl | (simp [errW_none, errW_some] <;> rfl) | (simp [*, errW_none, errW_some] <;> rfl), by repeat (first | (with_reducible first | exact HB.out | apply below_alloc | apply pw_below_drewN | apply below_drew1 | refine below_set ?_ GE176.out) | exact HB.out)⟩
                      · rw [if_neg c69] at H
                        have c69b0 : decide (t171 ≤ a2) = false := decide_eq_false c69
                        clear c69
                        by_cases c79 : t175 = true
                        · subst c79
                          have H1 : (if 0 ≤ a1 then (if a1 < (t167.length : Int) then (if 0 ≤ a2 then (if a2 < ((rd_L2 t167 a1).length : Int) then (some (t173 == ((rd_T30 (rd_L2 t167 a1) a2).f0) && (t174 == ((rd_T30 (rd_L2 t167 a1) a2).f1)))) else (none)) else (none)) else (none)) else (none)) = some r := by rw [if_pos rfl] at H; exact H
                          clear H
                          have H := H1
                          clear H1
                          by_cases c80 : 0 ≤ a1
                          · rw [if_pos c80] at H
                            have c80b0 : decide (0 ≤ a1) = true := decide_eq_true c80
                            clear c80
                            by_cases c81 : a1 < (t167.length : Int)
                            · rw [if_pos c81] at H
                              have c81b0 : decide (a1 < (t167.length : Int)) = true := decide_eq_true c81
                              clear c81
                              by_cases c82 : 0 ≤ a2
                              · rw [if_pos c82] at H
                                have c82b0 : decide (0 ≤ a2) = true := decide_eq_true c82
                                clear c82
                                by_cases c83 : a2 < ((rd_L2 t167 a1).length : Int)
                                · rw [if_pos c83] at H
                                  have c83b0 : decide (a2 < ((rd_L2 t167 a1).length : Int)) = true := decide_eq_true c83
                                  clear c83
                                  obtain rfl := Option.some.inj H
                                  obtain ⟨Ao84, co84, eo84⟩ := Kd.N_slice HO_7.out
                                  subst eo84
                                  try go_wp2_with (first | ((with_reducible refine gate_callee (f := 17) rfl ?_); refine goesL_ (some 69) rfl rfl Try.func17 (by kernel_rfl) rfl #[.slice Ao84 t167.length co84, .int .i64 a1, .int .i64 a2] rfl (by (try simp only [List.map_toArray, List.map_cons, List.map_nil]); first | done | rfl | (simp only [List.length_drop, List.length_take]; rfl)) ?_; (with_reducible refine (table_At.calls _ _ t167 a1 a2 t173 t174 true _ ?side1 ?side2 A38.out).mono ?_); (case side1 => repeat (first | exact (Kd.N_reads' HO_7.out).2.2 | (with_reducible refine Kd.C_alloc ?_ _) | (with_reducible refine Kd.C_drewN ?_ _) | (with_reducible refine Kd.C_drew ?_))); (case side2 => exact (Kd.N_reads' HO_7.out).2.1); rintro e w85 ⟨rfl, hb⟩; refine ⟨_, rfl, ?_⟩; have n0_ := Aside0.mk (Kd.N_below (by (with_reducible repeat (first | apply Kd.N_alloc | apply Kd.N_drewN | apply Kd.N_drew)); exact HO_7.out) hb); have n1_ := Aside0.mk (below_step (by repeat (first | (with_reducible first | exact HB.out | apply below_alloc | apply pw_below_drewN | apply below_drew1) | exact HB.out)) hb); clear HO_7; clear HB; have HO_7 := n0_; have HB := n1_; clear n0_ n1_; (try clear hb); (try clear hb2); (try clear hk); (try clear hi)) | ((with_reducible refine gate_dst (N := 12) rfl ?_); refine box_event ?hg (N := 12) ?hd (cs := #[.int .i64 0, .int .i64 0]) (t := 30) ?hr ?_; (case hd => rfl); (case hg => rfl); (case hr => first | (go_simp; done) | (go_simp; rfl)); intro gb176 hg w86 hbox hb; have n0_ := Aside0.mk (Kd.N_below (Kd.N_elderB (by (with_reducible repeat (first | apply Kd.N_alloc | apply Kd.N_drewN | apply Kd.N_drew)); exact HO_7.out) gb176 (Nat.le_of_eq hg.symm)) hb); have n1_ := Aside0.mk (below_step (by repeat (first | (with_reducible first | exact HB.out | apply below_alloc | apply pw_below_drewN | apply below_drew1) | exact HB.out)) hb); have n2_ := Aside0.mk (hbox); have n3_ := Aside0.mk ((by rw [hg]; exact (below_size (by repeat (first | (with_reducible first | exact HB.out | apply below_alloc | apply pw_below_drewN | apply below_drew1) | exact HB.out))) : w.heap.size ≤ gb176)); have n4_ := Aside0.mk ((by rw [hg]; exact (below_size (by repeat (first | (with_reducible first | exact HB.out | apply below_alloc | apply pw_below_drewN | apply below_drew1) | exact HB.out))) : w.heap.size ≤ gb176)); clear HO_7; clear HB; have HO_7 := n0_; have HB := n1_; have BK176 := n2_; have GW176 := n3_; have GE176 := n4_; clear n0_ n1_ n2_ n3_ n4_; clear hb hbox hg; have hcz87_0 : w86.cell? ⟨gb176, 0, none⟩ = some (.int .i64 0) := (blk_cell BK176.out 0).trans rfl; have hcz87_1 : w86.cell? ⟨gb176, 1, none⟩ = some (.int .i64 0) := (blk_cell BK176.out 1).trans rfl; have hfz87_0 := blk_frozen BK176.out 0; have hfz87_1 := blk_frozen BK176.out 1))
                                  have n0_ : Aside0 (Kd.N (Kd.slice 30 k30) 27 ((w86.setCell ⟨gb176, 0, none⟩ (.int .i64 t173)).setCell ⟨gb176, 1, none⟩ (.int .i64 t174)) w.heap.size (fun k_ => k_ ≠ gb176) (.slice Ao84 t167.length co84) t167) := ⟨by (with_reducible repeat (first | apply Kd.N_alloc | apply Kd.N_drewN | apply Kd.N_drew)); exact Kd.N_mono (Kd.N_far (p := ⟨gb176, 1, none⟩) (Kd.N_far (p := ⟨gb176, 0, none⟩) (Kd.N_mono HO_7.out (fun k_ hk => (⟨hk, hk.2⟩ : _ ∧ k_ ≠ gb176))) (fun _ hk => hk.2) (.int .i64 t173)) (fun _ hk => hk.2) (.int .i64 t174)) (fun _ hk => hk.1.2)⟩
                                  have n1_ : Aside0 (((w86.setCell ⟨gb176, 0, none⟩ (.int .i64 t173)).setCell ⟨gb176, 1, none⟩ (.int .i64 t174)).heap[gb176]? = some (.cells #[.int .i64 t173, .int .i64 t174] 30 (0, 0))) := ⟨by (with_reducible repeat (first | refine blk_drewN ?_ _ | refine blk_drew ?_ | refine blk_alloc ?_ _)); refine blk_put (cs := #[.int .i64 t173, .int .i64 0]) ?_ 1 _ rfl; (with_reducible repeat (first | refine blk_drewN ?_ _ | refine blk_drew ?_ | refine blk_alloc ?_ _)); refine blk_put (cs := #[.int .i64 0, .int .i64 0]) ?_ 0 _ rfl; (with_reducible repeat (first | refine blk_drewN ?_ _ | refine blk_drew ?_ | refine blk_alloc ?_ _)); exact BK176.out⟩
                                  have n2_ : Aside0 (Below w.heap.size w ((w86.setCell ⟨gb176, 0, none⟩ (.int .i64 t173)).setCell ⟨gb176, 1, none⟩ (.int .i64 t174))) := ⟨by repeat (first | (with_reducible first | exact HB.out | apply below_alloc | apply pw_below_drewN | apply below_drew1 | refine below_set ?_ GE176.out) | exact HB.out)⟩
                                  (try clear HO_7)
                                  (try clear BK176)
                                  (try clear HB)
                                  generalize ((w86.setCell ⟨gb176, 0, none⟩ (.int .i64 t173)).setCell ⟨gb176, 1, none⟩ (.int .i64 t174)) = w88 at n0_ n1_ n2_ ⊢
                                  have HO_7 := n0_
                                  have BK176 := n1_
                                  have HB := n2_
                                  clear n0_ n1_ n2_
                                  have n0_ := Aside0.mk (Kd.N_drew HO_7.out)
                                  have n1_ := Aside0.mk (blk_drew BK176.out)
                                  have n2_ := Aside0.mk (below_drew1 HB.out)
                                  clear HO_7
                                  clear BK176
                                  clear HB
                                  have HO_7 := n0_
                                  have BK176 := n1_
                                  have HB := n2_
                                  clear n0_ n1_ n2_
                                  have p177 : 0 ≤ (a1 : Int) := of_decide_eq_true (by first | (with_reducible assumption) | assumption)
                                  have q177 : a1 < (t167.length : Int) := of_decide_eq_true (by first | (with_reducible assumption) | assumption)
                                  obtain ⟨ad177, A177_0, c177_0, e177, hx177_0, hl177_0, hi177_0⟩ := at_L2 (Kd.N_reads' HO_7.out).2.2 a1 p177 q177
                                  cases e177
                                  obtain ⟨ce177, hce177, hMe177, hcc177⟩ := Kd.N_get HO_7.out [] a1 p177 (by first | exact q177 | exact of_decide_eq_true (by first | (with_reducible assumption) | assumption) | (have e_ := (Kd.N_reads' HO_7.out).1; omega))
                                  obtain ⟨ua177_0, uc177_0, rfl, ul177_0, ge177_0⟩ := Kd.FK_slice_open hMe177
                                  have hv177_0 := hcc177 0 _ rfl
                                  rw [Nat.add_zero, show ((Kd.slice 30 k30)).sz = 1 from rfl, Nat.mul_one] at hv177_0
                                  replace hv177_0 := Option.some.inj (hv177_0.symm.trans hx177_0)
                                  injection hv177_0 with hva_ hvn_ hvc_
                                  rw [hva_] at ge177_0
                                  rw [hvc_] at ul177_0
                                  have HL177_0 := Aside0.mk (show Kd.V k30 30 _ w.heap.size _ _ (rd_L2 t167 a1) from Kd.V_mk ul177_0 ge177_0)
                                  clear hva_ hvn_ hvc_ ge177_0 ul177_0
                                  clear hcc177 hce177
                                  have HR177_0 := Aside0.mk hi177_0
                                  have HC177_0 := Aside0.mk hl177_0
                                  clear hi177_0 hl177_0
                                  replace p177 := eq_true p177
                                  replace q177 := eq_true q177
                                  have p178 : 0 ≤ (a2 : Int) := of_decide_eq_true (by first | (with_reducible assumption) | assumption)
                                  have q178 : a2 < ((rd_L2 t167 a1).length : Int) := of_decide_eq_true (by first | (with_reducible assumption) | assumption)
                                  obtain ⟨ad178, e178, hx178_0, hx178_1⟩ := at_T30 (by repeat (first | (with_reducible exact HR177_0.out) | (with_reducible refine Kd.C_alloc ?_ _) | (with_reducible refine Kd.C_drewN ?_ _) | (with_reducible refine Kd.C_drew ?_) | exact HR177_0.out)) a2 p178 q178
                                  cases e178
                                  replace p178 := eq_true p178
                                  replace q178 := eq_true q178
                                  refine start_ (n := 13) (S := fun w' => w'.cell? ⟨gb176, 0, none⟩ = some (.int .i64 t173) ∧ w'.cell? ⟨gb176, 1, none⟩ = some (.int .i64 t174) ∧ w'.cell? (ad177.add (a1).toNat) = some (.slice (some ad178) (rd_L2 t167 a1).length c177_0) ∧ w'.cell? (ad178.add ((a2).toNat * 2)) = some (.int .i64 ((rd_T30 (rd_L2 t167 a1) a2).f0)) ∧ w'.cell? ⟨(ad178.add ((a2).toNat * 2)).block, (ad178.add ((a2).toNat * 2)).off + 1, none⟩ = some (.int .i64 ((rd_T30 (rd_L2 t167 a1) a2).f1))) (ds := []) #[false, false, false, false, false, false, false, false, false, false, false, false, false] (by kernel_rfl) rfl rfl ⟨(blk_cell BK176.out 0).trans rfl, (blk_cell BK176.out 1).trans rfl, hx177_0, hx178_0, hx178_1⟩ (fun hHeld => ?_); refine with_tabW kissgatelaw13_TableIs.tab20 kissgatelaw13_TableIs.bits20 (fun HT_ HW_ => ?_)
                                  generalize w88.drew = w89 at HO_7 BK176 HB HL177_0 HR177_0 hx177_0 hx178_0 hx178_1 hHeld ⊢
                                  refine pure_ (i := 0) (N := some 96) (v := ?_) (a' := ?_) #[true, false, false, false, false, false, false, false, false, false, false, false, false] rfl rfl (any_of HT_.out (by kernel_rfl)) (fun _ _ _ h => h) (Or.inl ⟨by rfl, ?_⟩) ?_ ?_
                                  rotate_left
                                  · intro w'
                                    go_simp
                                    with_reducible rfl
                                  rotate_left
                                  · simp only [Act.put, List.setIfInBounds_toArray, List.set_cons_zero, List.set_cons_succ, i64_w, i32_w]
                                    rfl
                                  refine pure_ (i := 1) (N := some 97) (v := ?_) (a' := ?_) #[true, true, false, false, false, false, false, false, false, false, false, false, false] rfl rfl (any_of HT_.out (by kernel_rfl)) (fun _ _ _ h => h) (Or.inl ⟨by rfl, ?_⟩) ?_ ?_
                                  rotate_left
                                  · intro w'
                                    go_simp
                                    with_reducible rfl
                                  rotate_left
                                  · simp only [Act.put, List.setIfInBounds_toArray, List.set_cons_zero, List.set_cons_succ, i64_w, i32_w]
                                    rfl
                                  refine pure_ (i := 3) (N := some 99) (v := ?_) (a' := ?_) #[true, true, false, true, false, false, false, false, false, false, false, false, false] rfl rfl (any_of HT_.out (by kernel_rfl)) (fun _ _ _ h => h) (Or.inl ⟨by rfl, ?_⟩) ?_ ?_
                                  rotate_left
                                  · intro w'
                                    go_simp
                                    with_reducible rfl
                                  rotate_left
                                  · simp only [Act.put, List.setIfInBounds_toArray, List.set_cons_zero, List.set_cons_succ, i64_w, i32_w]
                                    rfl
                                  refine pure_ (i := 4) (N := some 100) (v := ?_) (a' := ?_) #[true, true, false, true, true, false, false, false, false, false, false, false, false] rfl rfl (any_of HT_.out (by kernel_rfl)) (fun _ _ _ h => h) (Or.inl ⟨by rfl, ?_⟩) ?_ ?_
                                  rotate_left
                                  · intro w'
                                    go_simp
                                    with_reducible rfl
                                  rotate_left
                                  · simp only [Act.put, List.setIfInBounds_toArray, List.set_cons_zero, List.set_cons_succ, i64_w, i32_w]
                                    rfl
                                  refine pure_ (i := 5) (N := some 101) (v := ?_) (a' := ?_) #[true, true, false, true, true, true, false, false, false, false, false, false, false] rfl rfl (any_of HT_.out (by kernel_rfl)) (fun _ _ _ h => h) (Or.inl ⟨by rfl, ?_⟩) ?_ ?_
                                  rotate_left
                                  · intro w'
                                    go_simp
                                    with_reducible rfl
                                  rotate_left
                                  · simp only [Act.put, List.setIfInBounds_toArray, List.set_cons_zero, List.set_cons_succ, i64_w, i32_w]
                                    rfl
                                  refine pure_ (i := 7) (N := some 103) (v := ?_) (a' := ?_) #[true, true, false, true, true, true, false, true, false, false, false, false, false] rfl rfl (any_of HT_.out (by kernel_rfl)) (fun _ _ _ h => h) (Or.inl ⟨by rfl, ?_⟩) ?_ ?_
                                  rotate_left
                                  · intro w'
                                    go_simp
                                    with_reducible rfl
                                  rotate_left
                                  · simp only [Act.put, List.setIfInBounds_toArray, List.set_cons_zero, List.set_cons_succ, i64_w, i32_w]
                                    rfl
                                  refine take_ (i := 2) (N := some 98) (v := ?_) (a' := ?_) #[true, true, true, true, true, true, false, true, false, false, false, false, false] rfl rfl (take_ofW HT_.out HW_.out (by kernel_rfl)) (fun _ _ _ h => h) (Or.inl ⟨by rfl, ?_⟩) hHeld ?_ ?_
                                  rotate_left
                                  · rintro w' ⟨s0, s1, s2, s3, s4⟩
                                    go_simp
                                    with_reducible rfl
                                  rotate_left
                                  · simp only [Act.put, List.setIfInBounds_toArray, List.set_cons_zero, List.set_cons_succ, i64_w, i32_w]
                                    rfl
                                  refine take_ (i := 6) (N := some 102) (v := ?_) (a' := ?_) #[true, true, true, true, true, true, true, true, false, false, false, false, false] rfl rfl (take_ofW HT_.out HW_.out (by kernel_rfl)) (fun _ _ _ h => h) (Or.inl ⟨by rfl, ?_⟩) hHeld ?_ ?_
                                  rotate_left
                                  · rintro w' ⟨s0, s1, s2, s3, s4⟩
                                    go_simp
                                    with_reducible rfl
                                  rotate_left
                                  · simp only [Act.put, List.setIfInBounds_toArray, List.set_cons_zero, List.set_cons_succ, i64_w, i32_w]
                                    rfl
                                  refine pure_ (i := 8) (N := some 104) (v := ?_) (a' := ?_) #[true, true, true, true, true, true, true, true, true, false, false, false, false] rfl rfl (any_of HT_.out (by kernel_rfl)) (fun _ _ _ h => h) (Or.inl ⟨by rfl, ?_⟩) ?_ ?_
                                  rotate_left
                                  · intro w'
                                    go_simp
                                    with_reducible rfl
                                  rotate_left
                                  · simp only [Act.put, List.setIfInBounds_toArray, List.set_cons_zero, List.set_cons_succ, i64_w, i32_w]
                                    rfl
                                  refine take_ (i := 9) (N := some 105) (v := ?_) (a' := ?_) #[true, true, true, true, true, true, true, true, true, true, false, false, false] rfl rfl (take_ofW HT_.out HW_.out (by kernel_rfl)) (fun _ _ _ h => h) (Or.inl ⟨by rfl, ?_⟩) hHeld ?_ ?_
                                  rotate_left
                                  · rintro w' ⟨s0, s1, s2, s3, s4⟩
                                    go_simp
                                    with_reducible rfl
                                  rotate_left
                                  · simp only [Act.put, List.setIfInBounds_toArray, List.set_cons_zero, List.set_cons_succ, i64_w, i32_w]
                                    rfl
                                  refine pure_ (i := 10) (N := some 106) (v := ?_) (a' := ?_) #[true, true, true, true, true, true, true, true, true, true, true, false, false] rfl rfl (any_of HT_.out (by kernel_rfl)) (fun _ _ _ h => h) (Or.inl ⟨by rfl, ?_⟩) ?_ ?_
                                  rotate_left
                                  · intro w'
                                    go_simp
                                    with_reducible rfl
                                  rotate_left
                                  · simp only [Act.put, List.setIfInBounds_toArray, List.set_cons_zero, List.set_cons_succ, i64_w, i32_w]
                                    rfl
                                  refine pure_ (i := 11) (N := some 107) (v := ?_) (a' := ?_) #[true, true, true, true, true, true, true, true, true, true, true, true, false] rfl rfl (any_of HT_.out (by kernel_rfl)) (fun _ _ _ h => h) (Or.inl ⟨by rfl, ?_⟩) ?_ ?_
                                  rotate_left
                                  · intro w'
                                    go_simp
                                    with_reducible rfl
                                  rotate_left
                                  · simp only [Act.put, List.setIfInBounds_toArray, List.set_cons_zero, List.set_cons_succ, i64_w, i32_w]
                                    rfl
                                  refine pure_ (i := 12) (N := some 6) (v := ?_) (a' := ?_) #[true, true, true, true, true, true, true, true, true, true, true, true, true] rfl rfl (any_of HT_.out (by kernel_rfl)) (fun _ _ _ h => h) (Or.inl ⟨by rfl, ?_⟩) ?_ ?_
                                  rotate_left
                                  · intro w'
                                    go_simp
                                    with_reducible rfl
                                  rotate_left
                                  · simp only [Act.put, List.setIfInBounds_toArray, List.set_cons_zero, List.set_cons_succ, i64_w, i32_w]
                                    rfl
                                  refine done_ (done_of HT_.out (by kernel_rfl)) ?_
                                  try go_wp2
                                  go_ret
                                  exact ⟨by first | rfl | (simp [errW_none, errW_some] <;> rfl) | (simp [*, errW_none, errW_some] <;> rfl), by repeat (first | (with_reducible first | exact HB.out | apply below_alloc | apply pw_below_drewN | apply below_drew1 | refine below_set ?_ GE176.out) | exact HB.out)⟩
                                · rw [if_neg c83] at H
                                  exact absurd H (by simp)
                              · rw [if_neg c82] at H
                                exact absurd H (by simp)
                            · rw [if_neg c81] at H
                              exact absurd H (by simp)
                          · rw [if_neg c80] at H
                            exact absurd H (by simp)
                        · replace c79 := Bool.eq_false_iff.mpr c79
                          subst c79
                          have H1 : (some false) = some r := by rw [if_neg (show ¬ (false = true) by decide)] at H; exact H
                          clear H
                          have H := H1
                          clear H1
                          exact absurd (Option.some.inj H) (by rw [HRT.out]; decide)
  · replace c5 := Bool.eq_false_iff.mpr c5
    subst c5
    have H1 : (some false) = some r := by rw [if_neg (show ¬ (false = true) by decide)] at H; exact H
    clear H
    have H := H1
    clear H1
    exact absurd (Option.some.inj H) (by rw [HRT.out]; decide)end Go.Proofs.Ytbcngajkokjfjaa.QTabI
namespace Go.Proofs.Ytbcngajkokjfjaa.Opn
open Go.ChangeShapes Go.WideShapes Go.Proofs.YtbcngajkokjfjaaW.PrintWords
variable {P : Program}
theorem arg_int {t : TypeId} {k : IntKind} (hu : P.underlying t = some (.int k))
    {H : Type} {enc : TypeId × Value → H} {w : World} {r : Reach} {b0 : Nat} {v : Value} {x : DataW H} {ps : List MemPlace} (hv : Value.okWide P w r b0 t v)
    (h : DataW.Trod enc P w 0 (fun _ => true) true t v x ps) : ∃ n, v = .int k n ∧ (Lit.int k n).wf = true := by
  obtain ⟨n, rfl⟩ := okWide_int hu hv
  obtain ⟨fuel, hf⟩ := h
  obtain ⟨m, hcs, _, hw⟩ := DataW.trod_int hu hf
  simp only [Value.cells] at hcs
  have e : n = m := by simpa using hcs
  subst e
  exact ⟨n, rfl, hw⟩
theorem arg_bool {t : TypeId} (hu : P.underlying t = some .bool) {w : World} {r : Reach} {b0 : Nat} {v : Value} (hv : Value.okWide P w r b0 t v) : ∃ b, v = .bool b := okWide_bool hu hv
end Go.Proofs.Ytbcngajkokjfjaa.Opn
namespace Go.Proofs.Ytbcngajkokjfjaa.tableIs
open Go.RowKit Go.Proofs.YtbcngajkokjfjaaW.PrintWords Go.Proofs.YtbcngajkokjfjaaW.PrintLast Go.Proofs.YtbcngajkokjfjaaW.PrintMore Go.Proofs.Ytbcngajkokjfjaa.QTabI
set_option linter.unusedVariables false
def Pure : Prop := ∀ (x0 : Bool) (x1 : Int) (x2 : Int), (Lit.int .i64 x1).wf = true → (Lit.int .i64 x2).wf = true → ∃ k, kissgatelaw13_TableIs.f k x0 x1 x2 = some true
end Go.Proofs.Ytbcngajkokjfjaa.tableIs
namespace Go.Proofs.Ytbcngajkokjfjaa.TabIR
open Go.RowKit Go.Proofs.Ytbcngajkokjfjaa.QTabI Go.Proofs.YtbcngajkokjfjaaW.PrintWords Go.Proofs.YtbcngajkokjfjaaW.PrintLast
def cellAt (t : List (List S30)) (st e : Int) : Option S30 :=
  if 0 ≤ st ∧ st < t.length ∧ 0 ≤ e ∧ e < (rd_L2 t st).length then some (rd_T30 (rd_L2 t st) e) else none
theorem at_some {t : List (List S30)} {st e : Int} {c : S30} (h : cellAt t st e = some c) : table_At.f t st e = some (c.f0, c.f1, true) := by
  unfold cellAt at h
  split at h
  · rename_i hc
    obtain ⟨h1, h2, h3, h4⟩ := hc
    cases h
    unfold table_At.f
    rw [if_neg (by omega), if_neg (by omega), if_neg (by omega), if_pos h1, if_pos h2, if_neg (by omega), if_pos h3, if_pos h4]
  · cases h
theorem at_none {t : List (List S30)} {st e : Int} (h : cellAt t st e = none) : table_At.f t st e = some (st, 0, false) := by
  unfold cellAt at h
  split at h
  · cases h
  · rename_i hc
    unfold table_At.f
    by_cases a : st < 0
    · rw [if_pos a]
    · rw [if_neg a]
      by_cases b : st ≥ (t.length : Int)
      · rw [if_pos b]
      · rw [if_neg b]
        by_cases c : e < 0
        · rw [if_pos c]
        · rw [if_neg c, if_pos (by omega), if_pos (by omega)]
          rw [if_pos (by
            apply Classical.byContradiction
            intro d
            exact hc ⟨by omega, by omega, by omega, by omega⟩)]
end Go.Proofs.Ytbcngajkokjfjaa.TabIR
namespace Go.Proofs.Ytbcngajkokjfjaa.tableIs
open Go.RowKit Go.Proofs.YtbcngajkokjfjaaW.PrintWords Go.Proofs.YtbcngajkokjfjaaW.PrintLast Go.Proofs.YtbcngajkokjfjaaW.PrintMore Go.Proofs.Ytbcngajkokjfjaa.QTabI Go.Proofs.Ytbcngajkokjfjaa.TabIR
def reg : List (List S30) := [[⟨2, 3⟩, ⟨0, 0⟩, ⟨0, 0⟩, ⟨0, 0⟩, ⟨0, 0⟩], [⟨2, 2⟩, ⟨1, 0⟩, ⟨1, 0⟩, ⟨0, 4⟩, ⟨0, 4⟩], [⟨2, 0⟩, ⟨1, 1⟩, ⟨1, 1⟩, ⟨2, 0⟩, ⟨0, 4⟩]]
def app : List (List S30) := [[⟨1, 0⟩, ⟨0, 0⟩, ⟨0, 0⟩, ⟨0, 0⟩, ⟨0, 0⟩, ⟨1, 0⟩], [⟨1, 0⟩, ⟨4, 0⟩, ⟨1, 0⟩, ⟨1, 0⟩, ⟨2, 1⟩, ⟨1, 0⟩], [⟨2, 0⟩, ⟨4, 0⟩, ⟨2, 0⟩, ⟨2, 0⟩, ⟨3, 2⟩, ⟨1, 0⟩], [⟨3, 0⟩, ⟨4, 0⟩, ⟨2, 0⟩, ⟨2, 0⟩, ⟨3, 0⟩, ⟨1, 0⟩], [⟨2, 0⟩, ⟨4, 0⟩, ⟨4, 0⟩, ⟨4, 0⟩, ⟨0, 3⟩, ⟨1, 0⟩]]
theorem alive : Ev (fun k => kissgatelaw13_alive.f k) true := Ev.of kissgatelaw13_alive.mono (k := 8) (by decide +kernel)
theorem reg_loop (a e : Int) : kissgatelaw13_TableIs.l0 60 false a e reg 3 5 0 = kissgatelaw13_TableIs.l0 39 false a e reg 3 5 3 := by kernel_rfl
theorem app_loop (a e : Int) : kissgatelaw13_TableIs.l0 60 true a e app 5 6 0 = kissgatelaw13_TableIs.l0 20 true a e app 5 6 5 := by kernel_rfl
theorem fin (ap : Bool) (t : List (List S30)) (n m a e : Int) (hn : n = t.length) (hm : ∀ i : Int, 0 ≤ i → i < n → ((rd_L2 t i).length : Int) = m) (k : Nat) : kissgatelaw13_TableIs.l0 (k + 1) ap a e t n m n = some true := by
  subst hn
  rw [kissgatelaw13_TableIs.l0, if_neg (by omega)]
  by_cases h1 : a < 0
  · have hc : cellAt t a e = none := by unfold cellAt; rw [if_neg (by omega)]
    rw [at_none hc, Option.bind_some, if_pos h1, if_neg (by simp), beq_self_eq_true, beq_self_eq_true]; rfl
  · by_cases h2 : a ≥ t.length
    · have hc : cellAt t a e = none := by unfold cellAt; rw [if_neg (by omega)]
      rw [at_none hc, Option.bind_some, if_neg h1, if_pos h2, if_neg (by simp), beq_self_eq_true, beq_self_eq_true]; rfl
    · have hrow := hm a (by omega) (by omega)
      by_cases h3 : e < 0
      · have hc : cellAt t a e = none := by unfold cellAt; rw [if_neg (by omega)]
        rw [at_none hc, Option.bind_some, if_neg h1, if_neg h2, if_pos h3, if_neg (by simp), beq_self_eq_true, beq_self_eq_true]; rfl
      · by_cases h4 : e ≥ m
        · have hc : cellAt t a e = none := by unfold cellAt; rw [if_neg (by omega)]
          rw [at_none hc, Option.bind_some, if_neg h1, if_neg h2, if_neg h3, if_pos h4, if_neg (by simp), beq_self_eq_true, beq_self_eq_true]; rfl
        · have hc : cellAt t a e = some (rd_T30 (rd_L2 t a) e) := by unfold cellAt; rw [if_pos (by omega)]
          rw [at_some hc, Option.bind_some, if_neg h1, if_neg h2, if_neg h3, if_neg h4, if_pos rfl, if_pos (by omega), if_pos (by omega), if_pos (by omega), if_pos (by omega), beq_self_eq_true, beq_self_eq_true]; rfl
theorem pure : Pure := by
  intro ap a e _ _
  refine Ev.rounds ?_
  unfold kissgatelaw13_TableIs.f
  refine Ev.bind alive ?_
  simp only [if_true]
  cases ap with
  | false =>
    have h1 : kissgatelaw13_one.f false = some reg := rfl
    have h2 : kissgateref13_States.f false = some 3 := rfl
    have h3 : kissgateref13_Events.f false = some 5 := rfl
    rw [h1, h2, h3]
    simp only [Option.bind_some]
    refine Ev.congr (fun k => by rw [if_pos (by rfl)]) ?_
    refine Ev.bind (Ev.of (fun k => table_Good.mono _ k) (k := 60) (r := true) (by decide +kernel)) ?_
    refine Ev.step (fun k => by rw [kissgatelaw13_TableIs.j0, if_neg (by decide)]) ?_
    refine Ev.of (fun k => (kissgatelaw13_TableIs.mono_l k).2.1 _ _ _ _ _ _ _) (k := 60) ?_
    rw [reg_loop]
    refine fin false reg 3 5 a e rfl (fun i h0 h1 => ?_) 38
    have : i = 0 ∨ i = 1 ∨ i = 2 := by omega
    rcases this with rfl | rfl | rfl <;> rfl
  | true =>
    have h1 : kissgatelaw13_one.f true = some app := rfl
    have h2 : kissgateref13_States.f true = some 5 := rfl
    have h3 : kissgateref13_Events.f true = some 6 := rfl
    rw [h1, h2, h3]
    simp only [Option.bind_some]
    refine Ev.congr (fun k => by rw [if_pos (by rfl)]) ?_
    refine Ev.bind (Ev.of (fun k => table_Good.mono _ k) (k := 90) (r := true) (by decide +kernel)) ?_
    refine Ev.step (fun k => by rw [kissgatelaw13_TableIs.j0, if_neg (by decide)]) ?_
    refine Ev.of (fun k => (kissgatelaw13_TableIs.mono_l k).2.1 _ _ _ _ _ _ _) (k := 60) ?_
    rw [app_loop]
    refine fin true app 5 6 a e rfl (fun i h0 h1 => ?_) 19
    have : i = 0 ∨ i = 1 ∨ i = 2 ∨ i = 3 ∨ i = 4 := by omega
    rcases this with rfl | rfl | rfl | rfl | rfl <;> rfl
end Go.Proofs.Ytbcngajkokjfjaa.tableIs
