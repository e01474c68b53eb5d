/- Functions of the program as plain Lean functions, what their calls do, and what follows of it. Conditions: each theorem's own. -/
import Derived.Test.YtbcngajkokjfjaaCTableReach0
namespace Go.Proofs.Ytbcngajkokjfjaa.QRea
open Go.RowKit Go.Proofs.YtbcngajkokjfjaaW.PrintWords Go.Proofs.YtbcngajkokjfjaaW.PrintLast Go.Proofs.YtbcngajkokjfjaaW.PrintMore
attribute [local go_sem] max2_int min2_int max_two min_two max_three min_three max_four min_four
set_option linter.unusedVariables false
set_option linter.unusedSimpArgs false
mutual
def kissgatelaw13_TableReach.j0 : Nat → List (List (S30)) → Int → List Int → Bool → Option (Bool)
  | 0, _, _, _, _ => none
  | k + 1, x0, x1, x5, x27 => if x27 = true then (some ((x5.length : Int) == 0)) else (if 0 ≤ (x0.length : Int) then (if ((x0.length : Int) : Int).toNat ≤ 281474976710656 then ((some (List.replicate ((x0.length : Int) : Int).toNat false : List Bool)).bind fun y187 => (if 0 ≤ x1 then (if x1 < (y187.length : Int) then (kissgatelaw13_TableReach.l0 k x0 x5 (y187.set (x1 : Int).toNat true) (x0.length : Int) 0) else (none)) else (none))) else (none)) else (none))
def kissgatelaw13_TableReach.l0 : Nat → List (List (S30)) → List Int → List Bool → Int → Int → Option (Bool)
  | 0, _, _, _, _, _ => none
  | k + 1, x0, x5, x6, x38, x39 => if x39 < x38 then (kissgatelaw13_TableReach.l1 k x0 x5 x6 x38 x39 x0 (x0.length : Int) 0) else (kissgatelaw13_TableReach.l3 k x5 x6 ([] : List Int) (x0.length : Int) 0)
def kissgatelaw13_TableReach.l1 : Nat → List (List (S30)) → List Int → List Bool → Int → Int → List (List (S30)) → Int → Int → Option (Bool)
  | 0, _, _, _, _, _, _, _, _ => none
  | k + 1, x0, x5, x6, x38, x39, x41, x42, x43 => if x43 < x42 then (if 0 ≤ x43 then (if x43 < (x41.length : Int) then (kissgatelaw13_TableReach.l2 k x0 x5 x6 x43 x38 x39 x41 x42 x43 (rd_L2 x41 x43) ((rd_L2 x41 x43).length : Int) 0) else (none)) else (none)) else (kissgatelaw13_TableReach.l0 k x0 x5 x6 x38 (wrap64 (x39 + 1)))
def kissgatelaw13_TableReach.l2 : Nat → List (List (S30)) → List Int → List Bool → Int → Int → Int → List (List (S30)) → Int → Int → List (S30) → Int → Int → Option (Bool)
  | 0, _, _, _, _, _, _, _, _, _, _, _, _ => none
  | k + 1, x0, x5, x6, x7, x38, x39, x41, x42, x43, x48, x49, x50 => if x50 < x49 then (if 0 ≤ x50 then (if x50 < (x48.length : Int) then (if 0 ≤ x7 then (if x7 < (x6.length : Int) then (if rdOf false x6 x7 = true then (if ((rd_T30 x48 x50).f0) ≥ 0 then (if ((rd_T30 x48 x50).f0) < (x0.length : Int) then (if 0 ≤ ((rd_T30 x48 x50).f0) then (if ((rd_T30 x48 x50).f0) < (x6.length : Int) then (kissgatelaw13_TableReach.l2 k x0 x5 (x6.set (((rd_T30 x48 x50).f0) : Int).toNat true) x7 x38 x39 x41 x42 x43 x48 x49 (wrap64 (x50 + 1))) else (none)) else (none)) else (kissgatelaw13_TableReach.l2 k x0 x5 x6 x7 x38 x39 x41 x42 x43 x48 x49 (wrap64 (x50 + 1)))) else (kissgatelaw13_TableReach.l2 k x0 x5 x6 x7 x38 x39 x41 x42 x43 x48 x49 (wrap64 (x50 + 1)))) else (kissgatelaw13_TableReach.l2 k x0 x5 x6 x7 x38 x39 x41 x42 x43 x48 x49 (wrap64 (x50 + 1)))) else (none)) else (none)) else (none)) else (none)) else (kissgatelaw13_TableReach.l1 k x0 x5 x6 x38 x39 x41 x42 (wrap64 (x43 + 1)))
def kissgatelaw13_TableReach.l3 : Nat → List Int → List Bool → List Int → Int → Int → Option (Bool)
  | 0, _, _, _, _, _ => none
  | k + 1, x5, x6, x11, x78, x79 => if x79 < x78 then (if 0 ≤ x79 then (if x79 < (x6.length : Int) then (if rdOf false x6 x79 = true then (if x11.length < 17592186044416 then (kissgatelaw13_TableReach.l3 k x5 x6 (x11 ++ [x79]) x78 (wrap64 (x79 + 1))) else (none)) else (kissgatelaw13_TableReach.l3 k x5 x6 x11 x78 (wrap64 (x79 + 1)))) else (none)) else (none)) else ((kissgateref06_Same.f k x5 x11).bind fun t200 => (if t200 = true then ((table_Registrar.f).bind fun t201 => ((table_Reach.f k t201 0).bind fun t204 => (if (t204.length : Int) = 3 then ((table_Applicant.f).bind fun t207 => ((table_Reach.f k t207 0).bind fun t210 => (some ((t210.length : Int) == 5)))) else (some false)))) else (some false)))
end
def kissgatelaw13_TableReach.f (k : Nat) (l0 : List (List (S30))) (a1 : Int) : Option (Bool) := (kissgatelaw13_alive.f k).bind fun t182 => (if t182 = true then ((kissgatelaw13_great.f k l0).bind fun t183 => (if t183 = true then (some true) else ((table_Reach.f k l0 a1).bind fun t184 => (if a1 < 0 then (kissgatelaw13_TableReach.j0 k l0 a1 t184 true) else (kissgatelaw13_TableReach.j0 k l0 a1 t184 (decide (a1 ≥ (l0.length : Int)))))))) else (some false))
set_option maxHeartbeats 8000000 in
set_option maxRecDepth 100000 in
theorem kissgatelaw13_TableReach.calls (k : Nat) (A0 : Option Addr) (c0 : Nat) (l0 : List (List (S30))) (a1 : Int) (r : Bool) (hT : r = true) (w : World) (hr0 : Kd.C (Kd.slice 30 k30) w A0 l0.length l0) (hc0 : l0.length ≤ c0) (h : kissgatelaw13_TableReach.f k l0 a1 = some r) :
    Calls Try.prog 12 #[.slice A0 l0.length c0, .int .i64 a1] w fun e w' => e = .returned (.bool r) ∧ Below w.heap.size w w' := by
  have HRT := Aside0.mk hT
  clear hT
  have hu30 := Try.underlying30
  have HR0 := Aside0.mk hr0
  have HC0 := Aside0.mk hc0
  clear hr0 hc0
  have HB := Aside0.mk (Below.refl w.heap.size w)
  have H : ((kissgatelaw13_alive.f k).bind fun t182 => (if t182 = true then ((kissgatelaw13_great.f k l0).bind fun t183 => (if t183 = true then (some true) else ((table_Reach.f k l0 a1).bind fun t184 => (if a1 < 0 then (kissgatelaw13_TableReach.j0 k l0 a1 t184 true) else (kissgatelaw13_TableReach.j0 k l0 a1 t184 (decide (a1 ≥ (l0.length : Int)))))))) else (some false))) = some r := h
  clear h
  replace H := Option.bind_eq_some_iff.mp H
  obtain ⟨t182, A30, H⟩ := H
  replace H : (if t182 = true then ((kissgatelaw13_great.f k l0).bind fun t183 => (if t183 = true then (some true) else ((table_Reach.f k l0 a1).bind fun t184 => (if a1 < 0 then (kissgatelaw13_TableReach.j0 k l0 a1 t184 true) else (kissgatelaw13_TableReach.j0 k l0 a1 t184 (decide (a1 ≥ (l0.length : Int)))))))) else (some false)) = some r := H
  have A3 := Aside0.mk A30
  clear A30
  by_cases c4 : t182 = true
  · subst c4
    have H1 : ((kissgatelaw13_great.f k l0).bind fun t183 => (if t183 = true then (some true) else ((table_Reach.f k l0 a1).bind fun t184 => (if a1 < 0 then (kissgatelaw13_TableReach.j0 k l0 a1 t184 true) else (kissgatelaw13_TableReach.j0 k l0 a1 t184 (decide (a1 ≥ (l0.length : Int)))))))) = some r := by rw [if_pos rfl] at H; exact H
    clear H
    have H := H1
    clear H1
    replace H := Option.bind_eq_some_iff.mp H
    obtain ⟨t183, A50, H⟩ := H
    replace H : (if t183 = true then (some true) else ((table_Reach.f k l0 a1).bind fun t184 => (if a1 < 0 then (kissgatelaw13_TableReach.j0 k l0 a1 t184 true) else (kissgatelaw13_TableReach.j0 k l0 a1 t184 (decide (a1 ≥ (l0.length : Int))))))) = some r := H
    have A5 := Aside0.mk A50
    clear A50
    by_cases c6 : t183 = true
    · subst c6
      have H1 : (some true) = some r := by rw [if_pos rfl] at H; exact H
      clear H
      have H := H1
      clear H1
      obtain rfl := Option.some.inj H
      go_enter Try.func12, Try.ntmps12
      go_wp2_with (first | ((with_reducible refine gate_callee (f := 14) rfl ?_); refine goesL_ (some 13) rfl rfl Try.func14 (by kernel_rfl) rfl #[] rfl (by (try simp only [List.map_toArray, List.map_cons, List.map_nil]); first | done | rfl | (simp only [List.length_drop, List.length_take]; rfl)) ?_; (with_reducible refine (kissgatelaw13_alive.calls k  true _ A3.out).mono ?_); rintro e w7 ⟨rfl, hb⟩; refine ⟨_, rfl, ?_⟩; have n0_ := Aside0.mk (below_step (by repeat (first | (with_reducible first | exact HB.out | apply below_alloc | apply pw_below_drewN | apply below_drew1) | exact HB.out)) hb); clear HB; have HB := n0_; clear n0_; (try clear hb); (try clear hb2); (try clear hk); (try clear hi)) | ((with_reducible refine gate_callee (f := 15) rfl ?_); refine goesL_ (some 16) rfl rfl Try.func15 (by kernel_rfl) rfl #[.slice A0 l0.length c0] rfl (by (try simp only [List.map_toArray, List.map_cons, List.map_nil]); first | done | rfl | (simp only [List.length_drop, List.length_take]; rfl)) ?_; (with_reducible refine (kissgatelaw13_great.calls k _ _ l0 true _ ?side1 ?side2 A5.out).mono ?_); (case side1 => repeat (first | exact (Kd.C_below HR0.out HB.out) | (with_reducible refine Kd.C_alloc ?_ _) | (with_reducible refine Kd.C_drewN ?_ _) | (with_reducible refine Kd.C_drew ?_))); (case side2 => exact HC0.out); rintro e w' ⟨rfl, ⟨nd, rfl⟩⟩; refine ⟨_, rfl, ?_⟩))
      go_ret
      exact ⟨by first | rfl | (simp [errW_none, errW_some] <;> rfl) | (simp [*, errW_none, errW_some] <;> rfl), by repeat (first | (with_reducible first | exact HB.out | apply below_alloc | apply pw_below_drewN | apply below_drew1) | exact HB.out)⟩
    · replace c6 := Bool.eq_false_iff.mpr c6
      subst c6
      have H1 : ((table_Reach.f k l0 a1).bind fun t184 => (if a1 < 0 then (kissgatelaw13_TableReach.j0 k l0 a1 t184 true) else (kissgatelaw13_TableReach.j0 k l0 a1 t184 (decide (a1 ≥ (l0.length : Int)))))) = some r := by rw [if_neg (show ¬ (false = true) by decide)] at H; exact H
      clear H
      have H := H1
      clear H1
      replace H := Option.bind_eq_some_iff.mp H
      obtain ⟨t184, A80, H⟩ := H
      replace H : (if a1 < 0 then (kissgatelaw13_TableReach.j0 k l0 a1 t184 true) else (kissgatelaw13_TableReach.j0 k l0 a1 t184 (decide (a1 ≥ (l0.length : Int))))) = some r := H
      have A8 := Aside0.mk A80
      clear A80
      have HC9 := Aside0.mk H
      clear H
      go_enter Try.func12, Try.ntmps12
      go_upto_region 6 with (first | ((with_reducible refine gate_callee (f := 14) rfl ?_); refine goesL_ (some 13) rfl rfl Try.func14 (by kernel_rfl) rfl #[] rfl (by (try simp only [List.map_toArray, List.map_cons, List.map_nil]); first | done | rfl | (simp only [List.length_drop, List.length_take]; rfl)) ?_; (with_reducible refine (kissgatelaw13_alive.calls k  true _ A3.out).mono ?_); rintro e w10 ⟨rfl, hb⟩; refine ⟨_, rfl, ?_⟩; have n0_ := Aside0.mk (below_step (by repeat (first | (with_reducible first | exact HB.out | apply below_alloc | apply pw_below_drewN | apply below_drew1) | exact HB.out)) hb); clear HB; have HB := n0_; clear n0_; (try clear hb); (try clear hb2); (try clear hk); (try clear hi)) | ((with_reducible refine gate_callee (f := 15) rfl ?_); refine goesL_ (some 16) rfl rfl Try.func15 (by kernel_rfl) rfl #[.slice A0 l0.length c0] rfl (by (try simp only [List.map_toArray, List.map_cons, List.map_nil]); first | done | rfl | (simp only [List.length_drop, List.length_take]; rfl)) ?_; (with_reducible refine (kissgatelaw13_great.calls k _ _ l0 false _ ?side1 ?side2 A5.out).mono ?_); (case side1 => repeat (first | exact (Kd.C_below HR0.out HB.out) | (with_reducible refine Kd.C_alloc ?_ _) | (with_reducible refine Kd.C_drewN ?_ _) | (with_reducible refine Kd.C_drew ?_))); (case side2 => exact HC0.out); rintro e w' ⟨rfl, ⟨nd, rfl⟩⟩; refine ⟨_, rfl, ?_⟩) | ((with_reducible refine gate_callee (f := 32) rfl ?_); refine goesL_ (some 19) rfl rfl Try.func32 (by kernel_rfl) rfl #[.slice A0 l0.length c0, .int .i64 a1] rfl (by (try simp only [List.map_toArray, List.map_cons, List.map_nil]); first | done | rfl | (simp only [List.length_drop, List.length_take]; rfl)) ?_; (with_reducible refine (table_Reach.calls k _ _ l0 a1 t184 _ ?side1 ?side2 A8.out).mono ?_); (case side1 => repeat (first | exact (Kd.C_below HR0.out (by repeat (first | (with_reducible first | exact HB.out | apply below_alloc | apply pw_below_drewN | apply below_drew1) | exact HB.out))) | (with_reducible refine Kd.C_alloc ?_ _) | (with_reducible refine Kd.C_drewN ?_ _) | (with_reducible refine Kd.C_drew ?_))); (case side2 => exact HC0.out); rintro e w11 ⟨v185, rfl, ho0, hb⟩; refine ⟨_, rfl, ?_⟩; have n0_ := Aside0.mk (Kd.R_lower ho0 (below_size (by repeat (first | (with_reducible first | exact HB.out | apply below_alloc | apply pw_below_drewN | apply below_drew1) | exact HB.out)))); have n1_ := Aside0.mk (below_step (by repeat (first | (with_reducible first | exact HB.out | apply below_alloc | apply pw_below_drewN | apply below_drew1) | exact HB.out)) hb); clear HB; have HO186 := n0_; have HB := n1_; clear n0_ n1_; (try clear hb); (try clear hb2); (try clear hk); (try clear hi); (try clear ho0)))
      (try simp only [Act.put, List.setIfInBounds_toArray, List.set_cons_zero, List.set_cons_succ])
      go_cut [27] (fun v27 wc => ∃ (kq : Nat) (x27_8 : Bool), v27 = .bool x27_8 ∧ Aside0 (kissgatelaw13_TableReach.j0 kq l0 a1 t184 x27_8 = some r) ∧ Aside0 (kq ≤ k) ∧ Aside0 (Kd.R (Kd.int .i64) 3 wc w.heap.size (fun _ => True) v185 t184) ∧ Aside0 (Below w.heap.size w wc))
      case first =>
        have H := HC9.out
        clear HC9
        by_cases c12 : a1 < 0
        · rw [if_pos c12] at H
          have c12b0 : decide (a1 < 0) = true := decide_eq_true c12
          clear c12
          (first | rw [c12b0] | (simp only [i64_w, i32_w]; rw [c12b0]) | skip)
          have H' := Aside0.mk H
          clear H
          go_wp2
          go_meet
          case rel => exact ⟨_, (true), (by first | rfl | (simp; done) | (simp [*]; done)), H', ⟨by first | omega | exact Nat.le_refl _⟩, ⟨by (with_reducible repeat (first | apply Kd.R_alloc | apply Kd.R_drewN | apply Kd.R_drew)); exact HO186.out⟩, ⟨by repeat (first | (with_reducible first | exact HB.out | apply below_alloc | apply pw_below_drewN | apply below_drew1) | exact HB.out)⟩⟩
        · rw [if_neg c12] at H
          have c12b0 : decide (a1 < 0) = false := decide_eq_false c12
          clear c12
          (first | rw [c12b0] | (simp only [i64_w, i32_w]; rw [c12b0]) | skip)
          have H' := Aside0.mk H
          clear H
          go_wp2
          go_meet
          case rel => exact ⟨_, (decide (a1 ≥ (l0.length : Int))), (by first | rfl | (simp; done) | (simp [*]; done)), H', ⟨by first | omega | exact Nat.le_refl _⟩, ⟨by (with_reducible repeat (first | apply Kd.R_alloc | apply Kd.R_drewN | apply Kd.R_drew)); exact HO186.out⟩, ⟨by repeat (first | (with_reducible first | exact HB.out | apply below_alloc | apply pw_below_drewN | apply below_drew1) | exact HB.out)⟩⟩
      case rest =>
        clear HC9
        try clear c1
        try clear p2
        try clear c3
        try clear c4
        try clear c6
        try clear c12
        try clear c12b0
        obtain ⟨kq, x27_8, rfl, HA, HJ8, HO_5, HB⟩ := hcut
        cases kq with
        | zero => exact absurd HA.out (by simp [kissgatelaw13_TableReach.j0])
        | succ kj8 =>
          have H := HA.out
          clear HA
          simp only [kissgatelaw13_TableReach.j0] at H
          by_cases c13 : x27_8 = true
          · subst c13
            have H1 : (some ((t184.length : Int) == 0)) = some r := by rw [if_pos rfl] at H; exact H
            clear H
            have H := H1
            clear H1
            obtain rfl := Option.some.inj H
            obtain ⟨Ao14, co14, eo14⟩ := Kd.R_slice HO_5.out
            subst eo14
            go_wp2
            go_ret
            exact ⟨by first | rfl | (simp [errW_none, errW_some] <;> rfl) | (simp [*, errW_none, errW_some] <;> rfl), by repeat (first | (with_reducible first | exact HB.out | apply below_alloc | apply pw_below_drewN | apply below_drew1) | exact HB.out)⟩
          · replace c13 := Bool.eq_false_iff.mpr c13
            subst c13
            have H1 : (if 0 ≤ (l0.length : Int) then (if ((l0.length : Int) : Int).toNat ≤ 281474976710656 then ((some (List.replicate ((l0.length : Int) : Int).toNat false : List Bool)).bind fun y187 => (if 0 ≤ a1 then (if a1 < (y187.length : Int) then (kissgatelaw13_TableReach.l0 kj8 l0 t184 (y187.set (a1 : Int).toNat true) (l0.length : Int) 0) else (none)) else (none))) else (none)) else (none)) = some r := by rw [if_neg (show ¬ (false = true) by decide)] at H; exact H
            clear H
            have H := H1
            clear H1
            by_cases c15 : 0 ≤ (l0.length : Int)
            · rw [if_pos c15] at H
              have c15b0 := eq_true c15
              have c15b1 : decide (0 ≤ (l0.length : Int)) = true := decide_eq_true c15
              clear c15
              by_cases c16 : ((l0.length : Int) : Int).toNat ≤ 281474976710656
              · rw [if_pos c16] at H
                have c16b0 := eq_true c16
                have c16b1 : decide (((l0.length : Int) : Int).toNat ≤ 281474976710656) = true := decide_eq_true c16
                clear c16
                obtain ⟨y187, hy187⟩ : ∃ y_ : List Bool, y_ = (List.replicate ((l0.length : Int) : Int).toNat false) := ⟨_, rfl⟩
                replace H : (if 0 ≤ a1 then (if a1 < (y187.length : Int) then (kissgatelaw13_TableReach.l0 kj8 l0 t184 (y187.set (a1 : Int).toNat true) (l0.length : Int) 0) else (none)) else (none)) = some r := by first | (rw [hy187]; with_reducible exact H) | (have H2_ := (Option.bind_some _ _).symm.trans H; rw [hy187]; with_reducible exact H2_) | (have H2_ := (Option.bind_some _ _).symm.trans H; with_reducible exact H2_) | with_reducible exact H | (rw [hy187]; exact H) | exact H
                have Ny187 := Aside0.mk hy187
                clear hy187
                by_cases c17 : 0 ≤ a1
                · rw [if_pos c17] at H
                  have c17b0 : decide (0 ≤ a1) = true := decide_eq_true c17
                  clear c17
                  by_cases c18 : a1 < (y187.length : Int)
                  · rw [if_pos c18] at H
                    have c18b0 : decide (a1 < (y187.length : Int)) = true := decide_eq_true c18
                    clear c18
                    obtain ⟨y190, hy190⟩ : ∃ y_ : List Bool, y_ = (y187.set (a1 : Int).toNat true) := ⟨_, rfl⟩
                    replace H : (kissgatelaw13_TableReach.l0 kj8 l0 t184 y190 (l0.length : Int) 0) = some r := by first | (rw [hy190]; with_reducible exact H) | (have H2_ := (Option.bind_some _ _).symm.trans H; rw [hy190]; with_reducible exact H2_) | (have H2_ := (Option.bind_some _ _).symm.trans H; with_reducible exact H2_) | with_reducible exact H | (rw [hy190]; exact H) | exact H
                    have Ny190 := Aside0.mk hy190
                    clear hy190
                    have H' := Aside0.mk H
                    clear H
                    go_wp2_with (first | ((with_reducible refine gate_dst (N := 33) rfl ?_); (try (refine gate_guard (by rfl) ?_; dsimp only)); refine Kd.R_make Kd.bool _ 4 rfl (N := 33) rfl 59 _ _ rfl (l0.length : Int) rfl rfl Try.underlying59 (.bool false) 1 info4 rfl (by decide) (by omega) false (ok := fun _ => True) (okp := fun _ => True) rfl (fun _ hk => hk) trivial (of_decide_eq_true (by first | (with_reducible assumption) | assumption)) (Nat.le_trans (Nat.mul_le_mul_right _ (of_decide_eq_true (by first | (with_reducible assumption) | assumption) : (l0.length : Int).toNat ≤ 281474976710656)) (by omega)) (Below.refl _ _) (Nat.le_refl _) ?_; intro v188 w20 ho21 hb hg_ hnew_; clear hg_ hnew_; (first | rw [← Ny187.out] at ho21 | (simp only [Int.reduceToNat] at ho21; rw [← Ny187.out] at ho21)); have n0_ := Aside0.mk (Kd.R_below (by (with_reducible repeat (first | apply Kd.R_alloc | apply Kd.R_drewN | apply Kd.R_drew)); exact HO_5.out) hb); have n1_ := Aside0.mk (Kd.R_lower ho21 (below_size (by repeat (first | (with_reducible first | exact HB.out | apply below_alloc | apply pw_below_drewN | apply below_drew1) | exact HB.out)))); have n2_ := Aside0.mk (below_step (by repeat (first | (with_reducible first | exact HB.out | apply below_alloc | apply pw_below_drewN | apply below_drew1) | exact HB.out)) hb); clear HO_5; clear HB; have HO_5 := n0_; have HO189 := n1_; have HB := n2_; clear n0_ n1_ n2_; clear hb ho21; have p19 : 0 ≤ (a1 : Int) := of_decide_eq_true (by first | (with_reducible assumption) | assumption); have q19 : (a1 : Int) < ((y187.length : Int) : Int) := of_decide_eq_true (by first | (with_reducible assumption) | assumption); obtain ⟨go19, co19, eo19, gb19, gl19, cl19, HG19⟩ := Kd.R_form HO189.out (by omega); (first | cases eo19 | (injection eo19 with ea_ en_ ec_; (first | subst ea_ | (injection ea_ with ea_; subst ea_)); subst ec_; clear en_)); have GB19 := Aside0.mk gb19; have GG19 := Aside0.mk HG19; clear gb19 gl19 HG19; obtain ⟨hx19_0, hf19_0⟩ := Kd.R_celln false HO189.out (a1 : Int) p19 q19; replace p19 := eq_true p19; replace q19 := eq_true q19; obtain ⟨hy22_, hz22_⟩ := Kd.R_celln false HO189.out (a1 : Int) (of_decide_eq_true (by first | (with_reducible assumption) | assumption)) (of_decide_eq_true (by first | (with_reducible assumption) | assumption)); have HP22 := Kd.R_putg HO189.out (a1 : Int) true) | ((with_reducible refine gate_store (t := 4) (p := 36) rfl ?_); refine store_event (t := 4) (p := 36) (v := ?vo_w23) (w1 := (w20.setCell ⟨go19, (a1 : Int).toNat, none⟩ (.bool true))) ?hg ?ho ?hn ?hr ?_; (case ho => rfl); (case hg => rfl); (case hn => rfl); (case hr => first | (go_simp; done) | (go_simp; rfl)); intro w23 hw; have hg : w20.grownBy w23 (some go19) := (by rw [hw]; exact HP22.2); have hp_ : Kd.R Kd.bool 4 w23 w.heap.size (fun _ => True) (.slice (some ⟨go19, 0, none⟩) y187.length co19) y190 := (by rw [hw, Ny190.out]; exact HP22.1); clear HP22; have n0_ := Aside0.mk (Kd.R_over' (v := (.slice (some ⟨go19, 0, none⟩) y187.length co19)) (by (with_reducible repeat (first | apply Kd.R_alloc | apply Kd.R_drewN | apply Kd.R_drew)); exact HO_5.out) (Kd.R_typed HO189.out) (by decide) hg); have n1_ := Aside0.mk (hp_); have n2_ := Aside0.mk ((by rw [hw]; exact below_set (HB.out) GB19.out : Below w.heap.size w w23)); clear HO_5; clear HO189; clear HB; have HO_5 := n0_; have HO189 := n1_; have HB := n2_; clear n0_ n1_ n2_; clear hg hw hp_))
                    go_loopg [39] kj8 (fun kq v39 w' => ∃ (x6_2 : List Bool) (x39_2 : Int), v39 = .int .i64 x39_2 ∧ Aside0 (kissgatelaw13_TableReach.l0 kq l0 t184 x6_2 (l0.length : Int) x39_2 = some r) ∧ Aside0 (kq ≤ kj8) ∧ Aside0 (Kd.R (Kd.int .i64) 3 w' w.heap.size (fun _ => True) v185 t184) ∧ Aside0 (Kd.R Kd.bool 4 w' w.heap.size (fun _ => True) (.slice (some ⟨go19, 0, none⟩) y187.length co19) x6_2) ∧ Aside0 (Below w.heap.size w w'))
                    case atStart => exact ⟨(y190), (0), (by first | rfl | (simp; done) | (simp [*]; done)), H', ⟨Nat.le_refl _⟩, ⟨by (with_reducible repeat (first | apply Kd.R_alloc | apply Kd.R_drewN | apply Kd.R_drew)); exact HO_5.out⟩, ⟨by (with_reducible repeat (first | apply Kd.R_alloc | apply Kd.R_drewN | apply Kd.R_drew)); exact HO189.out⟩, ⟨by repeat (first | (with_reducible first | exact HB.out | apply below_alloc | apply pw_below_drewN | apply below_drew1) | exact HB.out)⟩⟩
                    case round =>
                      clear H'
                      try clear c1
                      try clear p1
                      try clear q1
                      try clear hx1
                      try clear p2
                      try clear c3
                      try clear c4
                      try clear c6
                      try clear c12
                      try clear c12b0
                      try clear c13
                      try clear c14
                      try clear c15
                      try clear c15b0
                      try clear c15b1
                      try clear c16
                      try clear c16b0
                      try clear c16b1
                      try clear c17
                      try clear c17b0
                      try clear c18
                      try clear c18b0
                      try clear p19
                      try clear q19
                      try clear hx19
                      try clear hf19
                      try clear hx19_0
                      try clear p19
                      try clear p2
                      try clear q19
                      obtain ⟨x6_2, x39_2, rfl, HA, HK2, HO_5, HO_6, HB⟩ := hrel
                      have hl6_2 := (Kd.R_reads' HO_6.out).1
                      rw [hl6_2] at HO_6
                      (try simp only [hl6_2])
                      (try simp only [hl6_2] at HO_5)
                      cases gk with
                      | zero => exact absurd HA.out (by simp [kissgatelaw13_TableReach.l0])
                      | succ k2 =>
                        have H := HA.out
                        clear HA
                        simp only [kissgatelaw13_TableReach.l0] at H
                        by_cases c24 : x39_2 < (l0.length : Int)
                        · rw [if_pos c24] at H
                          have c24b0 : decide (x39_2 < (l0.length : Int)) = true := decide_eq_true c24
                          clear c24
                          have H' := Aside0.mk H
                          clear H
                          go_wp2
                          go_loopg [43] k2 (fun kq v43 w' => ∃ (x6_3 : List Bool) (x43_3 : Int), v43 = .int .i64 x43_3 ∧ Aside0 (kissgatelaw13_TableReach.l1 kq l0 t184 x6_3 (l0.length : Int) x39_2 l0 (l0.length : Int) x43_3 = some r) ∧ Aside0 (kq ≤ k2) ∧ Aside0 (Kd.R (Kd.int .i64) 3 w' w.heap.size (fun _ => True) v185 t184) ∧ Aside0 (Kd.R Kd.bool 4 w' w.heap.size (fun _ => True) (.slice (some ⟨go19, 0, none⟩) x6_2.length co19) x6_3) ∧ Aside0 (Below w.heap.size w w'))
                          case atStart => exact ⟨(x6_2), (0), (by first | rfl | (simp; done) | (simp [*]; done)), H', ⟨Nat.le_refl _⟩, ⟨by (try simp only [hl6_2]); (with_reducible repeat (first | apply Kd.R_alloc | apply Kd.R_drewN | apply Kd.R_drew)); exact HO_5.out⟩, ⟨by (try simp only [hl6_2]); (with_reducible repeat (first | apply Kd.R_alloc | apply Kd.R_drewN | apply Kd.R_drew)); exact HO_6.out⟩, ⟨by repeat (first | (with_reducible first | exact HB.out | apply below_alloc | apply pw_below_drewN | apply below_drew1) | exact HB.out)⟩⟩
                          case round =>
                            clear H'
                            try clear c1
                            try clear p1
                            try clear q1
                            try clear hx1
                            try clear c2
                            try clear p2
                            try clear c3
                            try clear c4
                            try clear c6
                            try clear c12
                            try clear c12b0
                            try clear c13
                            try clear c14
                            try clear c15
                            try clear c15b0
                            try clear c15b1
                            try clear c16
                            try clear c16b0
                            try clear c16b1
                            try clear c17
                            try clear c17b0
                            try clear c18
                            try clear c18b0
                            try clear p19
                            try clear q19
                            try clear hx19
                            try clear hf19
                            try clear c24
                            try clear c24b0
                            try clear hx19_0
                            try clear p1
                            try clear p19
                            try clear p2
                            try clear q1
                            try clear q19
                            obtain ⟨x6_3, x43_3, rfl, HA, HK3, HO_5, HO_6, HB⟩ := hrel
                            have hl6_3 := (Kd.R_reads' HO_6.out).1
                            rw [hl6_3] at HO_6
                            (try simp only [hl6_3])
                            (try simp only [hl6_3] at HO_5)
                            cases gk with
                            | zero => exact absurd HA.out (by simp [kissgatelaw13_TableReach.l1])
                            | succ k3 =>
                              have H := HA.out
                              clear HA
                              simp only [kissgatelaw13_TableReach.l1] at H
                              by_cases c25 : x43_3 < (l0.length : Int)
                              · rw [if_pos c25] at H
                                have c25b0 : decide (x43_3 < (l0.length : Int)) = true := decide_eq_true c25
                                clear c25
                                by_cases c26 : 0 ≤ x43_3
                                · rw [if_pos c26] at H
                                  have c26b0 : decide (0 ≤ x43_3) = true := decide_eq_true c26
                                  clear c26
                                  by_cases c27 : x43_3 < (l0.length : Int)
                                  · rw [if_pos c27] at H
                                    have c27b0 : decide (x43_3 < (l0.length : Int)) = true := decide_eq_true c27
                                    clear c27
                                    have H' := Aside0.mk H
                                    clear H
                                    have p191 : 0 ≤ (x43_3 : Int) := of_decide_eq_true (by first | (with_reducible assumption) | assumption)
                                    have q191 : x43_3 < (l0.length : Int) := of_decide_eq_true (by first | (with_reducible assumption) | assumption)
                                    obtain ⟨ad191, A191_0, c191_0, e191, hx191_0, hl191_0, hi191_0⟩ := at_L2 HR0.out x43_3 p191 q191
                                    cases e191
                                    replace hx191_0 := (HB.out.cell (World.block_lt_of_cell? w _ hx191_0)).trans hx191_0
                                    have HR191_0 := Aside0.mk hi191_0
                                    have HC191_0 := Aside0.mk hl191_0
                                    clear hi191_0 hl191_0
                                    replace p191 := eq_true p191
                                    replace q191 := eq_true q191
                                    go_wp2
                                    go_loopg [50] k3 (fun kq v50 w' => ∃ (x6_4 : List Bool) (x50_4 : Int), v50 = .int .i64 x50_4 ∧ Aside0 (kissgatelaw13_TableReach.l2 kq l0 t184 x6_4 x43_3 (l0.length : Int) x39_2 l0 (l0.length : Int) x43_3 (rd_L2 l0 x43_3) ((rd_L2 l0 x43_3).length : Int) x50_4 = some r) ∧ Aside0 (kq ≤ k3) ∧ Aside0 (Kd.R (Kd.int .i64) 3 w' w.heap.size (fun _ => True) v185 t184) ∧ Aside0 (Kd.R Kd.bool 4 w' w.heap.size (fun _ => True) (.slice (some ⟨go19, 0, none⟩) x6_3.length co19) x6_4) ∧ Aside0 (Below w.heap.size w w'))
                                    case atStart => exact ⟨(x6_3), (0), (by first | rfl | (simp; done) | (simp [*]; done)), H', ⟨Nat.le_refl _⟩, ⟨by (try simp only [hl6_2]); (try simp only [hl6_3]); (with_reducible repeat (first | apply Kd.R_alloc | apply Kd.R_drewN | apply Kd.R_drew)); exact HO_5.out⟩, ⟨by (try simp only [hl6_2]); (try simp only [hl6_3]); (with_reducible repeat (first | apply Kd.R_alloc | apply Kd.R_drewN | apply Kd.R_drew)); exact HO_6.out⟩, ⟨by repeat (first | (with_reducible first | exact HB.out | apply below_alloc | apply pw_below_drewN | apply below_drew1) | exact HB.out)⟩⟩
                                    case round =>
                                      clear H'
                                      try clear c1
                                      try clear p1
                                      try clear q1
                                      try clear hx1
                                      try clear c2
                                      try clear p2
                                      try clear c3
                                      try clear c4
                                      try clear c6
                                      try clear c12
                                      try clear c12b0
                                      try clear c13
                                      try clear c14
                                      try clear c15
                                      try clear c15b0
                                      try clear c15b1
                                      try clear c16
                                      try clear c16b0
                                      try clear c16b1
                                      try clear c17
                                      try clear c17b0
                                      try clear c18
                                      try clear c18b0
                                      try clear c19
                                      try clear p19
                                      try clear q19
                                      try clear hx19
                                      try clear hf19
                                      try clear c24
                                      try clear c24b0
                                      try clear c25
                                      try clear c25b0
                                      try clear c26
                                      try clear c26b0
                                      try clear c27
                                      try clear c27b0
                                      try clear hx191_0
                                      try clear hx19_0
                                      try clear p1
                                      try clear p19
                                      try clear p191
                                      try clear p2
                                      try clear q1
                                      try clear q19
                                      try clear q191
                                      obtain ⟨x6_4, x50_4, rfl, HA, HK4, HO_5, HO_6, HB⟩ := hrel
                                      have hl6_4 := (Kd.R_reads' HO_6.out).1
                                      rw [hl6_4] at HO_6
                                      (try simp only [hl6_4])
                                      (try simp only [hl6_4] at HO_5)
                                      cases gk with
                                      | zero => exact absurd HA.out (by simp [kissgatelaw13_TableReach.l2])
                                      | succ k4 =>
                                        have H := HA.out
                                        clear HA
                                        simp only [kissgatelaw13_TableReach.l2] at H
                                        by_cases c28 : x50_4 < ((rd_L2 l0 x43_3).length : Int)
                                        · rw [if_pos c28] at H
                                          have c28b0 : decide (x50_4 < ((rd_L2 l0 x43_3).length : Int)) = true := decide_eq_true c28
                                          clear c28
                                          by_cases c29 : 0 ≤ x50_4
                                          · rw [if_pos c29] at H
                                            have c29b0 : decide (0 ≤ x50_4) = true := decide_eq_true c29
                                            clear c29
                                            by_cases c30 : x50_4 < ((rd_L2 l0 x43_3).length : Int)
                                            · rw [if_pos c30] at H
                                              have c30b0 : decide (x50_4 < ((rd_L2 l0 x43_3).length : Int)) = true := decide_eq_true c30
                                              clear c30
                                              by_cases c31 : 0 ≤ x43_3
                                              · rw [if_pos c31] at H
                                                have c31b0 : decide (0 ≤ x43_3) = true := decide_eq_true c31
                                                clear c31
                                                by_cases c32 : x43_3 < (x6_4.length : Int)
                                                · rw [if_pos c32] at H
                                                  have c32b0 : decide (x43_3 < (x6_4.length : Int)) = true := decide_eq_true c32
                                                  clear c32
                                                  obtain ⟨bq33, hbq33⟩ : ∃ b_ : Bool, b_ = (rdOf false x6_4 x43_3) := ⟨_, rfl⟩
                                                  replace H : (if bq33 = true then (if ((rd_T30 (rd_L2 l0 x43_3) x50_4).f0) ≥ 0 then (if ((rd_T30 (rd_L2 l0 x43_3) x50_4).f0) < (l0.length : Int) then (if 0 ≤ ((rd_T30 (rd_L2 l0 x43_3) x50_4).f0) then (if ((rd_T30 (rd_L2 l0 x43_3) x50_4).f0) < (x6_4.length : Int) then (kissgatelaw13_TableReach.l2 k4 l0 t184 (x6_4.set (((rd_T30 (rd_L2 l0 x43_3) x50_4).f0) : Int).toNat true) x43_3 (l0.length : Int) x39_2 l0 (l0.length : Int) x43_3 (rd_L2 l0 x43_3) ((rd_L2 l0 x43_3).length : Int) (wrap64 (x50_4 + 1))) else (none)) else (none)) else (kissgatelaw13_TableReach.l2 k4 l0 t184 x6_4 x43_3 (l0.length : Int) x39_2 l0 (l0.length : Int) x43_3 (rd_L2 l0 x43_3) ((rd_L2 l0 x43_3).length : Int) (wrap64 (x50_4 + 1)))) else (kissgatelaw13_TableReach.l2 k4 l0 t184 x6_4 x43_3 (l0.length : Int) x39_2 l0 (l0.length : Int) x43_3 (rd_L2 l0 x43_3) ((rd_L2 l0 x43_3).length : Int) (wrap64 (x50_4 + 1)))) else (kissgatelaw13_TableReach.l2 k4 l0 t184 x6_4 x43_3 (l0.length : Int) x39_2 l0 (l0.length : Int) x43_3 (rd_L2 l0 x43_3) ((rd_L2 l0 x43_3).length : Int) (wrap64 (x50_4 + 1)))) = some r := by rw [← hbq33] at H; exact H
                                                  have Nbq33 := Aside0.mk hbq33
                                                  clear hbq33
                                                  by_cases c34 : bq33 = true
                                                  · subst c34
                                                    have H1 : (if ((rd_T30 (rd_L2 l0 x43_3) x50_4).f0) ≥ 0 then (if ((rd_T30 (rd_L2 l0 x43_3) x50_4).f0) < (l0.length : Int) then (if 0 ≤ ((rd_T30 (rd_L2 l0 x43_3) x50_4).f0) then (if ((rd_T30 (rd_L2 l0 x43_3) x50_4).f0) < (x6_4.length : Int) then (kissgatelaw13_TableReach.l2 k4 l0 t184 (x6_4.set (((rd_T30 (rd_L2 l0 x43_3) x50_4).f0) : Int).toNat true) x43_3 (l0.length : Int) x39_2 l0 (l0.length : Int) x43_3 (rd_L2 l0 x43_3) ((rd_L2 l0 x43_3).length : Int) (wrap64 (x50_4 + 1))) else (none)) else (none)) else (kissgatelaw13_TableReach.l2 k4 l0 t184 x6_4 x43_3 (l0.length : Int) x39_2 l0 (l0.length : Int) x43_3 (rd_L2 l0 x43_3) ((rd_L2 l0 x43_3).length : Int) (wrap64 (x50_4 + 1)))) else (kissgatelaw13_TableReach.l2 k4 l0 t184 x6_4 x43_3 (l0.length : Int) x39_2 l0 (l0.length : Int) x43_3 (rd_L2 l0 x43_3) ((rd_L2 l0 x43_3).length : Int) (wrap64 (x50_4 + 1)))) = some r := by rw [if_pos rfl] at H; exact H
                                                    clear H
                                                    have H := H1
                                                    clear H1
                                                    by_cases c35 : ((rd_T30 (rd_L2 l0 x43_3) x50_4).f0) ≥ 0
                                                    · rw [if_pos c35] at H
                                                      have c35b0 : decide (0 ≤ ((rd_T30 (rd_L2 l0 x43_3) x50_4).f0)) = true := decide_eq_true c35
                                                      clear c35
                                                      by_cases c36 : ((rd_T30 (rd_L2 l0 x43_3) x50_4).f0) < (l0.length : Int)
                                                      · rw [if_pos c36] at H
                                                        have c36b0 : decide (((rd_T30 (rd_L2 l0 x43_3) x50_4).f0) < (l0.length : Int)) = true := decide_eq_true c36
                                                        clear c36
                                                        by_cases c37 : 0 ≤ ((rd_T30 (rd_L2 l0 x43_3) x50_4).f0)
                                                        · rw [if_pos c37] at H
                                                          have c37b0 : decide (0 ≤ ((rd_T30 (rd_L2 l0 x43_3) x50_4).f0)) = true := decide_eq_true c37
                                                          clear c37
                                                          by_cases c38 : ((rd_T30 (rd_L2 l0 x43_3) x50_4).f0) < (x6_4.length : Int)
                                                          · rw [if_pos c38] at H
                                                            have c38b0 : decide (((rd_T30 (rd_L2 l0 x43_3) x50_4).f0) < (x6_4.length : Int)) = true := decide_eq_true c38
                                                            clear c38
                                                            obtain ⟨y195, hy195⟩ : ∃ y_ : List Bool, y_ = (x6_4.set (((rd_T30 (rd_L2 l0 x43_3) x50_4).f0) : Int).toNat true) := ⟨_, rfl⟩
                                                            replace H : (kissgatelaw13_TableReach.l2 k4 l0 t184 y195 x43_3 (l0.length : Int) x39_2 l0 (l0.length : Int) x43_3 (rd_L2 l0 x43_3) ((rd_L2 l0 x43_3).length : Int) (wrap64 (x50_4 + 1))) = some r := by first | (rw [hy195]; with_reducible exact H) | (have H2_ := (Option.bind_some _ _).symm.trans H; rw [hy195]; with_reducible exact H2_) | (have H2_ := (Option.bind_some _ _).symm.trans H; with_reducible exact H2_) | with_reducible exact H | (rw [hy195]; exact H) | exact H
                                                            have Ny195 := Aside0.mk hy195
                                                            clear hy195
                                                            have H' := Aside0.mk H
                                                            clear H
                                                            have p192 : 0 ≤ (x50_4 : Int) := of_decide_eq_true (by first | (with_reducible assumption) | assumption)
                                                            have q192 : x50_4 < ((rd_L2 l0 x43_3).length : Int) := of_decide_eq_true (by first | (with_reducible assumption) | assumption)
                                                            obtain ⟨ad192, e192, hx192_0, hx192_1⟩ := at_T30 HR191_0.out x50_4 p192 q192
                                                            cases e192
                                                            replace hx192_0 := (HB.out.cell (World.block_lt_of_cell? w _ hx192_0)).trans hx192_0
                                                            replace hx192_1 := (HB.out.cell (World.block_lt_of_cell? w _ hx192_1)).trans hx192_1
                                                            replace p192 := eq_true p192
                                                            replace q192 := eq_true q192
                                                            go_wp2_with (first | ((with_reducible refine gate_dst (N := 10) rfl ?_); (try (refine gate_guard (by rfl) ?_; dsimp only)); refine box_event ?hg (N := 10) ?hd (cs := #[.int .i64 0, .int .i64 0]) (t := 30) ?hr ?_; (case hd => rfl); (case hg => rfl); (case hr => first | (go_simp; done) | (go_simp; rfl)); intro gb193 hg w40 hbox hb; have n0_ := Aside0.mk (Kd.R_below (by (with_reducible repeat (first | apply Kd.R_alloc | apply Kd.R_drewN | apply Kd.R_drew)); exact HO_5.out) hb); have n1_ := Aside0.mk (Kd.R_below (by (with_reducible repeat (first | apply Kd.R_alloc | apply Kd.R_drewN | apply Kd.R_drew)); exact HO_6.out) hb); have n2_ := Aside0.mk (below_step (by repeat (first | (with_reducible first | exact HB.out | apply below_alloc | apply pw_below_drewN | apply below_drew1) | exact HB.out)) hb); have n3_ := Aside0.mk (hbox); have n4_ := Aside0.mk ((by rw [hg]; exact (below_size (by repeat (first | (with_reducible first | exact HB.out | apply below_alloc | apply pw_below_drewN | apply below_drew1) | exact HB.out))) : w.heap.size ≤ gb193)); have n5_ := Aside0.mk ((by rw [hg]; exact (below_size (by repeat (first | (with_reducible first | exact HB.out | apply below_alloc | apply pw_below_drewN | apply below_drew1) | exact HB.out))) : w.heap.size ≤ gb193)); clear HO_5; clear HO_6; clear HB; have HO_5 := n0_; have HO_6 := n1_; have HB := n2_; have BK193 := n3_; have GW193 := n4_; have GE193 := n5_; clear n0_ n1_ n2_ n3_ n4_ n5_; clear hb hbox hg; have hcz41_0 : w40.cell? ⟨gb193, 0, none⟩ = some (.int .i64 0) := (blk_cell BK193.out 0).trans rfl; have hcz41_1 : w40.cell? ⟨gb193, 1, none⟩ = some (.int .i64 0) := (blk_cell BK193.out 1).trans rfl; have hfz41_0 := blk_frozen BK193.out 0; have hfz41_1 := blk_frozen BK193.out 1) | ((with_reducible refine gate_store (t := 30) (p := 10) rfl ?_); refine store_event (t := 30) (p := 10) (v := ?vo_w42) (w1 := ((w40.setCell ⟨gb193, 0, none⟩ (.int .i64 ((rd_T30 (rd_L2 l0 x43_3) x50_4).f0))).setCell ⟨gb193, 1, none⟩ (.int .i64 ((rd_T30 (rd_L2 l0 x43_3) x50_4).f1)))) ?hg ?ho ?hn ?hr ?_; (case ho => rfl); (case hg => rfl); (case hn => rfl); (case hr => first | (go_simp; done) | (go_simp; rfl)); intro w42 hw; have n0_ : Aside0 (Kd.R (Kd.int .i64) 3 w42 w.heap.size (fun _ => True) v185 t184) := ⟨(by rw [hw]; exact (by (with_reducible repeat (first | apply Kd.R_alloc | apply Kd.R_drewN | apply Kd.R_drew)); exact Kd.R_mono (Kd.R_far (p := ⟨gb193, 1, none⟩) (Kd.R_far (p := ⟨gb193, 0, none⟩) (Kd.R_types HO_5.out BK193.out (by decide)) (fun _ hk => hk.2) (.int .i64 ((rd_T30 (rd_L2 l0 x43_3) x50_4).f0))) (fun _ hk => hk.2) (.int .i64 ((rd_T30 (rd_L2 l0 x43_3) x50_4).f1))) (fun _ hk => trivial)))⟩; have n1_ : Aside0 (Kd.R Kd.bool 4 w42 w.heap.size (fun _ => True) (.slice (some ⟨go19, 0, none⟩) x6_4.length co19) x6_4) := ⟨(by rw [hw]; exact (by (with_reducible repeat (first | apply Kd.R_alloc | apply Kd.R_drewN | apply Kd.R_drew)); exact Kd.R_mono (Kd.R_far (p := ⟨gb193, 1, none⟩) (Kd.R_far (p := ⟨gb193, 0, none⟩) (Kd.R_types HO_6.out BK193.out (by decide)) (fun _ hk => hk.2) (.int .i64 ((rd_T30 (rd_L2 l0 x43_3) x50_4).f0))) (fun _ hk => hk.2) (.int .i64 ((rd_T30 (rd_L2 l0 x43_3) x50_4).f1))) (fun _ hk => trivial)))⟩; have n2_ : Aside0 (w42.heap[gb193]? = some (.cells #[.int .i64 ((rd_T30 (rd_L2 l0 x43_3) x50_4).f0), .int .i64 ((rd_T30 (rd_L2 l0 x43_3) x50_4).f1)] 30 (0, 0))) := ⟨(by rw [hw]; exact (by (with_reducible repeat (first | refine blk_drewN ?_ _ | refine blk_drew ?_ | refine blk_alloc ?_ _)); refine blk_put (cs := #[.int .i64 ((rd_T30 (rd_L2 l0 x43_3) x50_4).f0), .int .i64 0]) ?_ 1 _ rfl; (with_reducible repeat (first | refine blk_drewN ?_ _ | refine blk_drew ?_ | refine blk_alloc ?_ _)); refine blk_put (cs := #[.int .i64 0, .int .i64 0]) ?_ 0 _ rfl; (with_reducible repeat (first | refine blk_drewN ?_ _ | refine blk_drew ?_ | refine blk_alloc ?_ _)); exact BK193.out))⟩; have n3_ : Aside0 (Below w.heap.size w w42) := ⟨(by rw [hw]; exact (by repeat (first | (with_reducible first | exact HB.out | apply below_alloc | apply pw_below_drewN | apply below_drew1 | refine below_set ?_ GE193.out) | exact HB.out)))⟩; clear hw; clear HO_5; clear HO_6; clear BK193; clear HB; have HO_5 := n0_; have HO_6 := n1_; have BK193 := n2_; have HB := n3_; clear n0_ n1_ n2_ n3_; have p194 : 0 ≤ (x43_3 : Int) := of_decide_eq_true (by first | (with_reducible assumption) | assumption); have q194 : x43_3 < (x6_4.length : Int) := of_decide_eq_true (by first | (with_reducible assumption) | assumption); obtain ⟨ad194, e194, hx194_0⟩ := Kd.at_bool (Kd.R_reads' HO_6.out).2.2 x43_3 p194 q194; (try rw [← Nbq33.out] at hx194_0); obtain rfl : (⟨go19, 0, none⟩ : Addr) = ad194 := (by injection e194); (first | simp only [add_plain] at hx194_0 | simp only [add_at] at hx194_0 | simp only [Addr.add, Nat.zero_add] at hx194_0 | skip); replace p194 := eq_true p194; replace q194 := eq_true q194; have hcz43_0 : w42.cell? ⟨gb193, 0, none⟩ = some (.int .i64 ((rd_T30 (rd_L2 l0 x43_3) x50_4).f0)) := (blk_cell BK193.out 0).trans rfl; have hcz43_1 : w42.cell? ⟨gb193, 1, none⟩ = some (.int .i64 ((rd_T30 (rd_L2 l0 x43_3) x50_4).f1)) := (blk_cell BK193.out 1).trans rfl; have hfz43_0 := blk_frozen BK193.out 0; have hfz43_1 := blk_frozen BK193.out 1; have p39 : 0 ≤ (((rd_T30 (rd_L2 l0 x43_3) x50_4).f0) : Int) := of_decide_eq_true (by first | (with_reducible assumption) | assumption); have q39 : (((rd_T30 (rd_L2 l0 x43_3) x50_4).f0) : Int) < ((x6_4.length : Int) : Int) := of_decide_eq_true (by first | (with_reducible assumption) | assumption); obtain ⟨hx39_0, hf39_0⟩ := Kd.R_celln false HO_6.out (((rd_T30 (rd_L2 l0 x43_3) x50_4).f0) : Int) p39 q39; replace p39 := eq_true p39; replace q39 := eq_true q39; obtain ⟨hy44_, hz44_⟩ := Kd.R_celln false HO_6.out (((rd_T30 (rd_L2 l0 x43_3) x50_4).f0) : Int) (of_decide_eq_true (by first | (with_reducible assumption) | assumption)) (of_decide_eq_true (by first | (with_reducible assumption) | assumption)); have HP44 := Kd.R_putg HO_6.out (((rd_T30 (rd_L2 l0 x43_3) x50_4).f0) : Int) true) | ((with_reducible refine gate_store (t := 4) (p := 73) rfl ?_); refine store_event (t := 4) (p := 73) (v := ?vo_w45) (w1 := (w42.setCell ⟨go19, (((rd_T30 (rd_L2 l0 x43_3) x50_4).f0) : Int).toNat, none⟩ (.bool true))) ?hg ?ho ?hn ?hr ?_; (case ho => rfl); (case hg => rfl); (case hn => rfl); (case hr => first | (go_simp; done) | (go_simp; rfl)); intro w45 hw; have hg : w42.grownBy w45 (some go19) := (by rw [hw]; exact HP44.2); have hp_ : Kd.R Kd.bool 4 w45 w.heap.size (fun _ => True) (.slice (some ⟨go19, 0, none⟩) x6_4.length co19) y195 := (by rw [hw, Ny195.out]; exact HP44.1); clear HP44; have n0_ := Aside0.mk (Kd.R_over' (v := (.slice (some ⟨go19, 0, none⟩) x6_4.length co19)) (by (with_reducible repeat (first | apply Kd.R_alloc | apply Kd.R_drewN | apply Kd.R_drew)); exact HO_5.out) (Kd.R_typed HO_6.out) (by decide) hg); have n1_ := Aside0.mk (hp_); have n2_ := Aside0.mk (blk_grown (g := gb193) (o := .cells #[.int .i64 ((rd_T30 (rd_L2 l0 x43_3) x50_4).f0), .int .i64 ((rd_T30 (rd_L2 l0 x43_3) x50_4).f1)] 30 (0, 0)) (by (with_reducible repeat (first | refine blk_drewN ?_ _ | refine blk_drew ?_ | refine blk_alloc ?_ _)); exact BK193.out) hg (Kd.R_ne HO_6.out BK193.out (by decide))); have n3_ := Aside0.mk ((by rw [hw]; exact below_set (HB.out) GB19.out : Below w.heap.size w w45)); clear HO_5; clear HO_6; clear BK193; clear HB; have HO_5 := n0_; have HO_6 := n1_; have BK193 := n2_; have HB := n3_; clear n0_ n1_ n2_ n3_; clear hg hw hp_))
                                                            (try simp only [← hl6_4])
                                                            go_roundg k4
                                                            case measure => have := HJ8.out; have := HK2.out; have := HK3.out; have := HK4.out; omega
                                                            case rel => exact ⟨(y195), (wrap64 (x50_4 + 1)), (by first | rfl | (simp; done) | (simp [*]; done)), H', ⟨by have := HJ8.out; have := HK2.out; have := HK3.out; have := HK4.out; omega⟩, ⟨by (try simp only [hl6_2]); (try simp only [hl6_3]); (try simp only [hl6_4]); (with_reducible repeat (first | apply Kd.R_alloc | apply Kd.R_drewN | apply Kd.R_drew)); exact HO_5.out⟩, ⟨by (try simp only [hl6_2]); (try simp only [hl6_3]); (try simp only [hl6_4]); (with_reducible repeat (first | apply Kd.R_alloc | apply Kd.R_drewN | apply Kd.R_drew)); exact HO_6.out⟩, ⟨by repeat (first | (with_reducible first | exact HB.out | apply below_alloc | apply pw_below_drewN | apply below_drew1 | refine below_set ?_ GE193.out) | exact HB.out)⟩⟩
                                                          · rw [if_neg c38] at H
                                                            exact absurd H (by simp)
                                                        · rw [if_neg c37] at H
                                                          exact absurd H (by simp)
                                                      · rw [if_neg c36] at H
                                                        have c36b0 : decide (((rd_T30 (rd_L2 l0 x43_3) x50_4).f0) < (l0.length : Int)) = false := decide_eq_false c36
                                                        clear c36
                                                        have H' := Aside0.mk H
                                                        clear H
                                                        have p192 : 0 ≤ (x50_4 : Int) := of_decide_eq_true (by first | (with_reducible assumption) | assumption)
                                                        have q192 : x50_4 < ((rd_L2 l0 x43_3).length : Int) := of_decide_eq_true (by first | (with_reducible assumption) | assumption)
                                                        obtain ⟨ad192, e192, hx192_0, hx192_1⟩ := at_T30 HR191_0.out x50_4 p192 q192
                                                        cases e192
                                                        replace hx192_0 := (HB.out.cell (World.block_lt_of_cell? w _ hx192_0)).trans hx192_0
                                                        replace hx192_1 := (HB.out.cell (World.block_lt_of_cell? w _ hx192_1)).trans hx192_1
                                                        replace p192 := eq_true p192
                                                        replace q192 := eq_true q192
                                                        go_wp2_with (first | ((with_reducible refine gate_dst (N := 10) rfl ?_); (try (refine gate_guard (by rfl) ?_; dsimp only)); refine box_event ?hg (N := 10) ?hd (cs := #[.int .i64 0, .int .i64 0]) (t := 30) ?hr ?_; (case hd => rfl); (case hg => rfl); (case hr => first | (go_simp; done) | (go_simp; rfl)); intro gb193 hg w46 hbox hb; have n0_ := Aside0.mk (Kd.R_below (by (with_reducible repeat (first | apply Kd.R_alloc | apply Kd.R_drewN | apply Kd.R_drew)); exact HO_5.out) hb); have n1_ := Aside0.mk (Kd.R_below (by (with_reducible repeat (first | apply Kd.R_alloc | apply Kd.R_drewN | apply Kd.R_drew)); exact HO_6.out) hb); have n2_ := Aside0.mk (below_step (by repeat (first | (with_reducible first | exact HB.out | apply below_alloc | apply pw_below_drewN | apply below_drew1) | exact HB.out)) hb); have n3_ := Aside0.mk (hbox); have n4_ := Aside0.mk ((by rw [hg]; exact (below_size (by repeat (first | (with_reducible first | exact HB.out | apply below_alloc | apply pw_below_drewN | apply below_drew1) | exact HB.out))) : w.heap.size ≤ gb193)); have n5_ := Aside0.mk ((by rw [hg]; exact (below_size (by repeat (first | (with_reducible first | exact HB.out | apply below_alloc | apply pw_below_drewN | apply below_drew1) | exact HB.out))) : w.heap.size ≤ gb193)); clear HO_5; clear HO_6; clear HB; have HO_5 := n0_; have HO_6 := n1_; have HB := n2_; have BK193 := n3_; have GW193 := n4_; have GE193 := n5_; clear n0_ n1_ n2_ n3_ n4_ n5_; clear hb hbox hg; have hcz47_0 : w46.cell? ⟨gb193, 0, none⟩ = some (.int .i64 0) := (blk_cell BK193.out 0).trans rfl; have hcz47_1 : w46.cell? ⟨gb193, 1, none⟩ = some (.int .i64 0) := (blk_cell BK193.out 1).trans rfl; have hfz47_0 := blk_frozen BK193.out 0; have hfz47_1 := blk_frozen BK193.out 1; have p194 : 0 ≤ (x43_3 : Int) := of_decide_eq_true (by first | (with_reducible assumption) | assumption); have q194 : x43_3 < (x6_4.length : Int) := of_decide_eq_true (by first | (with_reducible assumption) | assumption); obtain ⟨ad194, e194, hx194_0⟩ := Kd.at_bool (Kd.R_reads' HO_6.out).2.2 x43_3 p194 q194; (try rw [← Nbq33.out] at hx194_0); obtain rfl : (⟨go19, 0, none⟩ : Addr) = ad194 := (by injection e194); (first | simp only [add_plain] at hx194_0 | simp only [add_at] at hx194_0 | simp only [Addr.add, Nat.zero_add] at hx194_0 | skip); have hn194_0 : (⟨go19, 0, none⟩ : Addr).block ≠ gb193 := Kd.own_blk (Kd.R_ne HO_6.out BK193.out (by decide)); have hn194_1 : (⟨go19, 0, none⟩ : Addr).block ≠ gb193 := Kd.own_blk (Kd.R_ne HO_6.out BK193.out (by decide)); replace hx194_0 := (cell_far (p := ⟨gb193, 0, none⟩) (by first | (rw [add_block]; exact hn194_0) | (show (Addr.add _ _).block ≠ _; rw [add_block]; exact hn194_0) | exact hn194_0) (.int .i64 ((rd_T30 (rd_L2 l0 x43_3) x50_4).f0))).trans hx194_0; replace hx194_0 := (cell_far (p := ⟨gb193, 1, none⟩) (by first | (rw [add_block]; exact hn194_1) | (show (Addr.add _ _).block ≠ _; rw [add_block]; exact hn194_1) | exact hn194_1) (.int .i64 ((rd_T30 (rd_L2 l0 x43_3) x50_4).f1))).trans hx194_0; clear hn194_0; clear hn194_1; replace p194 := eq_true p194; replace q194 := eq_true q194))
                                                        (try simp only [← hl6_4])
                                                        go_roundg k4
                                                        case measure => have := HJ8.out; have := HK2.out; have := HK3.out; have := HK4.out; omega
                                                        case rel => exact ⟨(x6_4), (wrap64 (x50_4 + 1)), (by first | rfl | (simp; done) | (simp [*]; done)), H', ⟨by have := HJ8.out; have := HK2.out; have := HK3.out; have := HK4.out; omega⟩, ⟨by (try simp only [hl6_2]); (try simp only [hl6_3]); (try simp only [hl6_4]); (with_reducible repeat (first | apply Kd.R_alloc | apply Kd.R_drewN | apply Kd.R_drew)); exact Kd.R_mono (Kd.R_far (p := ⟨gb193, 1, none⟩) (Kd.R_far (p := ⟨gb193, 0, none⟩) (Kd.R_types HO_5.out BK193.out (by decide)) (fun _ hk => hk.2) (.int .i64 ((rd_T30 (rd_L2 l0 x43_3) x50_4).f0))) (fun _ hk => hk.2) (.int .i64 ((rd_T30 (rd_L2 l0 x43_3) x50_4).f1))) (fun _ hk => trivial)⟩, ⟨by (try simp only [hl6_2]); (try simp only [hl6_3]); (try simp only [hl6_4]); (with_reducible repeat (first | apply Kd.R_alloc | apply Kd.R_drewN | apply Kd.R_drew)); exact Kd.R_mono (Kd.R_far (p := ⟨gb193, 1, none⟩) (Kd.R_far (p := ⟨gb193, 0, none⟩) (Kd.R_types HO_6.out BK193.out (by decide)) (fun _ hk => hk.2) (.int .i64 ((rd_T30 (rd_L2 l0 x43_3) x50_4).f0))) (fun _ hk => hk.2) (.int .i64 ((rd_T30 (rd_L2 l0 x43_3) x50_4).f1))) (fun _ hk => trivial)⟩, ⟨by repeat (first | (with_reducible first | exact HB.out | apply below_alloc | apply pw_below_drewN | apply below_drew1 | refine below_set ?_ GE193.out) | exact HB.out)⟩⟩
                                                    · rw [if_neg c35] at H
                                                      have c35b0 : decide (0 ≤ ((rd_T30 (rd_L2 l0 x43_3) x50_4).f0)) = false := decide_eq_false c35
                                                      clear c35
                                                      have H' := Aside0.mk H
                                                      clear H
                                                      have p192 : 0 ≤ (x50_4 : Int) := of_decide_eq_true (by first | (with_reducible assumption) | assumption)
                                                      have q192 : x50_4 < ((rd_L2 l0 x43_3).length : Int) := of_decide_eq_true (by first | (with_reducible assumption) | assumption)
                                                      obtain ⟨ad192, e192, hx192_0, hx192_1⟩ := at_T30 HR191_0.out x50_4 p192 q192
                                                      cases e192
                                                      replace hx192_0 := (HB.out.cell (World.block_lt_of_cell? w _ hx192_0)).trans hx192_0
                                                      replace hx192_1 := (HB.out.cell (World.block_lt_of_cell? w _ hx192_1)).trans hx192_1
                                                      replace p192 := eq_true p192
                                                      replace q192 := eq_true q192
                                                      go_wp2_with (first | ((with_reducible refine gate_dst (N := 10) rfl ?_); (try (refine gate_guard (by rfl) ?_; dsimp only)); refine box_event ?hg (N := 10) ?hd (cs := #[.int .i64 0, .int .i64 0]) (t := 30) ?hr ?_; (case hd => rfl); (case hg => rfl); (case hr => first | (go_simp; done) | (go_simp; rfl)); intro gb193 hg w48 hbox hb; have n0_ := Aside0.mk (Kd.R_below (by (with_reducible repeat (first | apply Kd.R_alloc | apply Kd.R_drewN | apply Kd.R_drew)); exact HO_5.out) hb); have n1_ := Aside0.mk (Kd.R_below (by (with_reducible repeat (first | apply Kd.R_alloc | apply Kd.R_drewN | apply Kd.R_drew)); exact HO_6.out) hb); have n2_ := Aside0.mk (below_step (by repeat (first | (with_reducible first | exact HB.out | apply below_alloc | apply pw_below_drewN | apply below_drew1) | exact HB.out)) hb); have n3_ := Aside0.mk (hbox); have n4_ := Aside0.mk ((by rw [hg]; exact (below_size (by repeat (first | (with_reducible first | exact HB.out | apply below_alloc | apply pw_below_drewN | apply below_drew1) | exact HB.out))) : w.heap.size ≤ gb193)); have n5_ := Aside0.mk ((by rw [hg]; exact (below_size (by repeat (first | (with_reducible first | exact HB.out | apply below_alloc | apply pw_below_drewN | apply below_drew1) | exact HB.out))) : w.heap.size ≤ gb193)); clear HO_5; clear HO_6; clear HB; have HO_5 := n0_; have HO_6 := n1_; have HB := n2_; have BK193 := n3_; have GW193 := n4_; have GE193 := n5_; clear n0_ n1_ n2_ n3_ n4_ n5_; clear hb hbox hg; have hcz49_0 : w48.cell? ⟨gb193, 0, none⟩ = some (.int .i64 0) := (blk_cell BK193.out 0).trans rfl; have hcz49_1 : w48.cell? ⟨gb193, 1, none⟩ = some (.int .i64 0) := (blk_cell BK193.out 1).trans rfl; have hfz49_0 := blk_frozen BK193.out 0; have hfz49_1 := blk_frozen BK193.out 1; have p194 : 0 ≤ (x43_3 : Int) := of_decide_eq_true (by first | (with_reducible assumption) | assumption); have q194 : x43_3 < (x6_4.length : Int) := of_decide_eq_true (by first | (with_reducible assumption) | assumption); obtain ⟨ad194, e194, hx194_0⟩ := Kd.at_bool (Kd.R_reads' HO_6.out).2.2 x43_3 p194 q194; (try rw [← Nbq33.out] at hx194_0); obtain rfl : (⟨go19, 0, none⟩ : Addr) = ad194 := (by injection e194); (first | simp only [add_plain] at hx194_0 | simp only [add_at] at hx194_0 | simp only [Addr.add, Nat.zero_add] at hx194_0 | skip); have hn194_0 : (⟨go19, 0, none⟩ : Addr).block ≠ gb193 := Kd.own_blk (Kd.R_ne HO_6.out BK193.out (by decide)); have hn194_1 : (⟨go19, 0, none⟩ : Addr).block ≠ gb193 := Kd.own_blk (Kd.R_ne HO_6.out BK193.out (by decide)); replace hx194_0 := (cell_far (p := ⟨gb193, 0, none⟩) (by first | (rw [add_block]; exact hn194_0) | (show (Addr.add _ _).block ≠ _; rw [add_block]; exact hn194_0) | exact hn194_0) (.int .i64 ((rd_T30 (rd_L2 l0 x43_3) x50_4).f0))).trans hx194_0; replace hx194_0 := (cell_far (p := ⟨gb193, 1, none⟩) (by first | (rw [add_block]; exact hn194_1) | (show (Addr.add _ _).block ≠ _; rw [add_block]; exact hn194_1) | exact hn194_1) (.int .i64 ((rd_T30 (rd_L2 l0 x43_3) x50_4).f1))).trans hx194_0; clear hn194_0; clear hn194_1; replace p194 := eq_true p194; replace q194 := eq_true q194))
                                                      (try simp only [← hl6_4])
                                                      go_roundg k4
                                                      case measure => have := HJ8.out; have := HK2.out; have := HK3.out; have := HK4.out; omega
                                                      case rel => exact ⟨(x6_4), (wrap64 (x50_4 + 1)), (by first | rfl | (simp; done) | (simp [*]; done)), H', ⟨by have := HJ8.out; have := HK2.out; have := HK3.out; have := HK4.out; omega⟩, ⟨by (try simp only [hl6_2]); (try simp only [hl6_3]); (try simp only [hl6_4]); (with_reducible repeat (first | apply Kd.R_alloc | apply Kd.R_drewN | apply Kd.R_drew)); exact Kd.R_mono (Kd.R_far (p := ⟨gb193, 1, none⟩) (Kd.R_far (p := ⟨gb193, 0, none⟩) (Kd.R_types HO_5.out BK193.out (by decide)) (fun _ hk => hk.2) (.int .i64 ((rd_T30 (rd_L2 l0 x43_3) x50_4).f0))) (fun _ hk => hk.2) (.int .i64 ((rd_T30 (rd_L2 l0 x43_3) x50_4).f1))) (fun _ hk => trivial)⟩, ⟨by (try simp only [hl6_2]); (try simp only [hl6_3]); (try simp only [hl6_4]); (with_reducible repeat (first | apply Kd.R_alloc | apply Kd.R_drewN | apply Kd.R_drew)); exact Kd.R_mono (Kd.R_far (p := ⟨gb193, 1, none⟩) (Kd.R_far (p := ⟨gb193, 0, none⟩) (Kd.R_types HO_6.out BK193.out (by decide)) (fun _ hk => hk.2) (.int .i64 ((rd_T30 (rd_L2 l0 x43_3) x50_4).f0))) (fun _ hk => hk.2) (.int .i64 ((rd_T30 (rd_L2 l0 x43_3) x50_4).f1))) (fun _ hk => trivial)⟩, ⟨by repeat (first | (with_reducible first | exact HB.out | apply below_alloc | apply pw_below_drewN | apply below_drew1 | refine below_set ?_ GE193.out) | exact HB.out)⟩⟩
                                                  · replace c34 := Bool.eq_false_iff.mpr c34
                                                    subst c34
                                                    have H1 : (kissgatelaw13_TableReach.l2 k4 l0 t184 x6_4 x43_3 (l0.length : Int) x39_2 l0 (l0.length : Int) x43_3 (rd_L2 l0 x43_3) ((rd_L2 l0 x43_3).length : Int) (wrap64 (x50_4 + 1))) = some r := by rw [if_neg (show ¬ (false = true) by decide)] at H; exact H
                                                    clear H
                                                    have H := H1
                                                    clear H1
                                                    have H' := Aside0.mk H
                                                    clear H
                                                    have p192 : 0 ≤ (x50_4 : Int) := of_decide_eq_true (by first | (with_reducible assumption) | assumption)
                                                    have q192 : x50_4 < ((rd_L2 l0 x43_3).length : Int) := of_decide_eq_true (by first | (with_reducible assumption) | assumption)
                                                    obtain ⟨ad192, e192, hx192_0, hx192_1⟩ := at_T30 HR191_0.out x50_4 p192 q192
                                                    cases e192
                                                    replace hx192_0 := (HB.out.cell (World.block_lt_of_cell? w _ hx192_0)).trans hx192_0
                                                    replace hx192_1 := (HB.out.cell (World.block_lt_of_cell? w _ hx192_1)).trans hx192_1
                                                    replace p192 := eq_true p192
                                                    replace q192 := eq_true q192
                                                    go_wp2_with (first | ((with_reducible refine gate_dst (N := 10) rfl ?_); (try (refine gate_guard (by rfl) ?_; dsimp only)); refine box_event ?hg (N := 10) ?hd (cs := #[.int .i64 0, .int .i64 0]) (t := 30) ?hr ?_; (case hd => rfl); (case hg => rfl); (case hr => first | (go_simp; done) | (go_simp; rfl)); intro gb193 hg w50 hbox hb; have n0_ := Aside0.mk (Kd.R_below (by (with_reducible repeat (first | apply Kd.R_alloc | apply Kd.R_drewN | apply Kd.R_drew)); exact HO_5.out) hb); have n1_ := Aside0.mk (Kd.R_below (by (with_reducible repeat (first | apply Kd.R_alloc | apply Kd.R_drewN | apply Kd.R_drew)); exact HO_6.out) hb); have n2_ := Aside0.mk (below_step (by repeat (first | (with_reducible first | exact HB.out | apply below_alloc | apply pw_below_drewN | apply below_drew1) | exact HB.out)) hb); have n3_ := Aside0.mk (hbox); have n4_ := Aside0.mk ((by rw [hg]; exact (below_size (by repeat (first | (with_reducible first | exact HB.out | apply below_alloc | apply pw_below_drewN | apply below_drew1) | exact HB.out))) : w.heap.size ≤ gb193)); have n5_ := Aside0.mk ((by rw [hg]; exact (below_size (by repeat (first | (with_reducible first | exact HB.out | apply below_alloc | apply pw_below_drewN | apply below_drew1) | exact HB.out))) : w.heap.size ≤ gb193)); clear HO_5; clear HO_6; clear HB; have HO_5 := n0_; have HO_6 := n1_; have HB := n2_; have BK193 := n3_; have GW193 := n4_; have GE193 := n5_; clear n0_ n1_ n2_ n3_ n4_ n5_; clear hb hbox hg; have hcz51_0 : w50.cell? ⟨gb193, 0, none⟩ = some (.int .i64 0) := (blk_cell BK193.out 0).trans rfl; have hcz51_1 : w50.cell? ⟨gb193, 1, none⟩ = some (.int .i64 0) := (blk_cell BK193.out 1).trans rfl; have hfz51_0 := blk_frozen BK193.out 0; have hfz51_1 := blk_frozen BK193.out 1; have p194 : 0 ≤ (x43_3 : Int) := of_decide_eq_true (by first | (with_reducible assumption) | assumption); have q194 : x43_3 < (x6_4.length : Int) := of_decide_eq_true (by first | (with_reducible assumption) | assumption); obtain ⟨ad194, e194, hx194_0⟩ := Kd.at_bool (Kd.R_reads' HO_6.out).2.2 x43_3 p194 q194; (try rw [← Nbq33.out] at hx194_0); obtain rfl : (⟨go19, 0, none⟩ : Addr) = ad194 := (by injection e194); (first | simp only [add_plain] at hx194_0 | simp only [add_at] at hx194_0 | simp only [Addr.add, Nat.zero_add] at hx194_0 | skip); have hn194_0 : (⟨go19, 0, none⟩ : Addr).block ≠ gb193 := Kd.own_blk (Kd.R_ne HO_6.out BK193.out (by decide)); have hn194_1 : (⟨go19, 0, none⟩ : Addr).block ≠ gb193 := Kd.own_blk (Kd.R_ne HO_6.out BK193.out (by decide)); replace hx194_0 := (cell_far (p := ⟨gb193, 0, none⟩) (by first | (rw [add_block]; exact hn194_0) | (show (Addr.add _ _).block ≠ _; rw [add_block]; exact hn194_0) | exact hn194_0) (.int .i64 ((rd_T30 (rd_L2 l0 x43_3) x50_4).f0))).trans hx194_0; replace hx194_0 := (cell_far (p := ⟨gb193, 1, none⟩) (by first | (rw [add_block]; exact hn194_1) | (show (Addr.add _ _).block ≠ _; rw [add_block]; exact hn194_1) | exact hn194_1) (.int .i64 ((rd_T30 (rd_L2 l0 x43_3) x50_4).f1))).trans hx194_0; clear hn194_0; clear hn194_1; replace p194 := eq_true p194; replace q194 := eq_true q194))
                                                    (try simp only [← hl6_4])
                                                    go_roundg k4
                                                    case measure => have := HJ8.out; have := HK2.out; have := HK3.out; have := HK4.out; omega
                                                    case rel => exact ⟨(x6_4), (wrap64 (x50_4 + 1)), (by first | rfl | (simp; done) | (simp [*]; done)), H', ⟨by have := HJ8.out; have := HK2.out; have := HK3.out; have := HK4.out; omega⟩, ⟨by (try simp only [hl6_2]); (try simp only [hl6_3]); (try simp only [hl6_4]); (with_reducible repeat (first | apply Kd.R_alloc | apply Kd.R_drewN | apply Kd.R_drew)); exact Kd.R_mono (Kd.R_far (p := ⟨gb193, 1, none⟩) (Kd.R_far (p := ⟨gb193, 0, none⟩) (Kd.R_types HO_5.out BK193.out (by decide)) (fun _ hk => hk.2) (.int .i64 ((rd_T30 (rd_L2 l0 x43_3) x50_4).f0))) (fun _ hk => hk.2) (.int .i64 ((rd_T30 (rd_L2 l0 x43_3) x50_4).f1))) (fun _ hk => trivial)⟩, ⟨by (try simp only [hl6_2]); (try simp only [hl6_3]); (try simp only [hl6_4]); (with_reducible repeat (first | apply Kd.R_alloc | apply Kd.R_drewN | apply Kd.R_drew)); exact Kd.R_mono (Kd.R_far (p := ⟨gb193, 1, none⟩) (Kd.R_far (p := ⟨gb193, 0, none⟩) (Kd.R_types HO_6.out BK193.out (by decide)) (fun _ hk => hk.2) (.int .i64 ((rd_T30 (rd_L2 l0 x43_3) x50_4).f0))) (fun _ hk => hk.2) (.int .i64 ((rd_T30 (rd_L2 l0 x43_3) x50_4).f1))) (fun _ hk => trivial)⟩, ⟨by repeat (first | (with_reducible first | exact HB.out | apply below_alloc | apply pw_below_drewN | apply below_drew1 | refine below_set ?_ GE193.out) | exact HB.out)⟩⟩
                                                · rw [if_neg c32] at H
                                                  exact absurd H (by simp)
                                              · rw [if_neg c31] at H
                                                exact absurd H (by simp)
                                            · rw [if_neg c30] at H
                                              exact absurd H (by simp)
                                          · rw [if_neg c29] at H
                                            exact absurd H (by simp)
                                        · rw [if_neg c28] at H
                                          have c28b0 : decide (x50_4 < ((rd_L2 l0 x43_3).length : Int)) = false := decide_eq_false c28
                                          clear c28
                                          have H' := Aside0.mk H
                                          clear H
                                          go_wp2
                                          (try simp only [← hl6_3, ← hl6_4])
                                          go_roundg k4
                                          case measure => have := HJ8.out; have := HK2.out; have := HK3.out; have := HK4.out; omega
                                          case rel => exact ⟨(x6_4), (wrap64 (x43_3 + 1)), (by first | rfl | (simp; done) | (simp [*]; done)), H', ⟨by have := HJ8.out; have := HK2.out; have := HK3.out; have := HK4.out; omega⟩, ⟨by (try simp only [hl6_2]); (try simp only [hl6_3]); (try simp only [hl6_4]); (with_reducible repeat (first | apply Kd.R_alloc | apply Kd.R_drewN | apply Kd.R_drew)); exact HO_5.out⟩, ⟨by (try simp only [hl6_2]); (try simp only [hl6_3]); (try simp only [hl6_4]); (with_reducible repeat (first | apply Kd.R_alloc | apply Kd.R_drewN | apply Kd.R_drew)); exact HO_6.out⟩, ⟨by repeat (first | (with_reducible first | exact HB.out | apply below_alloc | apply pw_below_drewN | apply below_drew1) | exact HB.out)⟩⟩
                                  · rw [if_neg c27] at H
                                    exact absurd H (by simp)
                                · rw [if_neg c26] at H
                                  exact absurd H (by simp)
                              · rw [if_neg c25] at H
                                have c25b0 : decide (x43_3 < (l0.length : Int)) = false := decide_eq_false c25
                                clear c25
                                have H' := Aside0.mk H
                                clear H
                                go_wp2
                                (try simp only [← hl6_2, ← hl6_3])
                                go_roundg k3
                                case measure => have := HJ8.out; have := HK2.out; have := HK3.out; omega
                                case rel => exact ⟨(x6_3), (wrap64 (x39_2 + 1)), (by first | rfl | (simp; done) | (simp [*]; done)), H', ⟨by have := HJ8.out; have := HK2.out; have := HK3.out; omega⟩, ⟨by (try simp only [hl6_2]); (try simp only [hl6_3]); (with_reducible repeat (first | apply Kd.R_alloc | apply Kd.R_drewN | apply Kd.R_drew)); exact HO_5.out⟩, ⟨by (try simp only [hl6_2]); (try simp only [hl6_3]); (with_reducible repeat (first | apply Kd.R_alloc | apply Kd.R_drewN | apply Kd.R_drew)); exact HO_6.out⟩, ⟨by repeat (first | (with_reducible first | exact HB.out | apply below_alloc | apply pw_below_drewN | apply below_drew1) | exact HB.out)⟩⟩
                        · rw [if_neg c24] at H
                          have c24b0 : decide (x39_2 < (l0.length : Int)) = false := decide_eq_false c24
                          clear c24
                          have H' := Aside0.mk H
                          clear H
                          go_wp2
                          go_loopg [11, 79] k2 (fun kq v11 v79 w' => ∃ (x11_3 : List Int) (x79_3 : Int), v79 = .int .i64 x79_3 ∧ Aside0 (kissgatelaw13_TableReach.l3 kq t184 x6_2 x11_3 (l0.length : Int) x79_3 = some r) ∧ Aside0 (kq ≤ k2) ∧ Aside0 (Kd.R (Kd.int .i64) 3 w' w.heap.size (fun k_ => some k_ ≠ (v11 : Value).ownBlock) v185 t184) ∧ Aside0 (Kd.R Kd.bool 4 w' w.heap.size (fun _ => True) (.slice (some ⟨go19, 0, none⟩) x6_2.length co19) x6_2) ∧ Aside0 (Kd.R (Kd.int .i64) 3 w' w.heap.size (fun k_ => some k_ ≠ (v185 : Value).ownBlock) v11 x11_3) ∧ Aside0 (Below w.heap.size w w'))
                          case atStart => exact ⟨(([] : List Int)), (0), (by first | rfl | (simp; done) | (simp [*]; done)), H', ⟨Nat.le_refl _⟩, ⟨by (try simp only [hl6_2]); (with_reducible repeat (first | apply Kd.R_alloc | apply Kd.R_drewN | apply Kd.R_drew)); exact Kd.R_mono HO_5.out (fun _ hk => (by simp [Value.ownBlock]))⟩, ⟨by (try simp only [hl6_2]); (with_reducible repeat (first | apply Kd.R_alloc | apply Kd.R_drewN | apply Kd.R_drew)); exact HO_6.out⟩, ⟨by (try simp only [hl6_2]); first | exact Kd.R_nil _ _ _ _ _ | exact Kd.N_nil _ _ _ _ _ | exact Kd.V_nil _ _ _ _ _ | exact Kd.Q_nil _ _ _ _ _ | exact Kd.S_nil _ _ _ _ _⟩, ⟨by repeat (first | (with_reducible first | exact HB.out | apply below_alloc | apply pw_below_drewN | apply below_drew1) | exact HB.out)⟩⟩
                          case round =>
                            clear H'
                            try clear c1
                            try clear p1
                            try clear q1
                            try clear hx1
                            try clear c2
                            try clear p2
                            try clear c3
                            try clear p3
                            try clear q3
                            try clear hx3
                            try clear hf3
                            try clear c4
                            try clear c6
                            try clear p6
                            try clear c12
                            try clear c12b0
                            try clear c13
                            try clear c14
                            try clear c15
                            try clear c15b0
                            try clear c15b1
                            try clear c16
                            try clear c16b0
                            try clear c16b1
                            try clear c17
                            try clear c17b0
                            try clear c18
                            try clear c18b0
                            try clear c19
                            try clear p19
                            try clear q19
                            try clear hx19
                            try clear hf19
                            try clear c24
                            try clear c24b0
                            try clear c25
                            try clear c25b0
                            try clear c26
                            try clear c26b0
                            try clear c27
                            try clear c27b0
                            try clear c28
                            try clear c28b0
                            try clear c29
                            try clear c29b0
                            try clear c30
                            try clear c30b0
                            try clear c31
                            try clear c31b0
                            try clear c32
                            try clear c32b0
                            try clear q33
                            try clear c34
                            try clear c35
                            try clear c35b0
                            try clear c36
                            try clear c36b0
                            try clear c37
                            try clear c37b0
                            try clear c38
                            try clear c38b0
                            try clear p39
                            try clear q39
                            try clear hx39
                            try clear hf39
                            try clear hcz41_0
                            try clear hcz41_1
                            try clear hcz43_0
                            try clear hcz43_1
                            try clear hcz47_0
                            try clear hcz47_1
                            try clear hcz49_0
                            try clear hcz49_1
                            try clear hcz51_0
                            try clear hcz51_1
                            try clear hfz41_0
                            try clear hfz41_1
                            try clear hfz43_0
                            try clear hfz43_1
                            try clear hfz47_0
                            try clear hfz47_1
                            try clear hfz49_0
                            try clear hfz49_1
                            try clear hfz51_0
                            try clear hfz51_1
                            try clear hx191_0
                            try clear hx192_0
                            try clear hx192_1
                            try clear hx194_0
                            try clear hx19_0
                            try clear hx39_0
                            try clear p1
                            try clear p19
                            try clear p191
                            try clear p192
                            try clear p194
                            try clear p2
                            try clear p39
                            try clear q1
                            try clear q19
                            try clear q191
                            try clear q192
                            try clear q194
                            try clear q39
                            obtain ⟨x11_3, x79_3, rfl, HA, HK3, HO_5, HO_6, HO_11, HB⟩ := hrel
                            cases gk with
                            | zero => exact absurd HA.out (by simp [kissgatelaw13_TableReach.l3])
                            | succ k3 =>
                              have H := HA.out
                              clear HA
                              simp only [kissgatelaw13_TableReach.l3] at H
                              by_cases c52 : x79_3 < (l0.length : Int)
                              · rw [if_pos c52] at H
                                have c52b0 : decide (x79_3 < (l0.length : Int)) = true := decide_eq_true c52
                                clear c52
                                by_cases c53 : 0 ≤ x79_3
                                · rw [if_pos c53] at H
                                  have c53b0 : decide (0 ≤ x79_3) = true := decide_eq_true c53
                                  clear c53
                                  by_cases c54 : x79_3 < (x6_2.length : Int)
                                  · rw [if_pos c54] at H
                                    have c54b0 : decide (x79_3 < (x6_2.length : Int)) = true := decide_eq_true c54
                                    clear c54
                                    obtain ⟨bq55, hbq55⟩ : ∃ b_ : Bool, b_ = (rdOf false x6_2 x79_3) := ⟨_, rfl⟩
                                    replace H : (if bq55 = true then (if x11_3.length < 17592186044416 then (kissgatelaw13_TableReach.l3 k3 t184 x6_2 (x11_3 ++ [x79_3]) (l0.length : Int) (wrap64 (x79_3 + 1))) else (none)) else (kissgatelaw13_TableReach.l3 k3 t184 x6_2 x11_3 (l0.length : Int) (wrap64 (x79_3 + 1)))) = some r := by rw [← hbq55] at H; exact H
                                    have Nbq55 := Aside0.mk hbq55
                                    clear hbq55
                                    by_cases c56 : bq55 = true
                                    · subst c56
                                      have H1 : (if x11_3.length < 17592186044416 then (kissgatelaw13_TableReach.l3 k3 t184 x6_2 (x11_3 ++ [x79_3]) (l0.length : Int) (wrap64 (x79_3 + 1))) else (none)) = some r := by rw [if_pos rfl] at H; exact H
                                      clear H
                                      have H := H1
                                      clear H1
                                      by_cases c57 : x11_3.length < 17592186044416
                                      · rw [if_pos c57] at H
                                        have LMc57 := Aside0.mk c57
                                        clear c57
                                        obtain ⟨y197, hy197⟩ : ∃ y_ : List Int, y_ = (x11_3 ++ [x79_3]) := ⟨_, rfl⟩
                                        replace H : (kissgatelaw13_TableReach.l3 k3 t184 x6_2 y197 (l0.length : Int) (wrap64 (x79_3 + 1))) = some r := by first | (rw [hy197]; with_reducible exact H) | (have H2_ := (Option.bind_some _ _).symm.trans H; rw [hy197]; with_reducible exact H2_) | (have H2_ := (Option.bind_some _ _).symm.trans H; with_reducible exact H2_) | with_reducible exact H | (rw [hy197]; exact H) | exact H
                                        have Ny197 := Aside0.mk hy197
                                        clear hy197
                                        have H' := Aside0.mk H
                                        clear H
                                        have p196 : 0 ≤ (x79_3 : Int) := of_decide_eq_true (by first | (with_reducible assumption) | assumption)
                                        have q196 : x79_3 < (x6_2.length : Int) := of_decide_eq_true (by first | (with_reducible assumption) | assumption)
                                        obtain ⟨ad196, e196, hx196_0⟩ := Kd.at_bool (Kd.R_reads' HO_6.out).2.2 x79_3 p196 q196
                                        (try rw [← Nbq55.out] at hx196_0)
                                        obtain rfl : (⟨go19, 0, none⟩ : Addr) = ad196 := (by injection e196)
                                        (first | simp only [add_plain] at hx196_0 | simp only [add_at] at hx196_0 | simp only [Addr.add, Nat.zero_add] at hx196_0 | skip)
                                        replace p196 := eq_true p196
                                        replace q196 := eq_true q196
                                        go_wp2_with (first | ((with_reducible refine gate_builtin (b := .append) (xs := #[.tmp 86, .tmp 88]) rfl ?_); (try (refine gate_guard (by rfl) ?_; dsimp only)); at_builtin; refine Kd.R_append (Kd.int .i64) (w0 := w) w.heap.size rfl (.tmp 86) (.tmp 88) 24 3 (.int .i64 0) 8 rfl Try.underlying24 info3 rfl (by decide) (by omega) u11 x11_3 x79_3 [.int .i64 x79_3] (fun k_ => some k_ ≠ (v185 : Value).ownBlock) (fun _ => False) rfl rfl ?aP (fun _ hk => hk.elim) ?aF ?aO ?aB ?aS ?aL ?_; (case aP => exact rfl); (case aB => exact (by repeat (first | (with_reducible first | exact HB.out | apply below_alloc | apply pw_below_drewN | apply below_drew1) | exact HB.out))); (case aF => exact (fun k_ hk => Kd.fresh' (Kd.R_lt (by (with_reducible repeat (first | apply Kd.R_alloc | apply Kd.R_drewN | apply Kd.R_drew)); exact HO_5.out)) k_ hk)); (case aO => exact (by (with_reducible repeat (first | apply Kd.R_alloc | apply Kd.R_drewN | apply Kd.R_drew)); exact HO_11.out)); (case aS => exact (below_size (by repeat (first | (with_reducible first | exact HB.out | apply below_alloc | apply pw_below_drewN | apply below_drew1) | exact HB.out)))); (case aL => have := LMc57.out; omega); intro v198 w58 ho hb hg hat; rw [← Ny197.out] at ho; have n0_ := Aside0.mk (Kd.R_after (ok := (fun _ => True)) (by (with_reducible repeat (first | apply Kd.R_alloc | apply Kd.R_drewN | apply Kd.R_drew)); exact Kd.R_mono HO_5.out (fun _ hk => ⟨trivial, hk⟩)) hg hat); have n1_ := Aside0.mk (Kd.R_over' (by (with_reducible repeat (first | apply Kd.R_alloc | apply Kd.R_drewN | apply Kd.R_drew)); exact HO_6.out) (Kd.R_typed (by (with_reducible repeat (first | apply Kd.R_alloc | apply Kd.R_drewN | apply Kd.R_drew)); exact HO_11.out)) (by decide) hg); have n2_ := Aside0.mk (hb); have n3_ := Aside0.mk (ho); clear HO_5; clear HO_6; clear HB; clear HO_11; have HO_5 := n0_; have HO_6 := n1_; have HB := n2_; have HO199 := n3_; clear n0_ n1_ n2_ n3_; clear ho hb hg hat))
                                        go_roundg k3
                                        case measure => have := HJ8.out; have := HK2.out; have := HK3.out; omega
                                        case rel => exact ⟨(y197), (wrap64 (x79_3 + 1)), (by first | rfl | (simp; done) | (simp [*]; done)), H', ⟨by have := HJ8.out; have := HK2.out; have := HK3.out; omega⟩, ⟨by (try simp only [hl6_2]); (with_reducible repeat (first | apply Kd.R_alloc | apply Kd.R_drewN | apply Kd.R_drew)); exact Kd.R_mono HO_5.out (fun _ hk => hk.2)⟩, ⟨by (try simp only [hl6_2]); (with_reducible repeat (first | apply Kd.R_alloc | apply Kd.R_drewN | apply Kd.R_drew)); exact HO_6.out⟩, ⟨by (try simp only [hl6_2]); (with_reducible repeat (first | apply Kd.R_alloc | apply Kd.R_drewN | apply Kd.R_drew)); exact HO199.out⟩, ⟨by repeat (first | (with_reducible first | exact HB.out | apply below_alloc | apply pw_below_drewN | apply below_drew1) | exact HB.out)⟩⟩
                                      · rw [if_neg c57] at H
                                        exact absurd H (by simp)
                                    · replace c56 := Bool.eq_false_iff.mpr c56
                                      subst c56
                                      have H1 : (kissgatelaw13_TableReach.l3 k3 t184 x6_2 x11_3 (l0.length : Int) (wrap64 (x79_3 + 1))) = some r := by rw [if_neg (show ¬ (false = true) by decide)] at H; exact H
                                      clear H
                                      have H := H1
                                      clear H1
                                      have H' := Aside0.mk H
                                      clear H
                                      have p196 : 0 ≤ (x79_3 : Int) := of_decide_eq_true (by first | (with_reducible assumption) | assumption)
                                      have q196 : x79_3 < (x6_2.length : Int) := of_decide_eq_true (by first | (with_reducible assumption) | assumption)
                                      obtain ⟨ad196, e196, hx196_0⟩ := Kd.at_bool (Kd.R_reads' HO_6.out).2.2 x79_3 p196 q196
                                      (try rw [← Nbq55.out] at hx196_0)
                                      obtain rfl : (⟨go19, 0, none⟩ : Addr) = ad196 := (by injection e196)
                                      (first | simp only [add_plain] at hx196_0 | simp only [add_at] at hx196_0 | simp only [Addr.add, Nat.zero_add] at hx196_0 | skip)
                                      replace p196 := eq_true p196
                                      replace q196 := eq_true q196
                                      go_wp2
                                      go_roundg k3
                                      case measure => have := HJ8.out; have := HK2.out; have := HK3.out; omega
                                      case rel => exact ⟨(x11_3), (wrap64 (x79_3 + 1)), (by first | rfl | (simp; done) | (simp [*]; done)), H', ⟨by have := HJ8.out; have := HK2.out; have := HK3.out; omega⟩, ⟨by (try simp only [hl6_2]); (with_reducible repeat (first | apply Kd.R_alloc | apply Kd.R_drewN | apply Kd.R_drew)); exact HO_5.out⟩, ⟨by (try simp only [hl6_2]); (with_reducible repeat (first | apply Kd.R_alloc | apply Kd.R_drewN | apply Kd.R_drew)); exact HO_6.out⟩, ⟨by (try simp only [hl6_2]); (with_reducible repeat (first | apply Kd.R_alloc | apply Kd.R_drewN | apply Kd.R_drew)); exact HO_11.out⟩, ⟨by repeat (first | (with_reducible first | exact HB.out | apply below_alloc | apply pw_below_drewN | apply below_drew1) | exact HB.out)⟩⟩
                                  · rw [if_neg c54] at H
                                    exact absurd H (by simp)
                                · rw [if_neg c53] at H
                                  exact absurd H (by simp)
                              · rw [if_neg c52] at H
                                have c52b0 : decide (x79_3 < (l0.length : Int)) = false := decide_eq_false c52
                                clear c52
                                replace H := Option.bind_eq_some_iff.mp H
                                obtain ⟨t200, A590, H⟩ := H
                                replace H : (if t200 = true then ((table_Registrar.f).bind fun t201 => ((table_Reach.f k3 t201 0).bind fun t204 => (if (t204.length : Int) = 3 then ((table_Applicant.f).bind fun t207 => ((table_Reach.f k3 t207 0).bind fun t210 => (some ((t210.length : Int) == 5)))) else (some false)))) else (some false)) = some r := H
                                have A59 := Aside0.mk A590
                                clear A590
                                by_cases c60 : t200 = true
                                · subst c60
                                  have H1 : ((table_Registrar.f).bind fun t201 => ((table_Reach.f k3 t201 0).bind fun t204 => (if (t204.length : Int) = 3 then ((table_Applicant.f).bind fun t207 => ((table_Reach.f k3 t207 0).bind fun t210 => (some ((t210.length : Int) == 5)))) else (some false)))) = some r := by rw [if_pos rfl] at H; exact H
                                  clear H
                                  have H := H1
                                  clear H1
                                  replace H := Option.bind_eq_some_iff.mp H
                                  obtain ⟨t201, A610, H⟩ := H
                                  replace H : ((table_Reach.f k3 t201 0).bind fun t204 => (if (t204.length : Int) = 3 then ((table_Applicant.f).bind fun t207 => ((table_Reach.f k3 t207 0).bind fun t210 => (some ((t210.length : Int) == 5)))) else (some false))) = some r := H
                                  have A61 := Aside0.mk A610
                                  clear A610
                                  replace H := Option.bind_eq_some_iff.mp H
                                  obtain ⟨t204, A620, H⟩ := H
                                  replace H : (if (t204.length : Int) = 3 then ((table_Applicant.f).bind fun t207 => ((table_Reach.f k3 t207 0).bind fun t210 => (some ((t210.length : Int) == 5)))) else (some false)) = some r := H
                                  have A62 := Aside0.mk A620
                                  clear A620
                                  by_cases c63 : (t204.length : Int) = 3
                                  · rw [if_pos c63] at H
                                    have c63b0 : ((t204.length : Int) == 3) = true := beq_iff_eq.mpr c63
                                    have c63b1 : ((t204.length : Int) != 3) = false := bne_eq_false_iff_eq.mpr c63
                                    clear c63
                                    replace H := Option.bind_eq_some_iff.mp H
                                    obtain ⟨t207, A640, H⟩ := H
                                    replace H : ((table_Reach.f k3 t207 0).bind fun t210 => (some ((t210.length : Int) == 5))) = some r := H
                                    have A64 := Aside0.mk A640
                                    clear A640
                                    replace H := Option.bind_eq_some_iff.mp H
                                    obtain ⟨t210, A650, H⟩ := H
                                    replace H : (some ((t210.length : Int) == 5)) = some r := H
                                    have A65 := Aside0.mk A650
                                    clear A650
                                    obtain rfl := Option.some.inj H
                                    obtain ⟨Ao66, co66, eo66⟩ := Kd.R_slice HO_5.out
                                    subst eo66
                                    obtain ⟨Ao67, co67, eo67⟩ := Kd.R_slice HO_11.out
                                    subst eo67
                                    go_wp2_with (first | ((with_reducible refine gate_callee (f := 24) rfl ?_); refine goesL_ (some 93) rfl rfl Try.func24 (by kernel_rfl) rfl #[.slice Ao66 t184.length co66, .slice Ao67 x11_3.length co67] rfl (by (try simp only [List.map_toArray, List.map_cons, List.map_nil]); first | done | rfl | (simp only [List.length_drop, List.length_take]; rfl)) ?_; (with_reducible refine (kissgateref06_Same.calls k3 _ _ t184 _ _ x11_3 true _ ?side1 ?side2 ?side3 ?side4 A59.out).mono ?_); (case side1 => repeat (first | exact (Kd.R_reads' HO_5.out).2.2 | (with_reducible refine Kd.C_alloc ?_ _) | (with_reducible refine Kd.C_drewN ?_ _) | (with_reducible refine Kd.C_drew ?_))); (case side2 => exact (Kd.R_reads' HO_5.out).2.1); (case side3 => repeat (first | exact (Kd.R_reads' HO_11.out).2.2 | (with_reducible refine Kd.C_alloc ?_ _) | (with_reducible refine Kd.C_drewN ?_ _) | (with_reducible refine Kd.C_drew ?_))); (case side4 => exact (Kd.R_reads' HO_11.out).2.1); rintro e w' ⟨rfl, ⟨nd, rfl⟩⟩; refine ⟨_, rfl, ?_⟩) | (go_at_call 18; (with_reducible refine (table_Registrar.calls  t201 _ A61.out).mono ?_); rintro e w68 ⟨v202, rfl, ho0, hb⟩; have n0_ := Aside0.mk (Kd.R_below (by (with_reducible repeat (first | apply Kd.R_alloc | apply Kd.R_drewN | apply Kd.R_drew)); exact HO_5.out) hb); have n1_ := Aside0.mk (Kd.R_below (by (with_reducible repeat (first | apply Kd.R_alloc | apply Kd.R_drewN | apply Kd.R_drew)); exact HO_6.out) hb); have n2_ := Aside0.mk (Kd.R_below (by (with_reducible repeat (first | apply Kd.R_alloc | apply Kd.R_drewN | apply Kd.R_drew)); exact HO_11.out) hb); have n3_ := Aside0.mk (Kd.N_lower (Kd.N_mono (ok' := fun k_ => some k_ ≠ (.slice Ao66 t184.length co66 : Value).ownBlock ∧ some k_ ≠ (.slice (some ⟨go19, 0, none⟩) x6_2.length co19 : Value).ownBlock ∧ some k_ ≠ (.slice Ao67 x11_3.length co67 : Value).ownBlock) ho0 (fun k_ hk_ => ⟨(Kd.fresh' (Kd.R_lt (by (with_reducible repeat (first | apply Kd.R_alloc | apply Kd.R_drewN | apply Kd.R_drew)); exact HO_5.out)) k_ hk_), (Kd.fresh' (Kd.R_lt (by (with_reducible repeat (first | apply Kd.R_alloc | apply Kd.R_drewN | apply Kd.R_drew)); exact HO_6.out)) k_ hk_), (Kd.fresh' (Kd.R_lt (by (with_reducible repeat (first | apply Kd.R_alloc | apply Kd.R_drewN | apply Kd.R_drew)); exact HO_11.out)) k_ hk_)⟩)) (below_size (by repeat (first | (with_reducible first | exact HB.out | apply below_alloc | apply pw_below_drewN | apply below_drew1) | exact HB.out)))); have n4_ := Aside0.mk (below_step (by repeat (first | (with_reducible first | exact HB.out | apply below_alloc | apply pw_below_drewN | apply below_drew1) | exact HB.out)) hb); clear HO_5; clear HO_6; clear HO_11; clear HB; have HO_5 := n0_; have HO_6 := n1_; have HO_11 := n2_; have HO203 := n3_; have HB := n4_; clear n0_ n1_ n2_ n3_ n4_; (try clear hb); (try clear hb2); (try clear hk); (try clear hi); (try clear ho0); obtain ⟨Ao69, co69, eo69⟩ := Kd.N_slice HO203.out; subst eo69) | (go_at_call 32; (with_reducible refine (table_Reach.calls k3 _ _ t201 0 t204 _ ?side1 ?side2 A62.out).mono ?_); (case side1 => repeat (first | exact (Kd.N_reads' HO203.out).2.2 | (with_reducible refine Kd.C_alloc ?_ _) | (with_reducible refine Kd.C_drewN ?_ _) | (with_reducible refine Kd.C_drew ?_))); (case side2 => exact (Kd.N_reads' HO203.out).2.1); rintro e w70 ⟨v205, rfl, ho0, hb⟩; have n0_ := Aside0.mk (Kd.R_elder' (by (with_reducible repeat (first | apply Kd.R_alloc | apply Kd.R_drewN | apply Kd.R_drew)); exact HO_5.out) (Kd.R_base ho0) hb); have n1_ := Aside0.mk (Kd.R_below (by (with_reducible repeat (first | apply Kd.R_alloc | apply Kd.R_drewN | apply Kd.R_drew)); exact HO_6.out) hb); have n2_ := Aside0.mk (Kd.R_elder' (by (with_reducible repeat (first | apply Kd.R_alloc | apply Kd.R_drewN | apply Kd.R_drew)); exact HO_11.out) (Kd.R_base ho0) hb); have n3_ := Aside0.mk (Kd.N_elder' (by (with_reducible repeat (first | apply Kd.N_alloc | apply Kd.N_drewN | apply Kd.N_drew)); exact HO203.out) (Kd.R_base ho0) hb); have n4_ := Aside0.mk (Kd.R_lower (Kd.R_new' (Kd.R_new' ho0 (Kd.R_lt (by (with_reducible repeat (first | apply Kd.R_alloc | apply Kd.R_drewN | apply Kd.R_drew)); exact HO_5.out))) (Kd.R_lt (by (with_reducible repeat (first | apply Kd.R_alloc | apply Kd.R_drewN | apply Kd.R_drew)); exact HO_11.out))) (below_size (by repeat (first | (with_reducible first | exact HB.out | apply below_alloc | apply pw_below_drewN | apply below_drew1) | exact HB.out)))); have n5_ := Aside0.mk (below_step (by repeat (first | (with_reducible first | exact HB.out | apply below_alloc | apply pw_below_drewN | apply below_drew1) | exact HB.out)) hb); clear HO_5; clear HO_6; clear HO_11; clear HO203; clear HB; have HO_5 := n0_; have HO_6 := n1_; have HO_11 := n2_; have HO203 := n3_; have HO206 := n4_; have HB := n5_; clear n0_ n1_ n2_ n3_ n4_ n5_; (try clear hb); (try clear hb2); (try clear hk); (try clear hi); (try clear ho0); obtain ⟨Ao71, co71, eo71⟩ := Kd.R_slice HO206.out; subst eo71) | (go_at_call 25; (with_reducible refine (table_Applicant.calls  t207 _ A64.out).mono ?_); rintro e w72 ⟨v208, rfl, ho0, hb⟩; have n0_ := Aside0.mk (Kd.R_below (by (with_reducible repeat (first | apply Kd.R_alloc | apply Kd.R_drewN | apply Kd.R_drew)); exact HO_5.out) hb); have n1_ := Aside0.mk (Kd.R_below (by (with_reducible repeat (first | apply Kd.R_alloc | apply Kd.R_drewN | apply Kd.R_drew)); exact HO_6.out) hb); have n2_ := Aside0.mk (Kd.R_below (by (with_reducible repeat (first | apply Kd.R_alloc | apply Kd.R_drewN | apply Kd.R_drew)); exact HO_11.out) hb); have n3_ := Aside0.mk (Kd.N_elder' (by (with_reducible repeat (first | apply Kd.N_alloc | apply Kd.N_drewN | apply Kd.N_drew)); exact HO203.out) (Kd.N_base ho0) hb); have n4_ := Aside0.mk (Kd.R_below (by (with_reducible repeat (first | apply Kd.R_alloc | apply Kd.R_drewN | apply Kd.R_drew)); exact HO206.out) hb); have n5_ := Aside0.mk (Kd.N_lower (Kd.N_mono (ok' := fun k_ => some k_ ≠ (.slice Ao66 t184.length co66 : Value).ownBlock ∧ some k_ ≠ (.slice (some ⟨go19, 0, none⟩) x6_2.length co19 : Value).ownBlock ∧ some k_ ≠ (.slice Ao67 x11_3.length co67 : Value).ownBlock ∧ some k_ ≠ (.slice Ao69 t201.length co69 : Value).ownBlock ∧ some k_ ≠ (.slice Ao71 t204.length co71 : Value).ownBlock) ho0 (fun k_ hk_ => ⟨(Kd.fresh' (Kd.R_lt (by (with_reducible repeat (first | apply Kd.R_alloc | apply Kd.R_drewN | apply Kd.R_drew)); exact HO_5.out)) k_ hk_), (Kd.fresh' (Kd.R_lt (by (with_reducible repeat (first | apply Kd.R_alloc | apply Kd.R_drewN | apply Kd.R_drew)); exact HO_6.out)) k_ hk_), (Kd.fresh' (Kd.R_lt (by (with_reducible repeat (first | apply Kd.R_alloc | apply Kd.R_drewN | apply Kd.R_drew)); exact HO_11.out)) k_ hk_), (Kd.fresh' (Kd.N_lt (by (with_reducible repeat (first | apply Kd.N_alloc | apply Kd.N_drewN | apply Kd.N_drew)); exact HO203.out)) k_ hk_), (Kd.fresh' (Kd.R_lt (by (with_reducible repeat (first | apply Kd.R_alloc | apply Kd.R_drewN | apply Kd.R_drew)); exact HO206.out)) k_ hk_)⟩)) (below_size (by repeat (first | (with_reducible first | exact HB.out | apply below_alloc | apply pw_below_drewN | apply below_drew1) | exact HB.out)))); have n6_ := Aside0.mk (below_step (by repeat (first | (with_reducible first | exact HB.out | apply below_alloc | apply pw_below_drewN | apply below_drew1) | exact HB.out)) hb); clear HO_5; clear HO_6; clear HO_11; clear HO203; clear HO206; clear HB; have HO_5 := n0_; have HO_6 := n1_; have HO_11 := n2_; have HO203 := n3_; have HO206 := n4_; have HO209 := n5_; have HB := n6_; clear n0_ n1_ n2_ n3_ n4_ n5_ n6_; (try clear hb); (try clear hb2); (try clear hk); (try clear hi); (try clear ho0); obtain ⟨Ao73, co73, eo73⟩ := Kd.N_slice HO209.out; subst eo73) | (go_at_call 32; (with_reducible refine (table_Reach.calls k3 _ _ t207 0 t210 _ ?side1 ?side2 A65.out).mono ?_); (case side1 => repeat (first | exact (Kd.N_reads' HO209.out).2.2 | (with_reducible refine Kd.C_alloc ?_ _) | (with_reducible refine Kd.C_drewN ?_ _) | (with_reducible refine Kd.C_drew ?_))); (case side2 => exact (Kd.N_reads' HO209.out).2.1); rintro e w74 ⟨v211, rfl, ho0, hb⟩; have n0_ := Aside0.mk (Kd.R_elder' (by (with_reducible repeat (first | apply Kd.R_alloc | apply Kd.R_drewN | apply Kd.R_drew)); exact HO_5.out) (Kd.R_base ho0) hb); have n1_ := Aside0.mk (Kd.R_below (by (with_reducible repeat (first | apply Kd.R_alloc | apply Kd.R_drewN | apply Kd.R_drew)); exact HO_6.out) hb); have n2_ := Aside0.mk (Kd.R_elder' (by (with_reducible repeat (first | apply Kd.R_alloc | apply Kd.R_drewN | apply Kd.R_drew)); exact HO_11.out) (Kd.R_base ho0) hb); have n3_ := Aside0.mk (Kd.N_elder' (by (with_reducible repeat (first | apply Kd.N_alloc | apply Kd.N_drewN | apply Kd.N_drew)); exact HO203.out) (Kd.R_base ho0) hb); have n4_ := Aside0.mk (Kd.R_elder' (by (with_reducible repeat (first | apply Kd.R_alloc | apply Kd.R_drewN | apply Kd.R_drew)); exact HO206.out) (Kd.R_base ho0) hb); have n5_ := Aside0.mk (Kd.N_elder' (by (with_reducible repeat (first | apply Kd.N_alloc | apply Kd.N_drewN | apply Kd.N_drew)); exact HO209.out) (Kd.R_base ho0) hb); have n6_ := Aside0.mk (Kd.R_lower (Kd.R_new' (Kd.R_new' (Kd.R_new' ho0 (Kd.R_lt (by (with_reducible repeat (first | apply Kd.R_alloc | apply Kd.R_drewN | apply Kd.R_drew)); exact HO_5.out))) (Kd.R_lt (by (with_reducible repeat (first | apply Kd.R_alloc | apply Kd.R_drewN | apply Kd.R_drew)); exact HO_11.out))) (Kd.R_lt (by (with_reducible repeat (first | apply Kd.R_alloc | apply Kd.R_drewN | apply Kd.R_drew)); exact HO206.out))) (below_size (by repeat (first | (with_reducible first | exact HB.out | apply below_alloc | apply pw_below_drewN | apply below_drew1) | exact HB.out)))); have n7_ := Aside0.mk (below_step (by repeat (first | (with_reducible first | exact HB.out | apply below_alloc | apply pw_below_drewN | apply below_drew1) | exact HB.out)) hb); clear HO_5; clear HO_6; clear HO_11; clear HO203; clear HO206; clear HO209; clear HB; have HO_5 := n0_; have HO_6 := n1_; have HO_11 := n2_; have HO203 := n3_; have HO206 := n4_; have HO209 := n5_; have HO212 := n6_; have HB := n7_; clear n0_ n1_ n2_ n3_ n4_ n5_ n6_ n7_; (try clear hb); (try clear hb2); (try clear hk); (try clear hi); (try clear ho0); obtain ⟨Ao75, co75, eo75⟩ := Kd.R_slice HO212.out; subst eo75))
                                    go_ret
                                    exact ⟨by first | rfl | (simp [errW_none, errW_some] <;> rfl) | (simp [*, errW_none, errW_some] <;> rfl), by repeat (first | (with_reducible first | exact HB.out | apply below_alloc | apply pw_below_drewN | apply below_drew1) | exact HB.out)⟩
                                  · rw [if_neg c63] at H
                                    have c63b0 : ((t204.length : Int) == 3) = false := beq_eq_false_iff_ne.mpr c63
                                    have c63b1 : ((t204.length : Int) != 3) = true := bne_iff_ne.mpr c63
                                    exact absurd (Option.some.inj H) (by rw [HRT.out]; decide)
                                · replace c60 := Bool.eq_false_iff.mpr c60
                                  subst c60
                                  have H1 : (some false) = some r := by rw [if_neg (show ¬ (false = true) by decide)] at H; exact H
                                  clear H
                                  have H := H1
                                  clear H1
                                  exact absurd (Option.some.inj H) (by rw [HRT.out]; decide)
                  · rw [if_neg c18] at H
                    exact absurd H (by simp)
                · rw [if_neg c17] at H
                  exact absurd H (by simp)
              · rw [if_neg c16] at H
                exact absurd H (by simp)
            · rw [if_neg c15] at H
              exact absurd H (by simp)
  · replace c4 := Bool.eq_false_iff.mpr c4
    subst c4
    have H1 : (some false) = some r := by rw [if_neg (show ¬ (false = true) by decide)] at H; exact H
    clear H
    have H := H1
    clear H1
    exact absurd (Option.some.inj H) (by rw [HRT.out]; decide)end Go.Proofs.Ytbcngajkokjfjaa.QRea
namespace Go.Proofs.Ytbcngajkokjfjaa.Opn
open Go.ChangeShapes Go.WideShapes Go.Proofs.YtbcngajkokjfjaaW.PrintWords
variable {P : Program}
def Opens {α : Type} (P : Program) (t : TypeId) (d : Kd α) (good : α → Prop) : Prop :=
  ∀ (H : Type) (enc : TypeId × Value → H) (w : World) (fuel : Nat) (cs : List Value) (x : DataW H × List MemPlace),
    DataW.trod enc P w 0 (fun _ => true) true fuel t cs = some x → (∀ n ∈ x.1.weights P t, n ≤ reachBytes) → ∃ a : α, d.K w a cs ∧ good a
theorem opens_int {t : TypeId} {k : IntKind} (hu : P.underlying t = some (.int k)) : Opens P t (Kd.int k) (fun n => (Lit.int k n).wf = true) := by
  intro H enc w fuel cs x h _
  obtain ⟨n, rfl, _, hw⟩ := DataW.trod_int hu h
  exact ⟨n, rfl, hw⟩
theorem weightsAll_mem {H : Type} {e : TypeId} : ∀ {l : List (DataW H)} {d : DataW H}, d ∈ l → ∀ n ∈ d.weights P e, n ∈ DataW.weightsAll P e l
  | [], d, h, _, _ => by simp at h
  | d0 :: l, d, h, n, hn => by
    simp only [DataW.weightsAll, List.mem_append]
    rcases List.mem_cons.1 h with rfl | h
    · exact Or.inl hn
    · exact Or.inr (weightsAll_mem h n hn)
theorem add_at_ (a : Addr) (i j : Nat) : (a.add i).add j = a.add (i + j) := by
  unfold Addr.add
  by_cases hi : i = 0
  · subst hi; simp
  · by_cases hj : j = 0
    · subst hj; simp
    · simp [hi, hj, Nat.add_assoc]
theorem choose_list {α : Type} {Q : Nat → α → Prop} : ∀ (n : Nat), (∀ i, i < n → ∃ a, Q i a) → ∃ l : List α, l.length = n ∧ ∀ i a, l[i]? = some a → Q i a
  | 0, _ => ⟨[], rfl, fun i a h => by simp at h⟩
  | n + 1, h => by
    obtain ⟨l, hl, hq⟩ := choose_list n (fun i hi => h i (by omega))
    obtain ⟨a, ha⟩ := h n (by omega)
    refine ⟨l ++ [a], by simp [hl], fun i b hb => ?_⟩
    rcases Nat.lt_or_ge i l.length with hi | hi
    · rw [List.getElem?_append_left hi] at hb
      exact hq i b hb
    · rw [List.getElem?_append_right hi] at hb
      have hlt := (List.getElem?_eq_some_iff.1 hb).1
      simp at hlt
      have e : i = n := by omega
      subst e
      rw [show i - l.length = 0 from by omega] at hb
      have hb' : a = b := by simpa using hb
      subst hb'
      exact ha
theorem opens_slice_row {α : Type} {t e : TypeId} {d : Kd α} {good : α → Prop} (hu : P.underlying t = some (.slice e)) (hC : P.cellsOf e = d.sz) {B : Nat} (hB : P.bytesOf e = B) (ho : Opens P e d good)
    (H : Type) (enc : TypeId × Value → H) (w : World) (fuel : Nat) (A : Option Addr) (len cap : Nat) (x : DataW H × List MemPlace)
    (h : DataW.trod enc P w 0 (fun _ => true) true fuel t [.slice A len cap] = some x) (hz : ∀ n ∈ x.1.weights P t, n ≤ reachBytes) :
    ∃ l : List α, l.length = len ∧ len ≤ cap ∧ d.C w A len l ∧ len ≤ maxLen ∧ len * B ≤ 140737488351232 ∧ ∀ a ∈ l, good a := by
  rcases DataW.trod_slice hu h with ⟨h0, _⟩ | ⟨a, len', cap', elems, rest, n, _, hcs, hx, _, hl, hm, hlen, hel, _, _⟩
  · simp only [List.cons.injEq, Value.slice.injEq, and_true] at h0
    obtain ⟨rfl, rfl, rfl⟩ := h0
    exact ⟨[], rfl, Nat.le_refl _, ⟨rfl, Nat.zero_le _, fun h => absurd h (by omega)⟩, Nat.zero_le _, by simp, fun a ha => by simp at ha⟩
  · simp only [List.cons.injEq, Value.slice.injEq, and_true] at hcs
    obtain ⟨rfl, rfl, rfl⟩ := hcs
    have each : ∀ i, i < len → ∃ b : α, (∃ c, c.length = d.sz ∧ d.K w b c ∧ ∀ j u, c[j]? = some u → w.cell? (a.add (i * d.sz + j)) = some u) ∧ good b := by
      intro i hi
      have h1 := hel i hi
      have hie : i < elems.length := by omega
      rw [List.getElem?_eq_getElem hie, Option.bind_eq_some_iff] at h1
      obtain ⟨cs', hc, ht'⟩ := h1
      have hw' : ∀ n ∈ (elems[i]).1.weights P e, n ≤ reachBytes := by
        intro m hm'
        refine hz m ?_
        rw [hx]
        simp only [DataW.weights, hu]
        refine List.mem_cons_of_mem _ (List.mem_append_left _ ?_)
        exact weightsAll_mem (List.mem_map.2 ⟨elems[i], List.getElem_mem hie, rfl⟩) m hm'
      obtain ⟨b, hb, hg⟩ := ho H enc w _ cs' _ ht' hw'
      obtain ⟨_, hcl, hat⟩ := World.cells?_some hc
      refine ⟨b, ⟨cs', by rw [hcl, hC], hb, fun j u hu' => ?_⟩, hg⟩
      have hj : j < P.cellsOf e := by
        have := (List.getElem?_eq_some_iff.1 hu').1
        omega
      have := hat j hj
      rw [hC] at this
      rw [← add_at_, this, hu']
    obtain ⟨l, hll, hq⟩ := choose_list len each
    refine ⟨l, hll, hl, ⟨hll, by simp only [maxLen] at hm; omega, fun _ => ⟨a, rfl, fun j p hj => (hq j p hj).1⟩⟩, by omega, ?_, fun b hb => ?_⟩
    · have h1 := hz ((elems.length + rest.length) * P.bytesOf e) (by rw [hx]; simp [DataW.weights, hu])
      rw [hB] at h1
      simp only [reachBytes] at h1
      refine Nat.le_trans (Nat.mul_le_mul_right _ ?_) h1
      omega
    · obtain ⟨i, hi⟩ := List.getElem?_of_mem hb
      exact (hq i b hi).2
theorem opens_slice {α : Type} {t e : TypeId} {d : Kd α} {good : α → Prop} (hu : P.underlying t = some (.slice e)) (hC : P.cellsOf e = d.sz) {B : Nat} (hB : P.bytesOf e = B) (ho : Opens P e d good) :
    Opens P t (Kd.slice e d) (fun l => l.length ≤ maxLen ∧ l.length * B ≤ 140737488351232 ∧ ∀ a ∈ l, good a) := by
  intro H enc w fuel cs x h hz
  have hform : ∃ A len cap, cs = [.slice A len cap] := by
    rcases DataW.trod_slice hu h with ⟨h0, _⟩ | ⟨a, len', cap', elems, rest, n, _, hcs, _⟩
    · exact ⟨_, _, _, h0⟩
    · exact ⟨_, _, _, hcs⟩
  obtain ⟨A, len, cap, rfl⟩ := hform
  obtain ⟨l, rfl, hlc, hC', hm, hb, hg⟩ := opens_slice_row hu hC hB ho H enc w fuel A len cap x h hz
  exact ⟨l, ⟨A, cap, rfl, hlc, hC'⟩, hm, hb, hg⟩
def OpensFs {α : Type} (P : Program) (off : Nat) (fs : List Field) (d : Kd α) (good : α → Prop) : Prop :=
  ∀ (H : Type) (enc : TypeId × Value → H) (w : World) (fuel : Nat) (cs : List Value) (ys : List (DataW H × List MemPlace)),
    cs.length = off + d.sz → ys.length = fs.length → (∀ (i : Nat) (f : Field), fs[i]? = some f → DataW.trod enc P w 0 (fun _ => true) true fuel f.type ((cs.drop f.offset).take (P.cellsOf f.type)) = ys[i]?) →
    (∀ n ∈ DataW.weightsEach P (fs.map (·.type)) (ys.map (·.1)), n ≤ reachBytes) → ∃ a : α, d.K w a (cs.drop off) ∧ good a
theorem opensFs_one {α : Type} {off : Nat} {f : Field} {d : Kd α} {good : α → Prop} (ho : f.offset = off) (hC : P.cellsOf f.type = d.sz) (h : Opens P f.type d good) : OpensFs P off [f] d good := by
  intro H enc w fuel cs ys hcs hy hf hz
  match ys, hy with
  | [y], _ =>
    have h1 := hf 0 f rfl
    rw [ho, hC, List.take_of_length_le (by simp [List.length_drop]; omega)] at h1
    exact h H enc w fuel _ y h1 (fun n hn => hz n (by simp only [List.map_cons, DataW.weightsEach, List.mem_append]; exact Or.inl hn))
theorem opensFs_cons {α β : Type} {off : Nat} {f : Field} {fs : List Field} {d : Kd α} {e : Kd β} {g1 : α → Prop} {g2 : β → Prop} (ho : f.offset = off) (hC : P.cellsOf f.type = d.sz) (h : Opens P f.type d g1) (hs : OpensFs P (off + d.sz) fs e g2) :
    OpensFs P off (f :: fs) (Kd.pair d e) (fun p => g1 p.1 ∧ g2 p.2) := by
  intro H enc w fuel cs ys hcs hy hf hz
  match ys, hy with
  | y :: ys, hy =>
    have hsz : (Kd.pair d e).sz = d.sz + e.sz := rfl
    rw [hsz] at hcs
    have h1 := hf 0 f rfl
    rw [ho, hC] at h1
    obtain ⟨a, ha, hga⟩ := h H enc w fuel _ y h1 (fun n hn => hz n (by simp only [List.map_cons, DataW.weightsEach, List.mem_append]; exact Or.inl hn))
    obtain ⟨b, hb, hgb⟩ := hs H enc w fuel cs ys (by omega) (by simpa using hy) (fun i f' hi => by simpa using hf (i + 1) f' (by simpa using hi)) (fun n hn => hz n (by simp only [List.map_cons, DataW.weightsEach, List.mem_append]; exact Or.inr hn))
    refine ⟨(a, b), ⟨(cs.drop off).take d.sz, cs.drop (off + d.sz), ?_, ha, hb⟩, hga, hgb⟩
    rw [← List.drop_drop, List.take_append_drop]
theorem opens_struct {α : Type} {t : TypeId} {fs : Array Field} {d : Kd α} {good : α → Prop} (hu : P.underlying t = some (.struct fs)) (hC : P.cellsOf t = d.sz) (h : OpensFs P 0 fs.toList d good) : Opens P t d good := by
  intro H enc w fuel cs x hx hz
  obtain ⟨ys, n, _, hxe, hlen, hyl, hf⟩ := DataW.trod_struct hu hx
  obtain ⟨a, ha, hg⟩ := h H enc w n cs ys (by omega) (by simpa using hyl) (fun i f hi => hf i f (by simpa using hi)) (fun m hm => hz m (by rw [hxe]; simp only [DataW.weights, hu]; exact hm))
  exact ⟨a, by simpa using ha, hg⟩
theorem opens_iso {α β : Type} {t : TypeId} {d : Kd α} {good : α → Prop} (f : β → α) (g : α → β) (hfg : ∀ a, f (g a) = a) (h : Opens P t d good) : Opens P t (Kd.iso d f) (fun b => good (f b)) := by
  intro H enc w fuel cs x hx hz
  obtain ⟨a, ha, hga⟩ := h H enc w fuel cs x hx hz
  refine ⟨g a, ?_, by show good (f (g a)); rw [hfg]; exact hga⟩
  show d.K w (f (g a)) cs
  rw [hfg]
  exact ha
theorem opens_imp {α : Type} {t : TypeId} {d : Kd α} {g1 g2 : α → Prop} (h : Opens P t d g1) (hg : ∀ a, g1 a → g2 a) : Opens P t d g2 := by
  intro H enc w fuel cs x hx hz
  obtain ⟨a, ha, hga⟩ := h H enc w fuel cs x hx hz
  exact ⟨a, ha, hg a hga⟩
theorem weights_of {H : Type} {ts : List TypeId} {ds : List (DataW H)} (h : (DataW.weightsEach P ts ds).all (· ≤ reachBytes) = true) {j : Nat} {t : TypeId} {d : DataW H} (ht : ts[j]? = some t) (hd : ds[j]? = some d) : ∀ n ∈ d.weights P t, n ≤ reachBytes := by
  intro n hn
  have := List.all_eq_true.1 h _ (DataW.weights_mem_each ht hd n hn)
  simpa using this
theorem arg_slice {α : Type} {t e : TypeId} {d : Kd α} {good : α → Prop} (hu : P.underlying t = some (.slice e)) (hC : P.cellsOf e = d.sz) {B : Nat} (hB : P.bytesOf e = B) (ho : Opens P e d good)
    {H : Type} {enc : TypeId × Value → H} {w : World} {r : Reach} {b0 : Nat} {v : Value} {x : DataW H} {ps : List MemPlace} (hv : Value.okWide P w r b0 t v)
    (h : DataW.Trod enc P w 0 (fun _ => true) true t v x ps) (hz : ∀ n ∈ x.weights P t, n ≤ reachBytes) :
    ∃ (A : Option Addr) (c : Nat) (l : List α), v = .slice A l.length c ∧ l.length ≤ c ∧ d.C w A l.length l ∧ l.length ≤ maxLen ∧ l.length * B ≤ 140737488351232 ∧ ∀ a ∈ l, good a := by
  obtain ⟨A, len, c, rfl⟩ := okWide_slice hu hv
  obtain ⟨fuel, hf⟩ := h
  have hf' : DataW.trod enc P w 0 (fun _ => true) true fuel t [.slice A len c] = some (x, ps) := by simpa [Value.cells] using hf
  obtain ⟨l, rfl, hlc, hC', hm, hb, hg⟩ := opens_slice_row hu hC hB ho H enc w fuel A len c _ hf' hz
  exact ⟨A, c, l, rfl, hlc, hC', hm, hb, hg⟩
theorem arg_int {t : TypeId} {k : IntKind} (hu : P.underlying t = some (.int k))
    {H : Type} {enc : TypeId × Value → H} {w : World} {r : Reach} {b0 : Nat} {v : Value} {x : DataW H} {ps : List MemPlace} (hv : Value.okWide P w r b0 t v)
    (h : DataW.Trod enc P w 0 (fun _ => true) true t v x ps) : ∃ n, v = .int k n ∧ (Lit.int k n).wf = true := by
  obtain ⟨n, rfl⟩ := okWide_int hu hv
  obtain ⟨fuel, hf⟩ := h
  obtain ⟨m, hcs, _, hw⟩ := DataW.trod_int hu hf
  simp only [Value.cells] at hcs
  have e : n = m := by simpa using hcs
  subst e
  exact ⟨n, rfl, hw⟩
end Go.Proofs.Ytbcngajkokjfjaa.Opn
namespace Go.Proofs.Ytbcngajkokjfjaa.tableReach
open Go.RowKit Go.Proofs.YtbcngajkokjfjaaW.PrintWords Go.Proofs.YtbcngajkokjfjaaW.PrintLast Go.Proofs.YtbcngajkokjfjaaW.PrintMore Go.Proofs.Ytbcngajkokjfjaa.QRea
set_option linter.unusedVariables false
def G30 (x : S30) : Prop := (Lit.int .i64 x.f0).wf = true ∧ (Lit.int .i64 x.f1).wf = true
def Pure : Prop := ∀ (x0 : (List (List S30))) (x1 : Int), (x0.length ≤ maxLen ∧ x0.length * 24 ≤ 140737488351232 ∧ ∀ a ∈ x0, (a.length ≤ maxLen ∧ a.length * 16 ≤ 140737488351232 ∧ ∀ b ∈ a, G30 b)) → (Lit.int .i64 x1).wf = true → ∃ k, kissgatelaw13_TableReach.f k x0 x1 = some true
end Go.Proofs.Ytbcngajkokjfjaa.tableReach
namespace Go.Proofs.Ytbcngajkokjfjaa.tableReach
open Go.RowKit Go.Proofs.YtbcngajkokjfjaaW.PrintWords Go.Proofs.YtbcngajkokjfjaaW.PrintLast Go.Proofs.YtbcngajkokjfjaaW.PrintMore Go.Proofs.Ytbcngajkokjfjaa.QRea
abbrev ic (l : List Nat) : List Int := l.map fun (i : Nat) => (i : Int)
abbrev bt (b : List Bool) (i : Nat) : Bool := b.getD i false
def E (t : List (List S30)) (i j : Nat) : Prop := j < t.length ∧ ∃ c ∈ rd_L2 t i, c.f0 = (j : Int)
inductive Rch (t : List (List S30)) (s : Nat) : Nat → Prop
  | start : Rch t s s
  | step {i j : Nat} : Rch t s i → E t i j → Rch t s j
theorem bt_set {b : List Bool} {i j : Nat} (h : i < b.length) : bt (b.set i true) j = (decide (i = j) || bt b j) := by
  unfold bt
  rw [List.getD_eq_getElem?_getD, List.getD_eq_getElem?_getD, List.getElem?_set]
  by_cases hij : i = j
  · subst hij; simp [h]
  · simp [hij]
theorem bt_lt {b : List Bool} {i : Nat} (h : bt b i = true) : i < b.length := by
  unfold bt at h
  rw [List.getD_eq_getElem?_getD] at h
  cases hg : b[i]? with
  | none => rw [hg] at h; cases h
  | some v => exact (List.getElem?_eq_some_iff.1 hg).1
theorem rdOf_bt (b : List Bool) (i : Nat) : rdOf false b (i : Int) = bt b i := by unfold rdOf bt; rw [Int.toNat_natCast]
theorem rd30 {l : List S30} {i : Nat} (h : i < l.length) : rd_T30 l i = l[i] := by
  unfold rd_T30
  rw [Int.toNat_natCast, List.getD_eq_getElem?_getD, List.getElem?_eq_getElem h]; rfl
structure Inv (t : List (List S30)) (s : Nat) (b : List Bool) (O Q : List Nat) : Prop where
  len : b.length = t.length
  nod : (O ++ Q).Nodup
  mem : ∀ i, i ∈ O ++ Q ↔ bt b i = true
  rch : ∀ i, i ∈ O ++ Q → Rch t s i
theorem Inv.few {t : List (List S30)} {s : Nat} {b : List Bool} {O Q : List Nat} (h : Inv t s b O Q) : O.length + Q.length ≤ t.length := by
  have := List.Nodup.length_le_of_subset (l₂ := List.range t.length) h.nod (fun i hi => by
    rw [List.mem_range, ← h.len]; exact bt_lt ((h.mem i).1 hi))
  simpa using this
theorem reach_in (t : List (List S30)) (s : Nat) (hn : t.length ≤ 20) (O : List Nat) (r : List S30) (hr : r.length ≤ 20) (d : Nat) : ∀ (j : Nat) (b : List Bool) (Q : List Nat), j + d = r.length → Inv t s b O Q →
    (∀ c ∈ r.drop j, ∀ m : Nat, c.f0 = (m : Int) → m < t.length → Rch t s m) →
    ∃ b' Q', Inv t s b' O Q' ∧ (∀ i, bt b i = true → bt b' i = true) ∧ (∀ c ∈ r.drop j, ∀ m : Nat, c.f0 = (m : Int) → m < t.length → bt b' m = true) ∧
      ∀ R, Ev (fun k => table_Reach.l0 k t b' (ic O) (ic Q')) R → Ev (fun k => table_Reach.l1 k t b (ic O) (ic Q) r r.length j) R := by
  induction d with
  | zero =>
    intro j b Q hj hI hc
    refine ⟨b, Q, hI, fun _ h => h, ?_, fun R hR => Ev.step (fun k => by rw [table_Reach.l1, if_neg (by omega)]) hR⟩
    rw [List.drop_of_length_le (by omega)]; simp
  | succ d ih =>
    intro j b Q hj hI hc
    have hlt : j < r.length := by omega
    have hw : wrap64 ((j : Int) + 1) = ((j + 1 : Nat) : Int) := by unfold wrap64; omega
    rw [List.drop_eq_getElem_cons hlt] at hc ⊢
    have hc' : ∀ c ∈ r.drop (j + 1), ∀ m : Nat, c.f0 = (m : Int) → m < t.length → Rch t s m := fun c h => hc c (List.mem_cons_of_mem _ h)
    have hfew := hI.few
    have hlen := hI.len
    by_cases h0 : (r[j]).f0 ≥ 0
    · by_cases h1 : (r[j]).f0 < (t.length : Int)
      · obtain ⟨m, hm⟩ := Int.eq_ofNat_of_zero_le h0
        rw [hm] at h0 h1
        have hm1 : m < t.length := by omega
        cases hb : bt b m with
        | true =>
          obtain ⟨b', Q', hI', hle, hall, hE⟩ := ih (j + 1) b Q (by omega) hI hc'
          refine ⟨b', Q', hI', hle, ?_, fun R hR => Ev.step (fun k => ?_) (hE R hR)⟩
          · intro c hcm m' hm' hlt'
            rcases List.mem_cons.1 hcm with rfl | hcm
            · have : m' = m := by omega
              rw [this]; exact hle m hb
            · exact hall c hcm m' hm' hlt'
          · rw [table_Reach.l1, if_pos (by omega), if_pos (by omega), if_pos (by omega), rd30 hlt, hm, if_pos h0, if_pos h1, if_pos h0, if_pos (by omega), rdOf_bt, hb, if_pos rfl, hw]
        | false =>
          have hmb : m < b.length := by omega
          have hI2 : Inv t s (b.set m true) O (Q ++ [m]) := by
            have hnot : m ∉ O ++ Q := fun h => by rw [(hI.mem m).1 h] at hb; cases hb
            refine ⟨by simp [hlen], ?_, ?_, ?_⟩
            · rw [← List.append_assoc]
              exact List.nodup_append.2 ⟨hI.nod, by simp, fun a ha b hb he => by rw [List.mem_singleton] at hb; exact hnot (by rw [← hb, ← he]; exact ha)⟩
            · intro i
              rw [← List.append_assoc, List.mem_append, hI.mem, List.mem_singleton, bt_set hmb, Bool.or_eq_true, decide_eq_true_iff]
              exact ⟨fun h => h.elim .inr (fun h => .inl h.symm), fun h => h.elim (fun h => .inr h.symm) .inl⟩
            · intro i hi
              rw [← List.append_assoc, List.mem_append, List.mem_singleton] at hi
              rcases hi with hi | rfl
              · exact hI.rch i hi
              · exact hc _ List.mem_cons_self i hm hm1
          obtain ⟨b', Q', hI', hle, hall, hE⟩ := ih (j + 1) _ _ (by omega) hI2 hc'
          refine ⟨b', Q', hI', fun i hi => hle i (by rw [bt_set hmb, hi, Bool.or_true]), ?_, fun R hR => Ev.step (fun k => ?_) (hE R hR)⟩
          · intro c hcm m' hm' hlt'
            rcases List.mem_cons.1 hcm with rfl | hcm
            · have : m' = m := by omega
              rw [this]; exact hle m (by rw [bt_set hmb]; simp)
            · exact hall c hcm m' hm' hlt'
          · rw [table_Reach.l1, if_pos (by omega), if_pos (by omega), if_pos (by omega), rd30 hlt, hm, if_pos h0, if_pos h1, if_pos h0, if_pos (by omega), rdOf_bt, hb, if_neg (by simp), if_pos (by simp [ic]; omega), hw, Int.toNat_natCast]
            simp [ic]
      · obtain ⟨b', Q', hI', hle, hall, hE⟩ := ih (j + 1) b Q (by omega) hI hc'
        refine ⟨b', Q', hI', hle, ?_, fun R hR => Ev.step (fun k => ?_) (hE R hR)⟩
        · intro c hcm m' hm' hlt'
          rcases List.mem_cons.1 hcm with rfl | hcm
          · omega
          · exact hall c hcm m' hm' hlt'
        · rw [table_Reach.l1, if_pos (by omega), if_pos (by omega), if_pos (by omega), rd30 hlt, if_pos h0, if_neg h1, hw]
    · obtain ⟨b', Q', hI', hle, hall, hE⟩ := ih (j + 1) b Q (by omega) hI hc'
      refine ⟨b', Q', hI', hle, ?_, fun R hR => Ev.step (fun k => ?_) (hE R hR)⟩
      · intro c hcm m' hm' hlt'
        rcases List.mem_cons.1 hcm with rfl | hcm
        · omega
        · exact hall c hcm m' hm' hlt'
      · rw [table_Reach.l1, if_pos (by omega), if_pos (by omega), if_pos (by omega), rd30 hlt, if_neg h0, hw]
def srt (l : List Int) : List Int := l.mergeSort fun x y => decide (x ≤ y)
theorem reach_out (t : List (List S30)) (s : Nat) (hn : t.length ≤ 20) (hr : ∀ i, (rd_L2 t i).length ≤ 20) (d : Nat) : ∀ (b : List Bool) (O Q : List Nat), t.length ≤ O.length + d → Inv t s b O Q → (∀ i ∈ O, ∀ j, E t i j → bt b j = true) →
    ∃ b' O', Inv t s b' O' [] ∧ (∀ i ∈ O', ∀ j, E t i j → bt b' j = true) ∧ (∀ i, bt b i = true → bt b' i = true) ∧ Ev (fun k => table_Reach.l0 k t b (ic O) (ic Q)) (srt (ic O')) := by
  induction d with
  | zero =>
    intro b O Q hd hI hc
    have := hI.few
    obtain rfl : Q = [] := List.length_eq_zero_iff.1 (by omega)
    refine ⟨b, O, hI, hc, fun _ h => h, Ev.step (f := fun _ => some (srt (ic O))) (fun k => ?_) (Ev.now _)⟩
    rw [table_Reach.l0, if_neg (by simp [ic]), slices_Sort_int_int.f, if_pos (by simp [ic]; omega)]; rfl
  | succ d ih =>
    intro b O Q hd hI hc
    have hfew := hI.few
    cases Q with
    | nil =>
      refine ⟨b, O, hI, hc, fun _ h => h, Ev.step (f := fun _ => some (srt (ic O))) (fun k => ?_) (Ev.now _)⟩
      rw [List.length_nil] at hfew
      rw [table_Reach.l0, if_neg (by simp [ic]), slices_Sort_int_int.f, if_pos (by simp [ic]; omega)]; rfl
    | cons q Q =>
      rw [List.length_cons] at hfew
      have hq : q ∈ O ++ q :: Q := by simp
      have hqb := (hI.mem q).1 hq
      have hql : q < t.length := by rw [← hI.len]; exact bt_lt hqb
      have hI1 : Inv t s b (O ++ [q]) Q := ⟨hI.len, by simpa using hI.nod, by simpa using hI.mem, by simpa using hI.rch⟩
      obtain ⟨b1, Q1, hI2, hle, hall, hE⟩ := reach_in t s hn (O ++ [q]) (rd_L2 t q) (hr q) (rd_L2 t q).length 0 b Q (by omega) hI1 (fun c hcm m hm hlt => Rch.step (hI.rch q hq) ⟨hlt, c, by simpa using hcm, hm⟩)
      obtain ⟨b', O', hI', hc', hle', hE'⟩ := ih b1 (O ++ [q]) Q1 (by simp; omega) hI2 (fun i hi j he => by
        rcases List.mem_append.1 hi with hi | hi
        · exact hle j (hc i hi j he)
        · rw [List.mem_singleton] at hi; subst hi
          obtain ⟨hj, c, hcm, hcj⟩ := he
          exact hall c (by simpa using hcm) j hcj hj)
      refine ⟨b', O', hI', hc', fun i hi => hle' i (hle i hi), Ev.step (fun k => ?_) (hE _ hE')⟩
      have e1 : rd (ic (q :: Q)) 0 = (q : Int) := rfl
      rw [table_Reach.l0, if_pos (by first | (simp [ic]; done) | (simp [ic]; omega)), if_pos (by first | (simp [ic]; done) | (simp [ic]; omega)), if_pos (by first | (simp [ic]; done) | (simp [ic]; omega)), if_pos (by first | (simp [ic]; done) | (simp [ic]; omega)), e1, if_pos (by omega), if_pos (by omega)]
      simp [ic]
def want (b : List Bool) (n : Nat) : List Int := ic ((List.range n).filter fun i => bt b i)
theorem srt_want (t : List (List S30)) (s : Nat) (b : List Bool) (O : List Nat) (h : Inv t s b O []) : srt (ic O) = want b t.length := by
  have hnod : O.Nodup := by simpa using h.nod
  have hinj : Function.Injective (fun i : Nat => (i : Int)) := fun a b h => Int.ofNat.inj h
  have hp : (ic O).Perm (want b t.length) := by
    refine List.Perm.map _ ?_
    refine (List.perm_ext_iff_of_nodup hnod (List.Pairwise.filter _ List.nodup_range)).2 fun i => ?_
    have := h.mem i
    rw [List.append_nil] at this
    rw [this, List.mem_filter, List.mem_range]
    exact ⟨fun h1 => ⟨by rw [← h.len]; exact bt_lt h1, h1⟩, fun h1 => h1.2⟩
  refine List.Perm.eq_of_pairwise (le := fun x y : Int => x ≤ y) (fun a b _ _ h1 h2 => by omega) ?_ ?_ ((List.mergeSort_perm _ _).trans hp)
  · have := List.pairwise_mergeSort (le := fun x y : Int => decide (x ≤ y)) (fun a b c h1 h2 => by simp at *; omega) (fun a b => by simp; omega) (ic O)
    exact this.imp (by simp)
  · unfold want
    rw [List.pairwise_map]
    refine (List.Pairwise.filter _ List.pairwise_lt_range).imp ?_
    intro a b h; omega
theorem Inv.closed {t : List (List S30)} {s : Nat} {b : List Bool} {O : List Nat} (h : Inv t s b O []) (hc : ∀ i ∈ O, ∀ j, E t i j → bt b j = true) (hs : bt b s = true) (i : Nat) : bt b i = true ↔ Rch t s i := by
  have hm := h.mem; simp only [List.append_nil] at hm
  refine ⟨fun hb => h.rch i (by simpa using (hm i).2 hb), fun hr => ?_⟩
  induction hr with
  | start => exact hs
  | step _ he ih => exact hc _ ((hm _).2 ih) _ he
theorem reach (t : List (List S30)) (s : Nat) (hn : t.length ≤ 20) (hr : ∀ i, (rd_L2 t i).length ≤ 20) (hs : s < t.length) :
    ∃ b : List Bool, (∀ i, bt b i = true ↔ Rch t s i) ∧ Ev (fun k => table_Reach.f k t s) (want b t.length) := by
  have hrep : ∀ i, bt (List.replicate t.length false) i = false := fun i => by
    unfold bt; rw [List.getD_eq_getElem?_getD, List.getElem?_replicate]; split <;> rfl
  have hI : Inv t s ((List.replicate t.length false).set s true) [] [s] := by
    refine ⟨by simp, by simp, fun i => ?_, fun i hi => ?_⟩
    · rw [bt_set (by simpa using hs), hrep]; simp [eq_comm]
    · simp at hi; subst hi; exact Rch.start
  obtain ⟨b, O, hI', hc, hle, hE⟩ := reach_out t s hn hr t.length _ [] [s] (by simp) hI (by simp)
  refine ⟨b, fun i => hI'.closed hc (hle s (by rw [bt_set (by simpa using hs)]; simp)) i, ?_⟩
  rw [← srt_want t s b O hI']
  refine Ev.congr (f := fun k => table_Reach.j0 k t s false) (fun k => by rw [table_Reach.f, if_neg (by omega), decide_eq_false (by omega)]) ?_
  refine Ev.step (fun k => ?_) hE
  rw [table_Reach.j0, if_neg (by simp), if_pos (by omega), if_pos (by omega), Option.bind_some, if_pos (by omega), if_pos (by simp; omega)]
  simp [ic]
end Go.Proofs.Ytbcngajkokjfjaa.tableReach
namespace Go.Proofs.Ytbcngajkokjfjaa.tableReach
open Go.RowKit Go.Proofs.YtbcngajkokjfjaaW.PrintWords Go.Proofs.YtbcngajkokjfjaaW.PrintLast Go.Proofs.YtbcngajkokjfjaaW.PrintMore Go.Proofs.Ytbcngajkokjfjaa.QRea
theorem alive : Ev (fun k => kissgatelaw13_alive.f k) true := Ev.of kissgatelaw13_alive.mono (k := 8) (by decide +kernel)
def Small (t : List (List S30)) : Prop := t.length ≤ 20 ∧ ∀ r ∈ t, r.length ≤ 20
theorem rdL2 {t : List (List S30)} {i : Nat} (h : i < t.length) : rd_L2 t i = t[i] := by
  unfold rd_L2
  rw [Int.toNat_natCast, List.getD_eq_getElem?_getD, List.getElem?_eq_getElem h]; rfl
theorem Small.row {t : List (List S30)} (h : Small t) (i : Int) : (rd_L2 t i).length ≤ 20 := by
  unfold rd_L2
  rw [List.getD_eq_getElem?_getD]
  cases hg : t[i.toNat]? with
  | none => simp
  | some r => simpa using h.2 r (List.mem_of_getElem? hg)
theorem great_loop (t : List (List S30)) (hn : t.length ≤ 9223372036854775000) (d : Nat) : ∀ i : Nat, i + d = t.length →
    Ev (fun k => kissgatelaw13_great.l0 k t t t.length i) true ∨ (Ev (fun k => kissgatelaw13_great.l0 k t t t.length i) false ∧ t.length ≤ 20 ∧ ∀ r ∈ t.drop i, r.length ≤ 20) := by
  induction d with
  | zero =>
    intro i hi
    by_cases h : (t.length : Int) > 20
    · exact .inl (Ev.step (fun k => by rw [kissgatelaw13_great.l0, if_neg (by omega), decide_eq_true h]) (Ev.now _))
    · refine .inr ⟨Ev.step (fun k => by rw [kissgatelaw13_great.l0, if_neg (by omega), decide_eq_false h]) (Ev.now _), by omega, ?_⟩
      rw [List.drop_of_length_le (by omega)]; simp
  | succ d ih =>
    intro i hi
    have hlt : i < t.length := by omega
    have hw : wrap64 ((i : Int) + 1) = ((i + 1 : Nat) : Int) := by unfold wrap64; omega
    by_cases h : ((rd_L2 t i).length : Int) > 20
    · exact .inl (Ev.step (fun k => by rw [kissgatelaw13_great.l0, if_pos (by omega), if_pos (by omega), if_pos (by omega), if_pos h]) (Ev.now _))
    · have hs : ∀ k, kissgatelaw13_great.l0 (k + 1) t t t.length i = kissgatelaw13_great.l0 k t t t.length ((i + 1 : Nat) : Int) := fun k => by rw [kissgatelaw13_great.l0, if_pos (by omega), if_pos (by omega), if_pos (by omega), if_neg h, hw]
      rcases ih (i + 1) (by omega) with hb | ⟨hb, h20, hr⟩
      · exact .inl (Ev.step hs hb)
      · refine .inr ⟨Ev.step hs hb, h20, ?_⟩
        rw [List.drop_eq_getElem_cons hlt]
        intro r hr'
        rcases List.mem_cons.1 hr' with rfl | hr'
        · rw [rdL2 hlt] at h; omega
        · exact hr r hr'
theorem great (t : List (List S30)) (hn : t.length ≤ 9223372036854775000) : Ev (fun k => kissgatelaw13_great.f k t) true ∨ (Ev (fun k => kissgatelaw13_great.f k t) false ∧ Small t) := by
  rcases great_loop t hn t.length 0 (by omega) with h | ⟨h, h1, h2⟩
  · exact .inl h
  · exact .inr ⟨h, h1, by simpa using h2⟩
structure Keep (t : List (List S30)) (s : Nat) (b : List Bool) : Prop where
  len : b.length = t.length
  rch : ∀ i, bt b i = true → Rch t s i
  own : bt b s = true
theorem rnd_in (t : List (List S30)) (s : Nat) (hs : Small t) (l : List Int) (i a : Nat) (hi : i < t.length) (d : Nat) : ∀ (j : Nat) (b : List Bool), j + d = (rd_L2 t i).length → Keep t s b →
    ∃ b', Keep t s b' ∧ (∀ x, bt b x = true → bt b' x = true) ∧ (bt b i = true → ∀ c ∈ (rd_L2 t i).drop j, ∀ m : Nat, c.f0 = (m : Int) → m < t.length → bt b' m = true) ∧
      ∀ R, Ev (fun k => kissgatelaw13_TableReach.l1 k t l b' t.length a t t.length ((i + 1 : Nat) : Int)) R → Ev (fun k => kissgatelaw13_TableReach.l2 k t l b i t.length a t t.length i (rd_L2 t i) (rd_L2 t i).length j) R := by
  have hr := hs.row i
  have h20 := hs.1
  induction d with
  | zero =>
    intro j b hj hI
    have hw : wrap64 ((i : Int) + 1) = ((i + 1 : Nat) : Int) := by unfold wrap64; omega
    refine ⟨b, hI, fun _ h => h, ?_, fun R hR => Ev.step (fun k => by rw [kissgatelaw13_TableReach.l2, if_neg (by omega), hw]) hR⟩
    rw [List.drop_of_length_le (by omega)]; simp
  | succ d ih =>
    intro j b hj hI
    have hlt : j < (rd_L2 t i).length := by omega
    have hw : wrap64 ((j : Int) + 1) = ((j + 1 : Nat) : Int) := by unfold wrap64; omega
    have hlen := hI.len
    have hc : ((rd_L2 t i)[j]) ∈ rd_L2 t i := List.getElem_mem hlt
    rw [List.drop_eq_getElem_cons hlt]
    by_cases h : bt b i = true ∧ ((rd_L2 t i)[j]).f0 ≥ 0 ∧ ((rd_L2 t i)[j]).f0 < (t.length : Int)
    · obtain ⟨hb, h0, h1⟩ := h
      obtain ⟨m, hm⟩ := Int.eq_ofNat_of_zero_le h0
      rw [hm] at h0 h1
      have hmt : m < t.length := by omega
      have hmb : m < b.length := by omega
      have hI2 : Keep t s (b.set m true) := by
        refine ⟨by simp [hlen], fun x hx => ?_, by rw [bt_set hmb, hI.own, Bool.or_true]⟩
        rw [bt_set hmb, Bool.or_eq_true, decide_eq_true_iff] at hx
        rcases hx with rfl | hx
        · exact Rch.step (hI.rch i hb) ⟨hmt, _, hc, hm⟩
        · exact hI.rch x hx
      obtain ⟨b', hI', hle, hall, hE⟩ := ih (j + 1) _ (by omega) hI2
      refine ⟨b', hI', fun x hx => hle x (by rw [bt_set hmb, hx, Bool.or_true]), fun _ c hcm m' hm' hlt' => ?_, fun R hR => Ev.step (fun k => ?_) (hE R hR)⟩
      · rcases List.mem_cons.1 hcm with rfl | hcm
        · have : m' = m := by omega
          rw [this]; exact hle m (by rw [bt_set hmb]; simp)
        · exact hall (by rw [bt_set hmb, hb, Bool.or_true]) c hcm m' hm' hlt'
      · rw [kissgatelaw13_TableReach.l2, if_pos (by omega), if_pos (by omega), if_pos (by omega), if_pos (by omega), if_pos (by omega), rdOf_bt, if_pos hb, rd30 hlt, hm, if_pos h0, if_pos h1, if_pos h0, if_pos (by omega), hw, Int.toNat_natCast]
    · obtain ⟨b', hI', hle, hall, hE⟩ := ih (j + 1) b (by omega) hI
      refine ⟨b', hI', hle, fun hb c hcm m' hm' hlt' => ?_, fun R hR => Ev.step (fun k => ?_) (hE R hR)⟩
      · rcases List.mem_cons.1 hcm with rfl | hcm
        · exact absurd ⟨hb, by omega, by omega⟩ h
        · exact hall hb c hcm m' hm' hlt'
      · rw [kissgatelaw13_TableReach.l2, if_pos (by omega), if_pos (by omega), if_pos (by omega), if_pos (by omega), if_pos (by omega), rdOf_bt, rd30 hlt, hw]
        by_cases hb : bt b i = true
        · rw [if_pos hb]
          by_cases h0 : ((rd_L2 t i)[j]).f0 ≥ 0
          · rw [if_pos h0, if_neg (fun h1 => h ⟨hb, h0, h1⟩)]
          · rw [if_neg h0]
        · rw [if_neg hb]
theorem rnd_out (t : List (List S30)) (s : Nat) (hs : Small t) (l : List Int) (a : Nat) (ha : a < t.length) (d : Nat) : ∀ (i : Nat) (b : List Bool), i + d = t.length → Keep t s b →
    ∃ b', Keep t s b' ∧ (∀ x, bt b x = true → bt b' x = true) ∧ (∀ x, i ≤ x → x < t.length → bt b x = true → ∀ y, E t x y → bt b' y = true) ∧
      ∀ R, Ev (fun k => kissgatelaw13_TableReach.l0 k t l b' t.length ((a + 1 : Nat) : Int)) R → Ev (fun k => kissgatelaw13_TableReach.l1 k t l b t.length a t t.length i) R := by
  have h20 := hs.1
  induction d with
  | zero =>
    intro i b hi hI
    have hw : wrap64 ((a : Int) + 1) = ((a + 1 : Nat) : Int) := by unfold wrap64; omega
    exact ⟨b, hI, fun _ h => h, fun x h1 h2 => by omega, fun R hR => Ev.step (fun k => by rw [kissgatelaw13_TableReach.l1, if_neg (by omega), hw]) hR⟩
  | succ d ih =>
    intro i b hi hI
    obtain ⟨b1, hI1, hle1, hall1, hE1⟩ := rnd_in t s hs l i a (by omega) (rd_L2 t i).length 0 b (by omega) hI
    obtain ⟨b', hI', hle, hall, hE⟩ := ih (i + 1) b1 (by omega) hI1
    refine ⟨b', hI', fun x hx => hle x (hle1 x hx), fun x h1 h2 hb y hy => ?_, fun R hR => Ev.step (fun k => ?_) (hE1 R (hE R hR))⟩
    · by_cases hx : x = i
      · subst hx
        obtain ⟨hyt, c, hc, hcy⟩ := hy
        exact hle y (hall1 hb c (by simpa using hc) y hcy hyt)
      · exact hall x (by omega) h2 (hle1 x hb) y hy
    · rw [kissgatelaw13_TableReach.l1, if_pos (by omega), if_pos (by omega), if_pos (by omega)]; rfl
def Closed (t : List (List S30)) (b : List Bool) : Prop := ∀ x, bt b x = true → ∀ y, E t x y → bt b y = true
def held (b : List Bool) : List Nat := (List.range b.length).filter fun i => bt b i
theorem held_nodup (b : List Bool) : (held b).Nodup := List.Pairwise.filter _ List.nodup_range
theorem mem_held {b : List Bool} {i : Nat} : i ∈ held b ↔ bt b i = true := by
  unfold held
  rw [List.mem_filter, List.mem_range]
  exact ⟨fun h => h.2, fun h => ⟨bt_lt h, h⟩⟩
theorem Keep.all {t : List (List S30)} {s : Nat} {b : List Bool} (h : Keep t s b) (hc : Closed t b) (i : Nat) : bt b i = true ↔ Rch t s i := by
  refine ⟨h.rch i, fun hr => ?_⟩
  induction hr with
  | start => exact h.own
  | step _ he ih => exact hc _ ih _ he
theorem rounds (t : List (List S30)) (s : Nat) (hs : Small t) (l : List Int) (d : Nat) : ∀ (a : Nat) (b : List Bool), a + d = t.length → Keep t s b → (Closed t b ∨ a + 1 ≤ (held b).length) →
    ∃ b', (∀ i, bt b' i = true ↔ Rch t s i) ∧ b'.length = t.length ∧
      ∀ R, Ev (fun k => kissgatelaw13_TableReach.l3 k l b' [] t.length 0) R → Ev (fun k => kissgatelaw13_TableReach.l0 k t l b t.length a) R := by
  have h20 := hs.1
  induction d with
  | zero =>
    intro a b ha hI hc
    have hcl : Closed t b := by
      refine hc.resolve_right fun h => ?_
      have := List.Nodup.length_le_of_subset (l₂ := List.range b.length) (held_nodup b) (fun i hi => List.mem_range.2 (bt_lt (mem_held.1 hi)))
      rw [List.length_range, hI.len] at this
      omega
    exact ⟨b, hI.all hcl, hI.len, fun R hR => Ev.step (fun k => by rw [kissgatelaw13_TableReach.l0, if_neg (by omega)]) hR⟩
  | succ d ih =>
    intro a b ha hI hc
    obtain ⟨b1, hI1, hle, hall, hE1⟩ := rnd_out t s hs l a (by omega) t.length 0 b (by omega) hI
    have hc1 : Closed t b1 ∨ a + 1 + 1 ≤ (held b1).length := by
      by_cases hcl : Closed t b
      · left
        intro x hx y hy
        exact hle y ((hI.all hcl y).2 (Rch.step (hI1.rch x hx) hy))
      · right
        have h1 := hc.resolve_left hcl
        have : ∃ x y, bt b x = true ∧ E t x y ∧ ¬ bt b y = true := by
          apply Classical.byContradiction
          intro hn
          exact hcl fun x hx y hy => Classical.byContradiction fun hb => hn ⟨x, y, hx, hy, hb⟩
        obtain ⟨x, y, hx, hy, hb⟩ := this
        have hy1 : bt b1 y = true := hall x (by omega) (by rw [← hI.len]; exact bt_lt hx) hx y hy
        have := List.Nodup.length_le_of_subset (l₁ := y :: held b) (l₂ := held b1) (List.nodup_cons.2 ⟨fun h => hb (mem_held.1 h), held_nodup b⟩) (fun i hi => by
          rcases List.mem_cons.1 hi with rfl | hi
          · exact mem_held.2 hy1
          · exact mem_held.2 (hle i (mem_held.1 hi)))
        rw [List.length_cons] at this
        omega
    obtain ⟨b', hR, hl, hE⟩ := ih (a + 1) b1 (by omega) hI1 hc1
    exact ⟨b', hR, hl, fun R h => Ev.step (fun k => by rw [kissgatelaw13_TableReach.l0, if_pos (by omega)]; rfl) (hE1 R (hE R h))⟩
theorem same_loop (l : List Int) (hl : l.length ≤ 1000) (d : Nat) : ∀ i : Nat, i + d = l.length → Ev (fun k => kissgateref06_Same.l0 k l l l.length i) true := by
  induction d with
  | zero => intro i hi; exact Ev.step (fun k => by rw [kissgateref06_Same.l0, if_neg (by omega)]) (Ev.now _)
  | succ d ih =>
    intro i hi
    have hw : wrap64 ((i : Int) + 1) = ((i + 1 : Nat) : Int) := by unfold wrap64; omega
    exact Ev.step (fun k => by rw [kissgateref06_Same.l0, if_pos (by omega), if_pos (by omega), if_pos (by omega), if_pos (by omega), if_pos rfl, hw]) (ih (i + 1) (by omega))
theorem same (l : List Int) (hl : l.length ≤ 1000) : Ev (fun k => kissgateref06_Same.f k l l) true :=
  Ev.congr (fun k => by rw [kissgateref06_Same.f, if_pos rfl]; rfl) (same_loop l hl l.length 0 (by omega))
theorem count (t : List (List S30)) (n : Nat) (ht : t.length = n) (h20 : Small t) (h0 : 0 < n) (hall : ∀ i < n, Rch t 0 i) : ∃ L : List Int, L.length = n ∧ Ev (fun k => table_Reach.f k t 0) L := by
  obtain ⟨b, hb, hE⟩ := reach t 0 h20.1 h20.row (by omega)
  refine ⟨_, ?_, hE⟩
  unfold want
  rw [List.filter_eq_self.2 (fun i hi => (hb i).2 (hall i (by rw [← ht]; exact List.mem_range.1 hi)))]
  simp [ht]
theorem reg_all {T : List (List S30)} (h : table_Registrar.f = some T) : T.length = 3 ∧ Small T ∧ ∀ i < 3, Rch T 0 i := by
  unfold table_Registrar.f at h
  have e02 : E T 0 2 := by cases h; exact ⟨by decide, ⟨2, 3⟩, by simp [rd_L2], rfl⟩
  have e21 : E T 2 1 := by cases h; exact ⟨by decide, ⟨1, 1⟩, by simp [rd_L2], rfl⟩
  refine ⟨by cases h; rfl, by cases h; exact ⟨by decide, by simp⟩, ?_⟩
  have r2 := Rch.step Rch.start e02
  have r1 := Rch.step r2 e21
  intro i hi
  match i, hi with
  | 0, _ => exact Rch.start
  | 1, _ => exact r1
  | 2, _ => exact r2
theorem app_all {T : List (List S30)} (h : table_Applicant.f = some T) : T.length = 5 ∧ Small T ∧ ∀ i < 5, Rch T 0 i := by
  unfold table_Applicant.f at h
  have e01 : E T 0 1 := by cases h; exact ⟨by decide, ⟨1, 0⟩, by simp [rd_L2], rfl⟩
  have e14 : E T 1 4 := by cases h; exact ⟨by decide, ⟨4, 0⟩, by simp [rd_L2], rfl⟩
  have e12 : E T 1 2 := by cases h; exact ⟨by decide, ⟨2, 1⟩, by simp [rd_L2], rfl⟩
  have e23 : E T 2 3 := by cases h; exact ⟨by decide, ⟨3, 2⟩, by simp [rd_L2], rfl⟩
  refine ⟨by cases h; rfl, by cases h; exact ⟨by decide, by simp⟩, ?_⟩
  have r1 := Rch.step Rch.start e01
  have r4 := Rch.step r1 e14
  have r2 := Rch.step r1 e12
  have r3 := Rch.step r2 e23
  intro i hi
  match i, hi with
  | 0, _ => exact Rch.start
  | 1, _ => exact r1
  | 2, _ => exact r2
  | 3, _ => exact r3
  | 4, _ => exact r4
theorem ends (l : List Int) (hl : l.length ≤ 1000) (b : List Bool) (n : Nat) (hn : n = b.length) (h20 : n ≤ 20) (hw : l = want b n) (d : Nat) : ∀ i : Nat, i + d = n →
    Ev (fun k => kissgatelaw13_TableReach.l3 k l b (ic ((List.range i).filter fun j => bt b j)) n i) true := by
  induction d with
  | zero =>
    intro i hi
    obtain rfl : i = n := by omega
    refine Ev.step (fun k => by rw [kissgatelaw13_TableReach.l3, if_neg (by omega)]) ?_
    have e : ic ((List.range i).filter fun j => bt b j) = l := hw.symm
    rw [e]
    refine Ev.bind (same l hl) ?_
    simp only [if_true]
    obtain ⟨T1, hT1⟩ : ∃ T, table_Registrar.f = some T := ⟨_, rfl⟩
    obtain ⟨T2, hT2⟩ : ∃ T, table_Applicant.f = some T := ⟨_, rfl⟩
    rw [hT1, hT2]
    obtain ⟨a1, a2, a3⟩ := reg_all hT1
    obtain ⟨a4, a5, a6⟩ := app_all hT2
    obtain ⟨L1, hL1, hE1⟩ := count T1 3 a1 a2 (by omega) a3
    obtain ⟨L2, hL2, hE2⟩ := count T2 5 a4 a5 (by omega) a6
    simp only [Option.bind_some]
    refine Ev.bind hE1 ?_
    simp only [hL1]
    refine Ev.congr (fun k => if_pos rfl) ?_
    refine Ev.bind hE2 ?_
    rw [hL2]
    exact Ev.now _
  | succ d ih =>
    intro i hi
    have hw : wrap64 ((i : Int) + 1) = ((i + 1 : Nat) : Int) := by unfold wrap64; omega
    have hf : ((List.range i).filter fun j => bt b j).length ≤ i := by simpa using List.length_filter_le (fun j => bt b j) (List.range i)
    refine Ev.step (fun k => ?_) (ih (i + 1) (by omega))
    rw [kissgatelaw13_TableReach.l3, if_pos (by omega), if_pos (by omega), if_pos (by omega), rdOf_bt, hw, List.range_succ, List.filter_append]
    by_cases hb : bt b i = true
    · rw [if_pos hb, if_pos (by simp only [ic, List.length_map]; omega), List.filter_cons_of_pos (by simpa using hb), List.filter_nil, ic, ic, List.map_append]; rfl
    · rw [if_neg hb, List.filter_cons_of_neg (by simpa using hb), List.filter_nil, List.append_nil]
theorem pure : Pure := by
  intro t a ht ha
  refine Ev.rounds ?_
  unfold kissgatelaw13_TableReach.f
  refine Ev.bind alive ?_
  simp only [if_true]
  rcases great t (by have := ht.1; simp only [maxLen] at this; omega) with h | ⟨h, hs⟩
  · refine Ev.bind h ?_
    simp only [if_true]
    exact Ev.now _
  · refine Ev.bind h ?_
    simp only [Bool.false_eq_true, if_false]
    have h20 := hs.1
    by_cases hr : 0 ≤ a ∧ a < (t.length : Int)
    · obtain ⟨s, rfl⟩ := Int.eq_ofNat_of_zero_le hr.1
      have hst : s < t.length := by omega
      obtain ⟨b, hb, hE⟩ := reach t s h20 hs.row hst
      refine Ev.bind hE ?_
      refine Ev.congr (f := fun k => kissgatelaw13_TableReach.j0 k t s (want b t.length) false) (fun k => by rw [if_neg (by omega), decide_eq_false (by omega)]) ?_
      have hrep : ∀ i, bt (List.replicate t.length false) i = false := fun i => by
        unfold bt; rw [List.getD_eq_getElem?_getD, List.getElem?_replicate]; split <;> rfl
      have hbs : ∀ i, bt ((List.replicate t.length false).set s true) i = decide (s = i) := fun i => by rw [bt_set (by simpa using hst), hrep, Bool.or_false]
      have hK : Keep t s ((List.replicate t.length false).set s true) := ⟨by simp, fun i hi => by rw [hbs, decide_eq_true_iff] at hi; subst hi; exact Rch.start, by rw [hbs]; simp⟩
      obtain ⟨b', hb', hl', hE'⟩ := rounds t s hs (want b t.length) t.length 0 _ (by omega) hK (.inr (by
        have : s ∈ held ((List.replicate t.length false).set s true) := mem_held.2 hK.own
        exact List.length_pos_of_mem this))
      have hbb : ∀ i, bt b i = bt b' i := fun i => by rw [Bool.eq_iff_iff, hb, hb']
      have hww : want b t.length = want b' t.length := by unfold want; congr 1; exact List.filter_congr fun i _ => hbb i
      have hwl : (want b t.length).length ≤ 1000 := by
        have := List.length_filter_le (fun j => bt b j) (List.range t.length)
        simp [want, ic] at *; omega
      refine Ev.step (fun k => ?_) (hE' true (ends (want b t.length) hwl b' t.length hl'.symm h20 hww t.length 0 (by omega)))
      rw [kissgatelaw13_TableReach.j0, if_neg (by simp), if_pos (by omega), if_pos (by omega), Option.bind_some, if_pos (by omega), if_pos (by simp; omega)]
      simp [ic]
    · have hd : ∀ k, table_Reach.f (k + 1) t a = some [] := fun k => by
        by_cases h0 : a < 0
        · rw [table_Reach.f, if_pos h0, table_Reach.j0, if_pos rfl]
        · rw [table_Reach.f, if_neg h0, decide_eq_true (by omega), table_Reach.j0, if_pos rfl]
      refine Ev.bind (Ev.step hd (Ev.now _)) ?_
      refine Ev.step (f := fun _ => some true) (fun k => ?_) (Ev.now _)
      by_cases h0 : a < 0
      · rw [if_pos h0, kissgatelaw13_TableReach.j0, if_pos rfl]; rfl
      · rw [if_neg h0, decide_eq_true (by omega), kissgatelaw13_TableReach.j0, if_pos rfl]; rfl
end Go.Proofs.Ytbcngajkokjfjaa.tableReach
