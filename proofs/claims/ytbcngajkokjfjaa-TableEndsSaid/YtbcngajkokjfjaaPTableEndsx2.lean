-- PRINTED BY print.sh 35421559b90ae4d0a3588c463048766b98c2df88dd9212a6774a882060cdf62d: not written by this session
import Derived.Test.YtbcngajkokjfjaaPTableEndsx0
import Derived.Test.YtbcngajkokjfjaaPTableEndsx1
namespace Go.Proofs.Ytbcngajkokjfjaa.PTableEnds
open Go.RowKit Go.Proofs.YtbcngajkokjfjaaW.PrintWords Go.Proofs.YtbcngajkokjfjaaW.PrintLast Go.Proofs.YtbcngajkokjfjaaW.PrintMore
attribute [local go_sem] max2_int min2_int max_two min_two max_three min_three max_four min_four   -- for this text's walks alone
set_option linter.unusedVariables false
set_option linter.unusedSimpArgs false

/-! ### kissgatelaw13_TableEnds: function 4 -/
mutual
def kissgatelaw13_TableEnds.l0 : Nat → Bool → Int → List Int → Int → Int → Option (Bool)
  | 0, _, _, _, _, _ => none
  | k + 1, x3, x4, x14, x15, x16 => if x16 < x15 then (if 0 ≤ x16 then (if x16 < (x14.length : Int) then ((table_Registrar.f).bind fun t140 => ((table_At.f t140 x4 (rd x14 x16)).bind fun bt143 => (if bt143.2.2 = true then (if bt143.2.1 = 3 then (if x3 = true then (kissgatelaw13_TableEnds.j1 k x3 x14 x15 x16 true bt143.1 bt143.2.1) else (if bt143.2.1 = 4 then (kissgatelaw13_TableEnds.j1 k x3 x14 x15 x16 true bt143.1 bt143.2.1) else (if (rd x14 x16) = 0 then (if bt143.1 = 2 then (if (rd x14 x16) = 4 then (kissgatelaw13_TableEnds.j1 k x3 x14 x15 x16 (bt143.1 != 0) bt143.1 bt143.2.1) else (kissgatelaw13_TableEnds.j1 k x3 x14 x15 x16 false bt143.1 bt143.2.1)) else (kissgatelaw13_TableEnds.j1 k x3 x14 x15 x16 true bt143.1 bt143.2.1)) else (if (rd x14 x16) = 4 then (kissgatelaw13_TableEnds.j1 k x3 x14 x15 x16 (bt143.1 != 0) bt143.1 bt143.2.1) else (kissgatelaw13_TableEnds.j1 k x3 x14 x15 x16 false bt143.1 bt143.2.1))))) else (if bt143.2.1 = 4 then (if x3 = true then (if (rd x14 x16) = 0 then (if bt143.1 = 2 then (if (rd x14 x16) = 4 then (kissgatelaw13_TableEnds.j1 k x3 x14 x15 x16 (bt143.1 != 0) bt143.1 bt143.2.1) else (kissgatelaw13_TableEnds.j1 k x3 x14 x15 x16 false bt143.1 bt143.2.1)) else (kissgatelaw13_TableEnds.j1 k x3 x14 x15 x16 true bt143.1 bt143.2.1)) else (if (rd x14 x16) = 4 then (kissgatelaw13_TableEnds.j1 k x3 x14 x15 x16 (bt143.1 != 0) bt143.1 bt143.2.1) else (kissgatelaw13_TableEnds.j1 k x3 x14 x15 x16 false bt143.1 bt143.2.1))) else (kissgatelaw13_TableEnds.j1 k x3 x14 x15 x16 true bt143.1 bt143.2.1)) else (if (rd x14 x16) = 0 then (if bt143.1 = 2 then (if (rd x14 x16) = 4 then (kissgatelaw13_TableEnds.j1 k x3 x14 x15 x16 (bt143.1 != 0) bt143.1 bt143.2.1) else (kissgatelaw13_TableEnds.j1 k x3 x14 x15 x16 false bt143.1 bt143.2.1)) else (kissgatelaw13_TableEnds.j1 k x3 x14 x15 x16 true bt143.1 bt143.2.1)) else (if (rd x14 x16) = 4 then (kissgatelaw13_TableEnds.j1 k x3 x14 x15 x16 (bt143.1 != 0) bt143.1 bt143.2.1) else (kissgatelaw13_TableEnds.j1 k x3 x14 x15 x16 false bt143.1 bt143.2.1))))) else (kissgatelaw13_TableEnds.l0 k x3 x4 x14 x15 (wrap64 (x16 + 1)))))) else (none)) else (none)) else (some true)
def kissgatelaw13_TableEnds.j1 : Nat → Bool → List Int → Int → Int → Bool → Int → Int → Option (Bool)
  | 0, _, _, _, _, _, _, _ => none
  | k + 1, x3, x14, x15, x16, x61, x147000, x147001 => if x61 = true then (some false) else (if x3 = true then (if x147001 = 4 then (if ((x147001 == 3) != (x147000 != 0)) = true then (some false) else (kissgatelaw13_TableEnds.l0 k (x147001 == 3) x147000 x14 x15 (wrap64 (x16 + 1)))) else (if (true != (x147000 != 0)) = true then (some false) else (kissgatelaw13_TableEnds.l0 k true x147000 x14 x15 (wrap64 (x16 + 1))))) else (if ((x147001 == 3) != (x147000 != 0)) = true then (some false) else (kissgatelaw13_TableEnds.l0 k (x147001 == 3) x147000 x14 x15 (wrap64 (x16 + 1)))))
end
def kissgatelaw13_TableEnds.f (k : Nat) (l0 : List Int) : Option (Bool) := (kissgatelaw13_alive.f k).bind fun t138 => (if t138 = true then (if (l0.length : Int) > 60 then (some true) else (kissgatelaw13_TableEnds.l0 k false 0 l0 (l0.length : Int) 0)) else (some false))
theorem kissgatelaw13_TableEnds.mono_l : ∀ k, (∀ y0 y1 y2 y3 y4, LeO (kissgatelaw13_TableEnds.l0 k y0 y1 y2 y3 y4) (kissgatelaw13_TableEnds.l0 (k + 1) y0 y1 y2 y3 y4)) ∧ (∀ y0 y1 y2 y3 y4 y5 y6, LeO (kissgatelaw13_TableEnds.j1 k y0 y1 y2 y3 y4 y5 y6) (kissgatelaw13_TableEnds.j1 (k + 1) y0 y1 y2 y3 y4 y5 y6))
  | 0 => ⟨fun _ _ _ _ _ r h => by simp [kissgatelaw13_TableEnds.l0] at h, fun _ _ _ _ _ _ _ r h => by simp [kissgatelaw13_TableEnds.j1] at h⟩
  | k + 1 => by
    obtain ⟨ih0, ih1⟩ := kissgatelaw13_TableEnds.mono_l k
    refine ⟨?_, ?_⟩
    · intro y0 y1 y2 y3 y4
      unfold kissgatelaw13_TableEnds.l0
      repeat' first
      | (with_reducible exact ih0 _ _ _ _ _)
      | (with_reducible exact ih1 _ _ _ _ _ _ _)
      | (with_reducible exact kissgatelaw13_alive.mono _)
      | (with_reducible exact LeO.refl _)
      | (with_reducible exact LeO.none _)
      | (with_reducible refine LeO.ite ?_ ?_)
      | (with_reducible refine LeO.bind ?_ (fun _ => ?_))
      | exact ih0 _ _ _ _ _
      | exact ih1 _ _ _ _ _ _ _
      | exact kissgatelaw13_alive.mono _
      | exact LeO.none _
      | refine LeO.ite ?_ ?_
      | refine LeO.bind ?_ (fun _ => ?_)
    · intro y0 y1 y2 y3 y4 y5 y6
      unfold kissgatelaw13_TableEnds.j1
      repeat' first
      | (with_reducible exact ih0 _ _ _ _ _)
      | (with_reducible exact ih1 _ _ _ _ _ _ _)
      | (with_reducible exact kissgatelaw13_alive.mono _)
      | (with_reducible exact LeO.refl _)
      | (with_reducible exact LeO.none _)
      | (with_reducible refine LeO.ite ?_ ?_)
      | (with_reducible refine LeO.bind ?_ (fun _ => ?_))
      | exact ih0 _ _ _ _ _
      | exact ih1 _ _ _ _ _ _ _
      | exact kissgatelaw13_alive.mono _
      | exact LeO.none _
      | refine LeO.ite ?_ ?_
      | refine LeO.bind ?_ (fun _ => ?_)
theorem kissgatelaw13_TableEnds.mono : ∀ a0 k, LeO (kissgatelaw13_TableEnds.f k a0) (kissgatelaw13_TableEnds.f (k + 1) a0) := by
  intro a0 k
  obtain ⟨ih0, ih1⟩ := kissgatelaw13_TableEnds.mono_l k
  unfold kissgatelaw13_TableEnds.f
  repeat' first
      | (with_reducible exact ih0 _ _ _ _ _)
      | (with_reducible exact ih1 _ _ _ _ _ _ _)
      | (with_reducible exact kissgatelaw13_alive.mono _)
      | (with_reducible exact LeO.refl _)
      | (with_reducible exact LeO.none _)
      | (with_reducible refine LeO.ite ?_ ?_)
      | (with_reducible refine LeO.bind ?_ (fun _ => ?_))
      | exact ih0 _ _ _ _ _
      | exact ih1 _ _ _ _ _ _ _
      | exact kissgatelaw13_alive.mono _
      | exact LeO.none _
      | refine LeO.ite ?_ ?_
      | refine LeO.bind ?_ (fun _ => ?_)
set_option maxHeartbeats 8000000 in
set_option maxRecDepth 100000 in
theorem kissgatelaw13_TableEnds.calls (k : Nat) (A0 : Option Addr) (c0 : Nat) (l0 : List Int) (r : Bool) (w : World) (hr0 : Kd.C (Kd.int .i64) w A0 l0.length l0) (hc0 : l0.length ≤ c0) (h : kissgatelaw13_TableEnds.f k l0 = some r) :
    Calls Try.prog 4 #[.slice A0 l0.length c0] w fun e w' => e = .returned (.bool r) ∧ Below w.heap.size w w' := by
  have hu30 := Try.underlying30
  have HR0 := Aside0.mk hr0
  have HC0 := Aside0.mk hc0
  clear hr0 hc0
  have HB := Aside0.mk (Below.refl w.heap.size w)
  have H : ((kissgatelaw13_alive.f k).bind fun t138 => (if t138 = true then (if (l0.length : Int) > 60 then (some true) else (kissgatelaw13_TableEnds.l0 k false 0 l0 (l0.length : Int) 0)) else (some false))) = some r := h
  clear h
  replace H := Option.bind_eq_some_iff.mp H
  obtain ⟨t138, A20, H⟩ := H
  replace H : (if t138 = true then (if (l0.length : Int) > 60 then (some true) else (kissgatelaw13_TableEnds.l0 k false 0 l0 (l0.length : Int) 0)) else (some false)) = some r := H
  have A2 := Aside0.mk A20
  clear A20
  by_cases c3 : t138 = true
  · subst c3
    have H1 : (if (l0.length : Int) > 60 then (some true) else (kissgatelaw13_TableEnds.l0 k false 0 l0 (l0.length : Int) 0)) = some r := by rw [if_pos rfl] at H; exact H
    clear H
    have H := H1
    clear H1
    by_cases c4 : (l0.length : Int) > 60
    · rw [if_pos c4] at H
      have c4b0 : decide (60 < (l0.length : Int)) = true := decide_eq_true c4
      have c4b1 : decide (60 < l0.length) = true := decide_eq_true (by omega)
      clear c4
      obtain rfl := Option.some.inj H
      go_enter Try.func4, Try.ntmps4
      go_wp2_with (first | ((with_reducible refine gate_callee (f := 14) rfl ?_); refine goesL_ (some 9) rfl rfl Try.func14 (by kernel_rfl) rfl #[] rfl (by (try simp only [List.map_toArray, List.map_cons, List.map_nil]); first | done | rfl | (simp only [List.length_drop, List.length_take]; rfl)) ?_; (with_reducible refine (kissgatelaw13_alive.calls k  true _ A2.out).mono ?_); rintro e w5 ⟨rfl, hb⟩; refine ⟨_, rfl, ?_⟩; have n0_ := Aside0.mk (below_step (by repeat (first | (with_reducible first | exact HB.out | apply below_alloc | apply pw_below_drewN | apply below_drew1) | exact HB.out)) hb); clear HB; have HB := n0_; clear n0_; (try clear hb); (try clear hb2); (try clear hk); (try clear hi)))
      go_ret
      exact ⟨by first | rfl | (simp [errW_none, errW_some] <;> rfl) | (simp [*, errW_none, errW_some] <;> rfl), by repeat (first | (with_reducible first | exact HB.out | apply below_alloc | apply pw_below_drewN | apply below_drew1) | exact HB.out)⟩
    · rw [if_neg c4] at H
      have c4b0 : decide (60 < (l0.length : Int)) = false := decide_eq_false c4
      have c4b1 : decide (60 < l0.length) = false := decide_eq_false (by omega)
      clear c4
      have H' := Aside0.mk H
      clear H
      go_enter Try.func4, Try.ntmps4
      go_wp2_with (first | ((with_reducible refine gate_callee (f := 14) rfl ?_); refine goesL_ (some 9) rfl rfl Try.func14 (by kernel_rfl) rfl #[] rfl (by (try simp only [List.map_toArray, List.map_cons, List.map_nil]); first | done | rfl | (simp only [List.length_drop, List.length_take]; rfl)) ?_; (with_reducible refine (kissgatelaw13_alive.calls k  true _ A2.out).mono ?_); rintro e w6 ⟨rfl, hb⟩; refine ⟨_, rfl, ?_⟩; have n0_ := Aside0.mk (below_step (by repeat (first | (with_reducible first | exact HB.out | apply below_alloc | apply pw_below_drewN | apply below_drew1) | exact HB.out)) hb); clear HB; have HB := n0_; clear n0_; (try clear hb); (try clear hb2); (try clear hk); (try clear hi)))
      go_loopg [3, 4, 16] k (fun kq v3 v4 v16 w' => ∃ (x3_1 : Bool) (x4_1 : Int) (x16_1 : Int), v3 = .bool x3_1 ∧ v4 = .int .i64 x4_1 ∧ v16 = .int .i64 x16_1 ∧ Aside0 (kissgatelaw13_TableEnds.l0 kq x3_1 x4_1 l0 (l0.length : Int) x16_1 = some r) ∧ Aside0 (kq ≤ k) ∧ Aside0 (Below w.heap.size w w'))
      case atStart => exact ⟨(false), (0), (0), (by first | rfl | (simp; done) | (simp [*]; done)), (by first | rfl | (simp; done) | (simp [*]; done)), (by first | rfl | (simp; done) | (simp [*]; done)), H', ⟨Nat.le_refl _⟩, ⟨by repeat (first | (with_reducible first | exact HB.out | apply below_alloc | apply pw_below_drewN | apply below_drew1) | exact HB.out)⟩⟩
      case round =>
        clear H'
        try clear c1
        try clear p2
        try clear c3
        try clear c4
        try clear c4b0
        try clear c4b1
        obtain ⟨x3_1, x4_1, x16_1, rfl, rfl, rfl, HA, HK1, HB⟩ := hrel
        cases gk with
        | zero => exact absurd HA.out (by simp [kissgatelaw13_TableEnds.l0])
        | succ k1 =>
          have H := HA.out
          clear HA
          simp only [kissgatelaw13_TableEnds.l0] at H
          by_cases c7 : x16_1 < (l0.length : Int)
          · rw [if_pos c7] at H
            have c7b0 : decide (x16_1 < (l0.length : Int)) = true := decide_eq_true c7
            clear c7
            by_cases c8 : 0 ≤ x16_1
            · rw [if_pos c8] at H
              have c8b0 : decide (0 ≤ x16_1) = true := decide_eq_true c8
              clear c8
              by_cases c9 : x16_1 < (l0.length : Int)
              · rw [if_pos c9] at H
                have c9b0 : decide (x16_1 < (l0.length : Int)) = true := decide_eq_true c9
                clear c9
                replace H := Option.bind_eq_some_iff.mp H
                obtain ⟨t140, A100, H⟩ := H
                replace H : ((table_At.f t140 x4_1 (rd l0 x16_1)).bind fun bt143 => (if bt143.2.2 = true then (if bt143.2.1 = 3 then (if x3_1 = true then (kissgatelaw13_TableEnds.j1 k1 x3_1 l0 (l0.length : Int) x16_1 true bt143.1 bt143.2.1) else (if bt143.2.1 = 4 then (kissgatelaw13_TableEnds.j1 k1 x3_1 l0 (l0.length : Int) x16_1 true bt143.1 bt143.2.1) else (if (rd l0 x16_1) = 0 then (if bt143.1 = 2 then (if (rd l0 x16_1) = 4 then (kissgatelaw13_TableEnds.j1 k1 x3_1 l0 (l0.length : Int) x16_1 (bt143.1 != 0) bt143.1 bt143.2.1) else (kissgatelaw13_TableEnds.j1 k1 x3_1 l0 (l0.length : Int) x16_1 false bt143.1 bt143.2.1)) else (kissgatelaw13_TableEnds.j1 k1 x3_1 l0 (l0.length : Int) x16_1 true bt143.1 bt143.2.1)) else (if (rd l0 x16_1) = 4 then (kissgatelaw13_TableEnds.j1 k1 x3_1 l0 (l0.length : Int) x16_1 (bt143.1 != 0) bt143.1 bt143.2.1) else (kissgatelaw13_TableEnds.j1 k1 x3_1 l0 (l0.length : Int) x16_1 false bt143.1 bt143.2.1))))) else (if bt143.2.1 = 4 then (if x3_1 = true then (if (rd l0 x16_1) = 0 then (if bt143.1 = 2 then (if (rd l0 x16_1) = 4 then (kissgatelaw13_TableEnds.j1 k1 x3_1 l0 (l0.length : Int) x16_1 (bt143.1 != 0) bt143.1 bt143.2.1) else (kissgatelaw13_TableEnds.j1 k1 x3_1 l0 (l0.length : Int) x16_1 false bt143.1 bt143.2.1)) else (kissgatelaw13_TableEnds.j1 k1 x3_1 l0 (l0.length : Int) x16_1 true bt143.1 bt143.2.1)) else (if (rd l0 x16_1) = 4 then (kissgatelaw13_TableEnds.j1 k1 x3_1 l0 (l0.length : Int) x16_1 (bt143.1 != 0) bt143.1 bt143.2.1) else (kissgatelaw13_TableEnds.j1 k1 x3_1 l0 (l0.length : Int) x16_1 false bt143.1 bt143.2.1))) else (kissgatelaw13_TableEnds.j1 k1 x3_1 l0 (l0.length : Int) x16_1 true bt143.1 bt143.2.1)) else (if (rd l0 x16_1) = 0 then (if bt143.1 = 2 then (if (rd l0 x16_1) = 4 then (kissgatelaw13_TableEnds.j1 k1 x3_1 l0 (l0.length : Int) x16_1 (bt143.1 != 0) bt143.1 bt143.2.1) else (kissgatelaw13_TableEnds.j1 k1 x3_1 l0 (l0.length : Int) x16_1 false bt143.1 bt143.2.1)) else (kissgatelaw13_TableEnds.j1 k1 x3_1 l0 (l0.length : Int) x16_1 true bt143.1 bt143.2.1)) else (if (rd l0 x16_1) = 4 then (kissgatelaw13_TableEnds.j1 k1 x3_1 l0 (l0.length : Int) x16_1 (bt143.1 != 0) bt143.1 bt143.2.1) else (kissgatelaw13_TableEnds.j1 k1 x3_1 l0 (l0.length : Int) x16_1 false bt143.1 bt143.2.1))))) else (kissgatelaw13_TableEnds.l0 k1 x3_1 x4_1 l0 (l0.length : Int) (wrap64 (x16_1 + 1))))) = some r := H
                have A10 := Aside0.mk A100
                clear A100
                replace H := Option.bind_eq_some_iff.mp H
                obtain ⟨⟨t143, t144, t145⟩, A110, H⟩ := H
                replace H : (if t145 = true then (if t144 = 3 then (if x3_1 = true then (kissgatelaw13_TableEnds.j1 k1 x3_1 l0 (l0.length : Int) x16_1 true t143 t144) else (if t144 = 4 then (kissgatelaw13_TableEnds.j1 k1 x3_1 l0 (l0.length : Int) x16_1 true t143 t144) else (if (rd l0 x16_1) = 0 then (if t143 = 2 then (if (rd l0 x16_1) = 4 then (kissgatelaw13_TableEnds.j1 k1 x3_1 l0 (l0.length : Int) x16_1 (t143 != 0) t143 t144) else (kissgatelaw13_TableEnds.j1 k1 x3_1 l0 (l0.length : Int) x16_1 false t143 t144)) else (kissgatelaw13_TableEnds.j1 k1 x3_1 l0 (l0.length : Int) x16_1 true t143 t144)) else (if (rd l0 x16_1) = 4 then (kissgatelaw13_TableEnds.j1 k1 x3_1 l0 (l0.length : Int) x16_1 (t143 != 0) t143 t144) else (kissgatelaw13_TableEnds.j1 k1 x3_1 l0 (l0.length : Int) x16_1 false t143 t144))))) else (if t144 = 4 then (if x3_1 = true then (if (rd l0 x16_1) = 0 then (if t143 = 2 then (if (rd l0 x16_1) = 4 then (kissgatelaw13_TableEnds.j1 k1 x3_1 l0 (l0.length : Int) x16_1 (t143 != 0) t143 t144) else (kissgatelaw13_TableEnds.j1 k1 x3_1 l0 (l0.length : Int) x16_1 false t143 t144)) else (kissgatelaw13_TableEnds.j1 k1 x3_1 l0 (l0.length : Int) x16_1 true t143 t144)) else (if (rd l0 x16_1) = 4 then (kissgatelaw13_TableEnds.j1 k1 x3_1 l0 (l0.length : Int) x16_1 (t143 != 0) t143 t144) else (kissgatelaw13_TableEnds.j1 k1 x3_1 l0 (l0.length : Int) x16_1 false t143 t144))) else (kissgatelaw13_TableEnds.j1 k1 x3_1 l0 (l0.length : Int) x16_1 true t143 t144)) else (if (rd l0 x16_1) = 0 then (if t143 = 2 then (if (rd l0 x16_1) = 4 then (kissgatelaw13_TableEnds.j1 k1 x3_1 l0 (l0.length : Int) x16_1 (t143 != 0) t143 t144) else (kissgatelaw13_TableEnds.j1 k1 x3_1 l0 (l0.length : Int) x16_1 false t143 t144)) else (kissgatelaw13_TableEnds.j1 k1 x3_1 l0 (l0.length : Int) x16_1 true t143 t144)) else (if (rd l0 x16_1) = 4 then (kissgatelaw13_TableEnds.j1 k1 x3_1 l0 (l0.length : Int) x16_1 (t143 != 0) t143 t144) else (kissgatelaw13_TableEnds.j1 k1 x3_1 l0 (l0.length : Int) x16_1 false t143 t144))))) else (kissgatelaw13_TableEnds.l0 k1 x3_1 x4_1 l0 (l0.length : Int) (wrap64 (x16_1 + 1)))) = some r := H
                have A11 := Aside0.mk A110
                clear A110
                by_cases c12 : t145 = true
                · subst c12
                  have H1 : (if t144 = 3 then (if x3_1 = true then (kissgatelaw13_TableEnds.j1 k1 x3_1 l0 (l0.length : Int) x16_1 true t143 t144) else (if t144 = 4 then (kissgatelaw13_TableEnds.j1 k1 x3_1 l0 (l0.length : Int) x16_1 true t143 t144) else (if (rd l0 x16_1) = 0 then (if t143 = 2 then (if (rd l0 x16_1) = 4 then (kissgatelaw13_TableEnds.j1 k1 x3_1 l0 (l0.length : Int) x16_1 (t143 != 0) t143 t144) else (kissgatelaw13_TableEnds.j1 k1 x3_1 l0 (l0.length : Int) x16_1 false t143 t144)) else (kissgatelaw13_TableEnds.j1 k1 x3_1 l0 (l0.length : Int) x16_1 true t143 t144)) else (if (rd l0 x16_1) = 4 then (kissgatelaw13_TableEnds.j1 k1 x3_1 l0 (l0.length : Int) x16_1 (t143 != 0) t143 t144) else (kissgatelaw13_TableEnds.j1 k1 x3_1 l0 (l0.length : Int) x16_1 false t143 t144))))) else (if t144 = 4 then (if x3_1 = true then (if (rd l0 x16_1) = 0 then (if t143 = 2 then (if (rd l0 x16_1) = 4 then (kissgatelaw13_TableEnds.j1 k1 x3_1 l0 (l0.length : Int) x16_1 (t143 != 0) t143 t144) else (kissgatelaw13_TableEnds.j1 k1 x3_1 l0 (l0.length : Int) x16_1 false t143 t144)) else (kissgatelaw13_TableEnds.j1 k1 x3_1 l0 (l0.length : Int) x16_1 true t143 t144)) else (if (rd l0 x16_1) = 4 then (kissgatelaw13_TableEnds.j1 k1 x3_1 l0 (l0.length : Int) x16_1 (t143 != 0) t143 t144) else (kissgatelaw13_TableEnds.j1 k1 x3_1 l0 (l0.length : Int) x16_1 false t143 t144))) else (kissgatelaw13_TableEnds.j1 k1 x3_1 l0 (l0.length : Int) x16_1 true t143 t144)) else (if (rd l0 x16_1) = 0 then (if t143 = 2 then (if (rd l0 x16_1) = 4 then (kissgatelaw13_TableEnds.j1 k1 x3_1 l0 (l0.length : Int) x16_1 (t143 != 0) t143 t144) else (kissgatelaw13_TableEnds.j1 k1 x3_1 l0 (l0.length : Int) x16_1 false t143 t144)) else (kissgatelaw13_TableEnds.j1 k1 x3_1 l0 (l0.length : Int) x16_1 true t143 t144)) else (if (rd l0 x16_1) = 4 then (kissgatelaw13_TableEnds.j1 k1 x3_1 l0 (l0.length : Int) x16_1 (t143 != 0) t143 t144) else (kissgatelaw13_TableEnds.j1 k1 x3_1 l0 (l0.length : Int) x16_1 false t143 t144))))) = some r := by rw [if_pos rfl] at H; exact H
                  clear H
                  have H := H1
                  clear H1
                  have HC13 := Aside0.mk H
                  clear H
                  have p139 : 0 ≤ (x16_1 : Int) := of_decide_eq_true (by first | (with_reducible assumption) | assumption)
                  have q139 : x16_1 < (l0.length : Int) := of_decide_eq_true (by first | (with_reducible assumption) | assumption)
                  obtain ⟨ad139, e139, hx139_0⟩ := Kd.at_int HR0.out x16_1 p139 q139
                  cases e139
                  replace hx139_0 := (HB.out.cell (World.block_lt_of_cell? w _ hx139_0)).trans hx139_0
                  replace p139 := eq_true p139
                  replace q139 := eq_true q139
                  go_upto_region 12 with (first | ((with_reducible refine gate_callee (f := 18) rfl ?_); refine goesL_ (some 21) rfl rfl Try.func18 (by kernel_rfl) rfl #[] rfl (by (try simp only [List.map_toArray, List.map_cons, List.map_nil]); first | done | rfl | (simp only [List.length_drop, List.length_take]; rfl)) ?_; (with_reducible refine (table_Registrar.calls  t140 _ A10.out).mono ?_); rintro e w14 ⟨v141, rfl, ho0, hb⟩; refine ⟨_, rfl, ?_⟩; have n0_ := Aside0.mk (Kd.N_lower (Kd.N_mono (ok' := fun k_ => True) ho0 (fun k_ hk_ => trivial)) (below_size (by repeat (first | (with_reducible first | exact HB.out | apply below_alloc | apply pw_below_drewN | apply below_drew1) | exact HB.out)))); have n1_ := Aside0.mk (below_step (by repeat (first | (with_reducible first | exact HB.out | apply below_alloc | apply pw_below_drewN | apply below_drew1) | exact HB.out)) hb); clear HB; have HO142 := n0_; have HB := n1_; clear n0_ n1_; (try clear hb); (try clear hb2); (try clear hk); (try clear hi); (try clear ho0); obtain ⟨Ao15, co15, eo15⟩ := Kd.N_slice HO142.out; subst eo15) | ((with_reducible refine gate_callee (f := 17) rfl ?_); refine goesL_ (some 24) rfl rfl Try.func17 (by kernel_rfl) rfl #[.slice Ao15 t140.length co15, .int .i64 x4_1, .int .i64 (rd l0 x16_1)] rfl (by (try simp only [List.map_toArray, List.map_cons, List.map_nil]); first | done | rfl | (simp only [List.length_drop, List.length_take]; rfl)) ?_; (with_reducible refine (table_At.calls _ _ t140 x4_1 (rd l0 x16_1) t143 t144 true _ ?side1 ?side2 A11.out).mono ?_); (case side1 => repeat (first | exact (Kd.N_reads' HO142.out).2.2 | (with_reducible refine Kd.C_alloc ?_ _) | (with_reducible refine Kd.C_drewN ?_ _) | (with_reducible refine Kd.C_drew ?_))); (case side2 => exact (Kd.N_reads' HO142.out).2.1); rintro e w16 ⟨rfl, hb⟩; refine ⟨_, rfl, ?_⟩; have n0_ := Aside0.mk (Kd.N_below (by (with_reducible repeat (first | apply Kd.N_alloc | apply Kd.N_drewN | apply Kd.N_drew)); exact HO142.out) hb); have n1_ := Aside0.mk (below_step (by repeat (first | (with_reducible first | exact HB.out | apply below_alloc | apply pw_below_drewN | apply below_drew1) | exact HB.out)) hb); clear HO142; clear HB; have HO142 := n0_; have HB := n1_; clear n0_ n1_; (try clear hb); (try clear hb2); (try clear hk); (try clear hi)) | ((with_reducible refine gate_dst (N := 7) rfl ?_); refine box_event ?hg (N := 7) ?hd (cs := #[.int .i64 0, .int .i64 0]) (t := 30) ?hr ?_; (case hd => rfl); (case hg => rfl); (case hr => first | (go_simp; done) | (go_simp; rfl)); intro gb146 hg w17 hbox hb; have n0_ := Aside0.mk (Kd.N_below (Kd.N_elderB (by (with_reducible repeat (first | apply Kd.N_alloc | apply Kd.N_drewN | apply Kd.N_drew)); exact HO142.out) gb146 (Nat.le_of_eq hg.symm)) hb); have n1_ := Aside0.mk (below_step (by repeat (first | (with_reducible first | exact HB.out | apply below_alloc | apply pw_below_drewN | apply below_drew1) | exact HB.out)) hb); have n2_ := Aside0.mk (hbox); have n3_ := Aside0.mk ((by rw [hg]; exact (below_size (by repeat (first | (with_reducible first | exact HB.out | apply below_alloc | apply pw_below_drewN | apply below_drew1) | exact HB.out))) : w.heap.size ≤ gb146)); have n4_ := Aside0.mk ((by rw [hg]; exact (below_size (by repeat (first | (with_reducible first | exact HB.out | apply below_alloc | apply pw_below_drewN | apply below_drew1) | exact HB.out))) : w.heap.size ≤ gb146)); clear HO142; clear HB; have HO142 := n0_; have HB := n1_; have BK146 := n2_; have GW146 := n3_; have GE146 := n4_; clear n0_ n1_ n2_ n3_ n4_; clear hb hbox hg; have hcz18_0 : w17.cell? ⟨gb146, 0, none⟩ = some (.int .i64 0) := (blk_cell BK146.out 0).trans rfl; have hcz18_1 : w17.cell? ⟨gb146, 1, none⟩ = some (.int .i64 0) := (blk_cell BK146.out 1).trans rfl; have hfz18_0 := blk_frozen BK146.out 0; have hfz18_1 := blk_frozen BK146.out 1))
                  (try simp only [Act.put, List.setIfInBounds_toArray, List.set_cons_zero, List.set_cons_succ])
                  go_cut [61] (fun v61 wc => ∃ (kq : Nat) (x61_12 : Bool), v61 = .bool x61_12 ∧ Aside0 (kissgatelaw13_TableEnds.j1 kq x3_1 l0 (l0.length : Int) x16_1 x61_12 t143 t144 = some r) ∧ Aside0 (kq ≤ k1) ∧ Aside0 (wc.heap[gb146]? = some (.cells #[.int .i64 t143, .int .i64 t144] 30 (0, 0))) ∧ Aside0 (Below w.heap.size w wc))
                  case first =>
                    have H := HC13.out
                    clear HC13
                    by_cases c19 : t144 = 3
                    · rw [if_pos c19] at H
                      have c19b0 : (t144 == 3) = true := beq_iff_eq.mpr c19
                      have c19b1 : (t144 != 3) = false := bne_eq_false_iff_eq.mpr c19
                      clear c19
                      (first | rw [c19b0] | (simp only [i64_w, i32_w]; rw [c19b0]) | skip)
                      by_cases c20 : x3_1 = true
                      · subst c20
                        have H1 : (kissgatelaw13_TableEnds.j1 k1 true l0 (l0.length : Int) x16_1 true t143 t144) = some r := by rw [if_pos rfl] at H; exact H
                        clear H
                        have H := H1
                        clear H1
                        have H' := Aside0.mk H
                        clear H
                        have hcz21_0 : w17.cell? ⟨gb146, 0, none⟩ = some (.int .i64 0) := (blk_cell BK146.out 0).trans rfl
                        have hcz21_1 : w17.cell? ⟨gb146, 1, none⟩ = some (.int .i64 0) := (blk_cell BK146.out 1).trans rfl
                        have hfz21_0 := blk_frozen BK146.out 0
                        have hfz21_1 := blk_frozen BK146.out 1
                        go_wp2
                        go_meet
                        case rel => exact ⟨_, (true), (by first | rfl | (simp; done) | (simp [*]; done)), H', ⟨by have := HK1.out; first | omega | exact Nat.le_refl _⟩, ⟨by (with_reducible repeat (first | refine blk_drewN ?_ _ | refine blk_drew ?_ | refine blk_alloc ?_ _)); refine blk_put (cs := #[.int .i64 t143, .int .i64 0]) ?_ 1 _ rfl; (with_reducible repeat (first | refine blk_drewN ?_ _ | refine blk_drew ?_ | refine blk_alloc ?_ _)); refine blk_put (cs := #[.int .i64 0, .int .i64 0]) ?_ 0 _ rfl; (with_reducible repeat (first | refine blk_drewN ?_ _ | refine blk_drew ?_ | refine blk_alloc ?_ _)); exact BK146.out⟩, ⟨by repeat (first | (with_reducible first | exact HB.out | apply below_alloc | apply pw_below_drewN | apply below_drew1 | refine below_set ?_ GE146.out) | exact HB.out)⟩⟩
                      · replace c20 := Bool.eq_false_iff.mpr c20
                        subst c20
                        have H1 : (if t144 = 4 then (kissgatelaw13_TableEnds.j1 k1 false l0 (l0.length : Int) x16_1 true t143 t144) else (if (rd l0 x16_1) = 0 then (if t143 = 2 then (if (rd l0 x16_1) = 4 then (kissgatelaw13_TableEnds.j1 k1 false l0 (l0.length : Int) x16_1 (t143 != 0) t143 t144) else (kissgatelaw13_TableEnds.j1 k1 false l0 (l0.length : Int) x16_1 false t143 t144)) else (kissgatelaw13_TableEnds.j1 k1 false l0 (l0.length : Int) x16_1 true t143 t144)) else (if (rd l0 x16_1) = 4 then (kissgatelaw13_TableEnds.j1 k1 false l0 (l0.length : Int) x16_1 (t143 != 0) t143 t144) else (kissgatelaw13_TableEnds.j1 k1 false l0 (l0.length : Int) x16_1 false t143 t144)))) = some r := by rw [if_neg (show ¬ (false = true) by decide)] at H; exact H
                        clear H
                        have H := H1
                        clear H1
                        by_cases c22 : t144 = 4
                        · rw [if_pos c22] at H
                          have c22b0 : (t144 == 4) = true := beq_iff_eq.mpr c22
                          have c22b1 : (t144 != 4) = false := bne_eq_false_iff_eq.mpr c22
                          clear c22
                          have H' := Aside0.mk H
                          clear H
                          have hcz23_0 : w17.cell? ⟨gb146, 0, none⟩ = some (.int .i64 0) := (blk_cell BK146.out 0).trans rfl
                          have hcz23_1 : w17.cell? ⟨gb146, 1, none⟩ = some (.int .i64 0) := (blk_cell BK146.out 1).trans rfl
                          have hfz23_0 := blk_frozen BK146.out 0
                          have hfz23_1 := blk_frozen BK146.out 1
                          go_wp2
                          go_meet
                          case rel => exact ⟨_, (true), (by first | rfl | (simp; done) | (simp [*]; done)), H', ⟨by have := HK1.out; first | omega | exact Nat.le_refl _⟩, ⟨by (with_reducible repeat (first | refine blk_drewN ?_ _ | refine blk_drew ?_ | refine blk_alloc ?_ _)); refine blk_put (cs := #[.int .i64 t143, .int .i64 0]) ?_ 1 _ rfl; (with_reducible repeat (first | refine blk_drewN ?_ _ | refine blk_drew ?_ | refine blk_alloc ?_ _)); refine blk_put (cs := #[.int .i64 0, .int .i64 0]) ?_ 0 _ rfl; (with_reducible repeat (first | refine blk_drewN ?_ _ | refine blk_drew ?_ | refine blk_alloc ?_ _)); exact BK146.out⟩, ⟨by repeat (first | (with_reducible first | exact HB.out | apply below_alloc | apply pw_below_drewN | apply below_drew1 | refine below_set ?_ GE146.out) | exact HB.out)⟩⟩
                        · rw [if_neg c22] at H
                          have c22b0 : (t144 == 4) = false := beq_eq_false_iff_ne.mpr c22
                          have c22b1 : (t144 != 4) = true := bne_iff_ne.mpr c22
                          by_cases c24 : (rd l0 x16_1) = 0
                          · rw [if_pos c24] at H
                            have c24b0 : ((rd l0 x16_1) == 0) = true := beq_iff_eq.mpr c24
                            have c24b1 : ((rd l0 x16_1) != 0) = false := bne_eq_false_iff_eq.mpr c24
                            clear c24
                            by_cases c25 : t143 = 2
                            · rw [if_pos c25] at H
                              have c25b0 : (t143 == 2) = true := beq_iff_eq.mpr c25
                              have c25b1 : (t143 != 2) = false := bne_eq_false_iff_eq.mpr c25
                              clear c25
                              by_cases c26 : (rd l0 x16_1) = 4
                              · rw [if_pos c26] at H
                                have c26b0 : ((rd l0 x16_1) == 4) = true := beq_iff_eq.mpr c26
                                have c26b1 : ((rd l0 x16_1) != 4) = false := bne_eq_false_iff_eq.mpr c26
                                clear c26
                                have H' := Aside0.mk H
                                clear H
                                have hcz27_0 : w17.cell? ⟨gb146, 0, none⟩ = some (.int .i64 0) := (blk_cell BK146.out 0).trans rfl
                                have hcz27_1 : w17.cell? ⟨gb146, 1, none⟩ = some (.int .i64 0) := (blk_cell BK146.out 1).trans rfl
                                have hfz27_0 := blk_frozen BK146.out 0
                                have hfz27_1 := blk_frozen BK146.out 1
                                go_wp2
                                go_meet
                                case rel => exact ⟨_, ((t143 != 0)), (by first | rfl | (simp; done) | (simp [*]; done)), H', ⟨by have := HK1.out; first | omega | exact Nat.le_refl _⟩, ⟨by (with_reducible repeat (first | refine blk_drewN ?_ _ | refine blk_drew ?_ | refine blk_alloc ?_ _)); refine blk_put (cs := #[.int .i64 t143, .int .i64 0]) ?_ 1 _ rfl; (with_reducible repeat (first | refine blk_drewN ?_ _ | refine blk_drew ?_ | refine blk_alloc ?_ _)); refine blk_put (cs := #[.int .i64 0, .int .i64 0]) ?_ 0 _ rfl; (with_reducible repeat (first | refine blk_drewN ?_ _ | refine blk_drew ?_ | refine blk_alloc ?_ _)); exact BK146.out⟩, ⟨by repeat (first | (with_reducible first | exact HB.out | apply below_alloc | apply pw_below_drewN | apply below_drew1 | refine below_set ?_ GE146.out) | exact HB.out)⟩⟩
                              · rw [if_neg c26] at H
                                have c26b0 : ((rd l0 x16_1) == 4) = false := beq_eq_false_iff_ne.mpr c26
                                have c26b1 : ((rd l0 x16_1) != 4) = true := bne_iff_ne.mpr c26
                                have H' := Aside0.mk H
                                clear H
                                have hcz28_0 : w17.cell? ⟨gb146, 0, none⟩ = some (.int .i64 0) := (blk_cell BK146.out 0).trans rfl
                                have hcz28_1 : w17.cell? ⟨gb146, 1, none⟩ = some (.int .i64 0) := (blk_cell BK146.out 1).trans rfl
                                have hfz28_0 := blk_frozen BK146.out 0
                                have hfz28_1 := blk_frozen BK146.out 1
                                go_wp2
                                go_meet
                                case rel => exact ⟨_, (false), (by first | rfl | (simp; done) | (simp [*]; done)), H', ⟨by have := HK1.out; first | omega | exact Nat.le_refl _⟩, ⟨by (with_reducible repeat (first | refine blk_drewN ?_ _ | refine blk_drew ?_ | refine blk_alloc ?_ _)); refine blk_put (cs := #[.int .i64 t143, .int .i64 0]) ?_ 1 _ rfl; (with_reducible repeat (first | refine blk_drewN ?_ _ | refine blk_drew ?_ | refine blk_alloc ?_ _)); refine blk_put (cs := #[.int .i64 0, .int .i64 0]) ?_ 0 _ rfl; (with_reducible repeat (first | refine blk_drewN ?_ _ | refine blk_drew ?_ | refine blk_alloc ?_ _)); exact BK146.out⟩, ⟨by repeat (first | (with_reducible first | exact HB.out | apply below_alloc | apply pw_below_drewN | apply below_drew1 | refine below_set ?_ GE146.out) | exact HB.out)⟩⟩
                            · rw [if_neg c25] at H
                              have c25b0 : (t143 == 2) = false := beq_eq_false_iff_ne.mpr c25
                              have c25b1 : (t143 != 2) = true := bne_iff_ne.mpr c25
                              have H' := Aside0.mk H
                              clear H
                              have hcz29_0 : w17.cell? ⟨gb146, 0, none⟩ = some (.int .i64 0) := (blk_cell BK146.out 0).trans rfl
                              have hcz29_1 : w17.cell? ⟨gb146, 1, none⟩ = some (.int .i64 0) := (blk_cell BK146.out 1).trans rfl
                              have hfz29_0 := blk_frozen BK146.out 0
                              have hfz29_1 := blk_frozen BK146.out 1
                              go_wp2
                              go_meet
                              case rel => exact ⟨_, (true), (by first | rfl | (simp; done) | (simp [*]; done)), H', ⟨by have := HK1.out; first | omega | exact Nat.le_refl _⟩, ⟨by (with_reducible repeat (first | refine blk_drewN ?_ _ | refine blk_drew ?_ | refine blk_alloc ?_ _)); refine blk_put (cs := #[.int .i64 t143, .int .i64 0]) ?_ 1 _ rfl; (with_reducible repeat (first | refine blk_drewN ?_ _ | refine blk_drew ?_ | refine blk_alloc ?_ _)); refine blk_put (cs := #[.int .i64 0, .int .i64 0]) ?_ 0 _ rfl; (with_reducible repeat (first | refine blk_drewN ?_ _ | refine blk_drew ?_ | refine blk_alloc ?_ _)); exact BK146.out⟩, ⟨by repeat (first | (with_reducible first | exact HB.out | apply below_alloc | apply pw_below_drewN | apply below_drew1 | refine below_set ?_ GE146.out) | exact HB.out)⟩⟩
                          · rw [if_neg c24] at H
                            have c24b0 : ((rd l0 x16_1) == 0) = false := beq_eq_false_iff_ne.mpr c24
                            have c24b1 : ((rd l0 x16_1) != 0) = true := bne_iff_ne.mpr c24
                            by_cases c30 : (rd l0 x16_1) = 4
                            · rw [if_pos c30] at H
                              have c30b0 : ((rd l0 x16_1) == 4) = true := beq_iff_eq.mpr c30
                              have c30b1 : ((rd l0 x16_1) != 4) = false := bne_eq_false_iff_eq.mpr c30
                              clear c30
                              have H' := Aside0.mk H
                              clear H
                              have hcz31_0 : w17.cell? ⟨gb146, 0, none⟩ = some (.int .i64 0) := (blk_cell BK146.out 0).trans rfl
                              have hcz31_1 : w17.cell? ⟨gb146, 1, none⟩ = some (.int .i64 0) := (blk_cell BK146.out 1).trans rfl
                              have hfz31_0 := blk_frozen BK146.out 0
                              have hfz31_1 := blk_frozen BK146.out 1
                              go_wp2
                              go_meet
                              case rel => exact ⟨_, ((t143 != 0)), (by first | rfl | (simp; done) | (simp [*]; done)), H', ⟨by have := HK1.out; first | omega | exact Nat.le_refl _⟩, ⟨by (with_reducible repeat (first | refine blk_drewN ?_ _ | refine blk_drew ?_ | refine blk_alloc ?_ _)); refine blk_put (cs := #[.int .i64 t143, .int .i64 0]) ?_ 1 _ rfl; (with_reducible repeat (first | refine blk_drewN ?_ _ | refine blk_drew ?_ | refine blk_alloc ?_ _)); refine blk_put (cs := #[.int .i64 0, .int .i64 0]) ?_ 0 _ rfl; (with_reducible repeat (first | refine blk_drewN ?_ _ | refine blk_drew ?_ | refine blk_alloc ?_ _)); exact BK146.out⟩, ⟨by repeat (first | (with_reducible first | exact HB.out | apply below_alloc | apply pw_below_drewN | apply below_drew1 | refine below_set ?_ GE146.out) | exact HB.out)⟩⟩
                            · rw [if_neg c30] at H
                              have c30b0 : ((rd l0 x16_1) == 4) = false := beq_eq_false_iff_ne.mpr c30
                              have c30b1 : ((rd l0 x16_1) != 4) = true := bne_iff_ne.mpr c30
                              have H' := Aside0.mk H
                              clear H
                              have hcz32_0 : w17.cell? ⟨gb146, 0, none⟩ = some (.int .i64 0) := (blk_cell BK146.out 0).trans rfl
                              have hcz32_1 : w17.cell? ⟨gb146, 1, none⟩ = some (.int .i64 0) := (blk_cell BK146.out 1).trans rfl
                              have hfz32_0 := blk_frozen BK146.out 0
                              have hfz32_1 := blk_frozen BK146.out 1
                              go_wp2
                              go_meet
                              case rel => exact ⟨_, (false), (by first | rfl | (simp; done) | (simp [*]; done)), H', ⟨by have := HK1.out; first | omega | exact Nat.le_refl _⟩, ⟨by (with_reducible repeat (first | refine blk_drewN ?_ _ | refine blk_drew ?_ | refine blk_alloc ?_ _)); refine blk_put (cs := #[.int .i64 t143, .int .i64 0]) ?_ 1 _ rfl; (with_reducible repeat (first | refine blk_drewN ?_ _ | refine blk_drew ?_ | refine blk_alloc ?_ _)); refine blk_put (cs := #[.int .i64 0, .int .i64 0]) ?_ 0 _ rfl; (with_reducible repeat (first | refine blk_drewN ?_ _ | refine blk_drew ?_ | refine blk_alloc ?_ _)); exact BK146.out⟩, ⟨by repeat (first | (with_reducible first | exact HB.out | apply below_alloc | apply pw_below_drewN | apply below_drew1 | refine below_set ?_ GE146.out) | exact HB.out)⟩⟩
                    · rw [if_neg c19] at H
                      have c19b0 : (t144 == 3) = false := beq_eq_false_iff_ne.mpr c19
                      have c19b1 : (t144 != 3) = true := bne_iff_ne.mpr c19
                      (first | rw [c19b0] | (simp only [i64_w, i32_w]; rw [c19b0]) | skip)
                      by_cases c33 : t144 = 4
                      · rw [if_pos c33] at H
                        have c33b0 : (t144 == 4) = true := beq_iff_eq.mpr c33
                        have c33b1 : (t144 != 4) = false := bne_eq_false_iff_eq.mpr c33
                        clear c33
                        by_cases c34 : x3_1 = true
                        · subst c34
                          have H1 : (if (rd l0 x16_1) = 0 then (if t143 = 2 then (if (rd l0 x16_1) = 4 then (kissgatelaw13_TableEnds.j1 k1 true l0 (l0.length : Int) x16_1 (t143 != 0) t143 t144) else (kissgatelaw13_TableEnds.j1 k1 true l0 (l0.length : Int) x16_1 false t143 t144)) else (kissgatelaw13_TableEnds.j1 k1 true l0 (l0.length : Int) x16_1 true t143 t144)) else (if (rd l0 x16_1) = 4 then (kissgatelaw13_TableEnds.j1 k1 true l0 (l0.length : Int) x16_1 (t143 != 0) t143 t144) else (kissgatelaw13_TableEnds.j1 k1 true l0 (l0.length : Int) x16_1 false t143 t144))) = some r := by rw [if_pos rfl] at H; exact H
                          clear H
                          have H := H1
                          clear H1
                          by_cases c35 : (rd l0 x16_1) = 0
                          · rw [if_pos c35] at H
                            have c35b0 : ((rd l0 x16_1) == 0) = true := beq_iff_eq.mpr c35
                            have c35b1 : ((rd l0 x16_1) != 0) = false := bne_eq_false_iff_eq.mpr c35
                            clear c35
                            by_cases c36 : t143 = 2
                            · rw [if_pos c36] at H
                              have c36b0 : (t143 == 2) = true := beq_iff_eq.mpr c36
                              have c36b1 : (t143 != 2) = false := bne_eq_false_iff_eq.mpr c36
                              clear c36
                              by_cases c37 : (rd l0 x16_1) = 4
                              · rw [if_pos c37] at H
                                have c37b0 : ((rd l0 x16_1) == 4) = true := beq_iff_eq.mpr c37
                                have c37b1 : ((rd l0 x16_1) != 4) = false := bne_eq_false_iff_eq.mpr c37
                                clear c37
                                have H' := Aside0.mk H
                                clear H
                                have hcz38_0 : w17.cell? ⟨gb146, 0, none⟩ = some (.int .i64 0) := (blk_cell BK146.out 0).trans rfl
                                have hcz38_1 : w17.cell? ⟨gb146, 1, none⟩ = some (.int .i64 0) := (blk_cell BK146.out 1).trans rfl
                                have hfz38_0 := blk_frozen BK146.out 0
                                have hfz38_1 := blk_frozen BK146.out 1
                                go_wp2
                                go_meet
                                case rel => exact ⟨_, ((t143 != 0)), (by first | rfl | (simp; done) | (simp [*]; done)), H', ⟨by have := HK1.out; first | omega | exact Nat.le_refl _⟩, ⟨by (with_reducible repeat (first | refine blk_drewN ?_ _ | refine blk_drew ?_ | refine blk_alloc ?_ _)); refine blk_put (cs := #[.int .i64 t143, .int .i64 0]) ?_ 1 _ rfl; (with_reducible repeat (first | refine blk_drewN ?_ _ | refine blk_drew ?_ | refine blk_alloc ?_ _)); refine blk_put (cs := #[.int .i64 0, .int .i64 0]) ?_ 0 _ rfl; (with_reducible repeat (first | refine blk_drewN ?_ _ | refine blk_drew ?_ | refine blk_alloc ?_ _)); exact BK146.out⟩, ⟨by repeat (first | (with_reducible first | exact HB.out | apply below_alloc | apply pw_below_drewN | apply below_drew1 | refine below_set ?_ GE146.out) | exact HB.out)⟩⟩
                              · rw [if_neg c37] at H
                                have c37b0 : ((rd l0 x16_1) == 4) = false := beq_eq_false_iff_ne.mpr c37
                                have c37b1 : ((rd l0 x16_1) != 4) = true := bne_iff_ne.mpr c37
                                have H' := Aside0.mk H
                                clear H
                                have hcz39_0 : w17.cell? ⟨gb146, 0, none⟩ = some (.int .i64 0) := (blk_cell BK146.out 0).trans rfl
                                have hcz39_1 : w17.cell? ⟨gb146, 1, none⟩ = some (.int .i64 0) := (blk_cell BK146.out 1).trans rfl
                                have hfz39_0 := blk_frozen BK146.out 0
                                have hfz39_1 := blk_frozen BK146.out 1
                                go_wp2
                                go_meet
                                case rel => exact ⟨_, (false), (by first | rfl | (simp; done) | (simp [*]; done)), H', ⟨by have := HK1.out; first | omega | exact Nat.le_refl _⟩, ⟨by (with_reducible repeat (first | refine blk_drewN ?_ _ | refine blk_drew ?_ | refine blk_alloc ?_ _)); refine blk_put (cs := #[.int .i64 t143, .int .i64 0]) ?_ 1 _ rfl; (with_reducible repeat (first | refine blk_drewN ?_ _ | refine blk_drew ?_ | refine blk_alloc ?_ _)); refine blk_put (cs := #[.int .i64 0, .int .i64 0]) ?_ 0 _ rfl; (with_reducible repeat (first | refine blk_drewN ?_ _ | refine blk_drew ?_ | refine blk_alloc ?_ _)); exact BK146.out⟩, ⟨by repeat (first | (with_reducible first | exact HB.out | apply below_alloc | apply pw_below_drewN | apply below_drew1 | refine below_set ?_ GE146.out) | exact HB.out)⟩⟩
                            · rw [if_neg c36] at H
                              have c36b0 : (t143 == 2) = false := beq_eq_false_iff_ne.mpr c36
                              have c36b1 : (t143 != 2) = true := bne_iff_ne.mpr c36
                              have H' := Aside0.mk H
                              clear H
                              have hcz40_0 : w17.cell? ⟨gb146, 0, none⟩ = some (.int .i64 0) := (blk_cell BK146.out 0).trans rfl
                              have hcz40_1 : w17.cell? ⟨gb146, 1, none⟩ = some (.int .i64 0) := (blk_cell BK146.out 1).trans rfl
                              have hfz40_0 := blk_frozen BK146.out 0
                              have hfz40_1 := blk_frozen BK146.out 1
                              go_wp2
                              go_meet
                              case rel => exact ⟨_, (true), (by first | rfl | (simp; done) | (simp [*]; done)), H', ⟨by have := HK1.out; first | omega | exact Nat.le_refl _⟩, ⟨by (with_reducible repeat (first | refine blk_drewN ?_ _ | refine blk_drew ?_ | refine blk_alloc ?_ _)); refine blk_put (cs := #[.int .i64 t143, .int .i64 0]) ?_ 1 _ rfl; (with_reducible repeat (first | refine blk_drewN ?_ _ | refine blk_drew ?_ | refine blk_alloc ?_ _)); refine blk_put (cs := #[.int .i64 0, .int .i64 0]) ?_ 0 _ rfl; (with_reducible repeat (first | refine blk_drewN ?_ _ | refine blk_drew ?_ | refine blk_alloc ?_ _)); exact BK146.out⟩, ⟨by repeat (first | (with_reducible first | exact HB.out | apply below_alloc | apply pw_below_drewN | apply below_drew1 | refine below_set ?_ GE146.out) | exact HB.out)⟩⟩
                          · rw [if_neg c35] at H
                            have c35b0 : ((rd l0 x16_1) == 0) = false := beq_eq_false_iff_ne.mpr c35
                            have c35b1 : ((rd l0 x16_1) != 0) = true := bne_iff_ne.mpr c35
                            by_cases c41 : (rd l0 x16_1) = 4
                            · rw [if_pos c41] at H
                              have c41b0 : ((rd l0 x16_1) == 4) = true := beq_iff_eq.mpr c41
                              have c41b1 : ((rd l0 x16_1) != 4) = false := bne_eq_false_iff_eq.mpr c41
                              clear c41
                              have H' := Aside0.mk H
                              clear H
                              have hcz42_0 : w17.cell? ⟨gb146, 0, none⟩ = some (.int .i64 0) := (blk_cell BK146.out 0).trans rfl
                              have hcz42_1 : w17.cell? ⟨gb146, 1, none⟩ = some (.int .i64 0) := (blk_cell BK146.out 1).trans rfl
                              have hfz42_0 := blk_frozen BK146.out 0
                              have hfz42_1 := blk_frozen BK146.out 1
                              go_wp2
                              go_meet
                              case rel => exact ⟨_, ((t143 != 0)), (by first | rfl | (simp; done) | (simp [*]; done)), H', ⟨by have := HK1.out; first | omega | exact Nat.le_refl _⟩, ⟨by (with_reducible repeat (first | refine blk_drewN ?_ _ | refine blk_drew ?_ | refine blk_alloc ?_ _)); refine blk_put (cs := #[.int .i64 t143, .int .i64 0]) ?_ 1 _ rfl; (with_reducible repeat (first | refine blk_drewN ?_ _ | refine blk_drew ?_ | refine blk_alloc ?_ _)); refine blk_put (cs := #[.int .i64 0, .int .i64 0]) ?_ 0 _ rfl; (with_reducible repeat (first | refine blk_drewN ?_ _ | refine blk_drew ?_ | refine blk_alloc ?_ _)); exact BK146.out⟩, ⟨by repeat (first | (with_reducible first | exact HB.out | apply below_alloc | apply pw_below_drewN | apply below_drew1 | refine below_set ?_ GE146.out) | exact HB.out)⟩⟩
                            · rw [if_neg c41] at H
                              have c41b0 : ((rd l0 x16_1) == 4) = false := beq_eq_false_iff_ne.mpr c41
                              have c41b1 : ((rd l0 x16_1) != 4) = true := bne_iff_ne.mpr c41
                              have H' := Aside0.mk H
                              clear H
                              have hcz43_0 : w17.cell? ⟨gb146, 0, none⟩ = some (.int .i64 0) := (blk_cell BK146.out 0).trans rfl
                              have hcz43_1 : w17.cell? ⟨gb146, 1, none⟩ = some (.int .i64 0) := (blk_cell BK146.out 1).trans rfl
                              have hfz43_0 := blk_frozen BK146.out 0
                              have hfz43_1 := blk_frozen BK146.out 1
                              go_wp2
                              go_meet
                              case rel => exact ⟨_, (false), (by first | rfl | (simp; done) | (simp [*]; done)), H', ⟨by have := HK1.out; first | omega | exact Nat.le_refl _⟩, ⟨by (with_reducible repeat (first | refine blk_drewN ?_ _ | refine blk_drew ?_ | refine blk_alloc ?_ _)); refine blk_put (cs := #[.int .i64 t143, .int .i64 0]) ?_ 1 _ rfl; (with_reducible repeat (first | refine blk_drewN ?_ _ | refine blk_drew ?_ | refine blk_alloc ?_ _)); refine blk_put (cs := #[.int .i64 0, .int .i64 0]) ?_ 0 _ rfl; (with_reducible repeat (first | refine blk_drewN ?_ _ | refine blk_drew ?_ | refine blk_alloc ?_ _)); exact BK146.out⟩, ⟨by repeat (first | (with_reducible first | exact HB.out | apply below_alloc | apply pw_below_drewN | apply below_drew1 | refine below_set ?_ GE146.out) | exact HB.out)⟩⟩
                        · replace c34 := Bool.eq_false_iff.mpr c34
                          subst c34
                          have H1 : (kissgatelaw13_TableEnds.j1 k1 false l0 (l0.length : Int) x16_1 true t143 t144) = some r := by rw [if_neg (show ¬ (false = true) by decide)] at H; exact H
                          clear H
                          have H := H1
                          clear H1
                          have H' := Aside0.mk H
                          clear H
                          have hcz44_0 : w17.cell? ⟨gb146, 0, none⟩ = some (.int .i64 0) := (blk_cell BK146.out 0).trans rfl
                          have hcz44_1 : w17.cell? ⟨gb146, 1, none⟩ = some (.int .i64 0) := (blk_cell BK146.out 1).trans rfl
                          have hfz44_0 := blk_frozen BK146.out 0
                          have hfz44_1 := blk_frozen BK146.out 1
                          go_wp2
                          go_meet
                          case rel => exact ⟨_, (true), (by first | rfl | (simp; done) | (simp [*]; done)), H', ⟨by have := HK1.out; first | omega | exact Nat.le_refl _⟩, ⟨by (with_reducible repeat (first | refine blk_drewN ?_ _ | refine blk_drew ?_ | refine blk_alloc ?_ _)); refine blk_put (cs := #[.int .i64 t143, .int .i64 0]) ?_ 1 _ rfl; (with_reducible repeat (first | refine blk_drewN ?_ _ | refine blk_drew ?_ | refine blk_alloc ?_ _)); refine blk_put (cs := #[.int .i64 0, .int .i64 0]) ?_ 0 _ rfl; (with_reducible repeat (first | refine blk_drewN ?_ _ | refine blk_drew ?_ | refine blk_alloc ?_ _)); exact BK146.out⟩, ⟨by repeat (first | (with_reducible first | exact HB.out | apply below_alloc | apply pw_below_drewN | apply below_drew1 | refine below_set ?_ GE146.out) | exact HB.out)⟩⟩
                      · rw [if_neg c33] at H
                        have c33b0 : (t144 == 4) = false := beq_eq_false_iff_ne.mpr c33
                        have c33b1 : (t144 != 4) = true := bne_iff_ne.mpr c33
                        by_cases c45 : (rd l0 x16_1) = 0
                        · rw [if_pos c45] at H
                          have c45b0 : ((rd l0 x16_1) == 0) = true := beq_iff_eq.mpr c45
                          have c45b1 : ((rd l0 x16_1) != 0) = false := bne_eq_false_iff_eq.mpr c45
                          clear c45
                          by_cases c46 : t143 = 2
                          · rw [if_pos c46] at H
                            have c46b0 : (t143 == 2) = true := beq_iff_eq.mpr c46
                            have c46b1 : (t143 != 2) = false := bne_eq_false_iff_eq.mpr c46
                            clear c46
                            by_cases c47 : (rd l0 x16_1) = 4
                            · rw [if_pos c47] at H
                              have c47b0 : ((rd l0 x16_1) == 4) = true := beq_iff_eq.mpr c47
                              have c47b1 : ((rd l0 x16_1) != 4) = false := bne_eq_false_iff_eq.mpr c47
                              clear c47
                              have H' := Aside0.mk H
                              clear H
                              have hcz48_0 : w17.cell? ⟨gb146, 0, none⟩ = some (.int .i64 0) := (blk_cell BK146.out 0).trans rfl
                              have hcz48_1 : w17.cell? ⟨gb146, 1, none⟩ = some (.int .i64 0) := (blk_cell BK146.out 1).trans rfl
                              have hfz48_0 := blk_frozen BK146.out 0
                              have hfz48_1 := blk_frozen BK146.out 1
                              go_wp2
                              go_meet
                              case rel => exact ⟨_, ((t143 != 0)), (by first | rfl | (simp; done) | (simp [*]; done)), H', ⟨by have := HK1.out; first | omega | exact Nat.le_refl _⟩, ⟨by (with_reducible repeat (first | refine blk_drewN ?_ _ | refine blk_drew ?_ | refine blk_alloc ?_ _)); refine blk_put (cs := #[.int .i64 t143, .int .i64 0]) ?_ 1 _ rfl; (with_reducible repeat (first | refine blk_drewN ?_ _ | refine blk_drew ?_ | refine blk_alloc ?_ _)); refine blk_put (cs := #[.int .i64 0, .int .i64 0]) ?_ 0 _ rfl; (with_reducible repeat (first | refine blk_drewN ?_ _ | refine blk_drew ?_ | refine blk_alloc ?_ _)); exact BK146.out⟩, ⟨by repeat (first | (with_reducible first | exact HB.out | apply below_alloc | apply pw_below_drewN | apply below_drew1 | refine below_set ?_ GE146.out) | exact HB.out)⟩⟩
                            · rw [if_neg c47] at H
                              have c47b0 : ((rd l0 x16_1) == 4) = false := beq_eq_false_iff_ne.mpr c47
                              have c47b1 : ((rd l0 x16_1) != 4) = true := bne_iff_ne.mpr c47
                              have H' := Aside0.mk H
                              clear H
                              have hcz49_0 : w17.cell? ⟨gb146, 0, none⟩ = some (.int .i64 0) := (blk_cell BK146.out 0).trans rfl
                              have hcz49_1 : w17.cell? ⟨gb146, 1, none⟩ = some (.int .i64 0) := (blk_cell BK146.out 1).trans rfl
                              have hfz49_0 := blk_frozen BK146.out 0
                              have hfz49_1 := blk_frozen BK146.out 1
                              go_wp2
                              go_meet
                              case rel => exact ⟨_, (false), (by first | rfl | (simp; done) | (simp [*]; done)), H', ⟨by have := HK1.out; first | omega | exact Nat.le_refl _⟩, ⟨by (with_reducible repeat (first | refine blk_drewN ?_ _ | refine blk_drew ?_ | refine blk_alloc ?_ _)); refine blk_put (cs := #[.int .i64 t143, .int .i64 0]) ?_ 1 _ rfl; (with_reducible repeat (first | refine blk_drewN ?_ _ | refine blk_drew ?_ | refine blk_alloc ?_ _)); refine blk_put (cs := #[.int .i64 0, .int .i64 0]) ?_ 0 _ rfl; (with_reducible repeat (first | refine blk_drewN ?_ _ | refine blk_drew ?_ | refine blk_alloc ?_ _)); exact BK146.out⟩, ⟨by repeat (first | (with_reducible first | exact HB.out | apply below_alloc | apply pw_below_drewN | apply below_drew1 | refine below_set ?_ GE146.out) | exact HB.out)⟩⟩
                          · rw [if_neg c46] at H
                            have c46b0 : (t143 == 2) = false := beq_eq_false_iff_ne.mpr c46
                            have c46b1 : (t143 != 2) = true := bne_iff_ne.mpr c46
                            have H' := Aside0.mk H
                            clear H
                            have hcz50_0 : w17.cell? ⟨gb146, 0, none⟩ = some (.int .i64 0) := (blk_cell BK146.out 0).trans rfl
                            have hcz50_1 : w17.cell? ⟨gb146, 1, none⟩ = some (.int .i64 0) := (blk_cell BK146.out 1).trans rfl
                            have hfz50_0 := blk_frozen BK146.out 0
                            have hfz50_1 := blk_frozen BK146.out 1
                            go_wp2
                            go_meet
                            case rel => exact ⟨_, (true), (by first | rfl | (simp; done) | (simp [*]; done)), H', ⟨by have := HK1.out; first | omega | exact Nat.le_refl _⟩, ⟨by (with_reducible repeat (first | refine blk_drewN ?_ _ | refine blk_drew ?_ | refine blk_alloc ?_ _)); refine blk_put (cs := #[.int .i64 t143, .int .i64 0]) ?_ 1 _ rfl; (with_reducible repeat (first | refine blk_drewN ?_ _ | refine blk_drew ?_ | refine blk_alloc ?_ _)); refine blk_put (cs := #[.int .i64 0, .int .i64 0]) ?_ 0 _ rfl; (with_reducible repeat (first | refine blk_drewN ?_ _ | refine blk_drew ?_ | refine blk_alloc ?_ _)); exact BK146.out⟩, ⟨by repeat (first | (with_reducible first | exact HB.out | apply below_alloc | apply pw_below_drewN | apply below_drew1 | refine below_set ?_ GE146.out) | exact HB.out)⟩⟩
                        · rw [if_neg c45] at H
                          have c45b0 : ((rd l0 x16_1) == 0) = false := beq_eq_false_iff_ne.mpr c45
                          have c45b1 : ((rd l0 x16_1) != 0) = true := bne_iff_ne.mpr c45
                          by_cases c51 : (rd l0 x16_1) = 4
                          · rw [if_pos c51] at H
                            have c51b0 : ((rd l0 x16_1) == 4) = true := beq_iff_eq.mpr c51
                            have c51b1 : ((rd l0 x16_1) != 4) = false := bne_eq_false_iff_eq.mpr c51
                            clear c51
                            have H' := Aside0.mk H
                            clear H
                            have hcz52_0 : w17.cell? ⟨gb146, 0, none⟩ = some (.int .i64 0) := (blk_cell BK146.out 0).trans rfl
                            have hcz52_1 : w17.cell? ⟨gb146, 1, none⟩ = some (.int .i64 0) := (blk_cell BK146.out 1).trans rfl
                            have hfz52_0 := blk_frozen BK146.out 0
                            have hfz52_1 := blk_frozen BK146.out 1
                            go_wp2
                            go_meet
                            case rel => exact ⟨_, ((t143 != 0)), (by first | rfl | (simp; done) | (simp [*]; done)), H', ⟨by have := HK1.out; first | omega | exact Nat.le_refl _⟩, ⟨by (with_reducible repeat (first | refine blk_drewN ?_ _ | refine blk_drew ?_ | refine blk_alloc ?_ _)); refine blk_put (cs := #[.int .i64 t143, .int .i64 0]) ?_ 1 _ rfl; (with_reducible repeat (first | refine blk_drewN ?_ _ | refine blk_drew ?_ | refine blk_alloc ?_ _)); refine blk_put (cs := #[.int .i64 0, .int .i64 0]) ?_ 0 _ rfl; (with_reducible repeat (first | refine blk_drewN ?_ _ | refine blk_drew ?_ | refine blk_alloc ?_ _)); exact BK146.out⟩, ⟨by repeat (first | (with_reducible first | exact HB.out | apply below_alloc | apply pw_below_drewN | apply below_drew1 | refine below_set ?_ GE146.out) | exact HB.out)⟩⟩
                          · rw [if_neg c51] at H
                            have c51b0 : ((rd l0 x16_1) == 4) = false := beq_eq_false_iff_ne.mpr c51
                            have c51b1 : ((rd l0 x16_1) != 4) = true := bne_iff_ne.mpr c51
                            have H' := Aside0.mk H
                            clear H
                            have hcz53_0 : w17.cell? ⟨gb146, 0, none⟩ = some (.int .i64 0) := (blk_cell BK146.out 0).trans rfl
                            have hcz53_1 : w17.cell? ⟨gb146, 1, none⟩ = some (.int .i64 0) := (blk_cell BK146.out 1).trans rfl
                            have hfz53_0 := blk_frozen BK146.out 0
                            have hfz53_1 := blk_frozen BK146.out 1
                            go_wp2
                            go_meet
                            case rel => exact ⟨_, (false), (by first | rfl | (simp; done) | (simp [*]; done)), H', ⟨by have := HK1.out; first | omega | exact Nat.le_refl _⟩, ⟨by (with_reducible repeat (first | refine blk_drewN ?_ _ | refine blk_drew ?_ | refine blk_alloc ?_ _)); refine blk_put (cs := #[.int .i64 t143, .int .i64 0]) ?_ 1 _ rfl; (with_reducible repeat (first | refine blk_drewN ?_ _ | refine blk_drew ?_ | refine blk_alloc ?_ _)); refine blk_put (cs := #[.int .i64 0, .int .i64 0]) ?_ 0 _ rfl; (with_reducible repeat (first | refine blk_drewN ?_ _ | refine blk_drew ?_ | refine blk_alloc ?_ _)); exact BK146.out⟩, ⟨by repeat (first | (with_reducible first | exact HB.out | apply below_alloc | apply pw_below_drewN | apply below_drew1 | refine below_set ?_ GE146.out) | exact HB.out)⟩⟩
                  case rest =>
                    clear HC13
                    try clear c1
                    try clear p1
                    try clear q1
                    try clear hx1
                    try clear c2
                    try clear p2
                    try clear c3
                    try clear c4
                    try clear c4b0
                    try clear c4b1
                    try clear c5
                    try clear p6
                    try clear c7
                    try clear c7b0
                    try clear c8
                    try clear c8b0
                    try clear c9
                    try clear c9b0
                    try clear c12
                    try clear p13
                    try clear q13
                    try clear hx13
                    try clear c14
                    try clear c17
                    try clear c18
                    try clear c19
                    try clear c19b0
                    try clear c19b1
                    try clear c20
                    try clear c22
                    try clear c22b0
                    try clear c22b1
                    try clear c24
                    try clear c24b0
                    try clear c24b1
                    try clear c25
                    try clear c25b0
                    try clear c25b1
                    try clear c26
                    try clear c26b0
                    try clear c26b1
                    try clear c30
                    try clear c30b0
                    try clear c30b1
                    try clear c33
                    try clear c33b0
                    try clear c33b1
                    try clear c34
                    try clear c35
                    try clear c35b0
                    try clear c35b1
                    try clear c36
                    try clear c36b0
                    try clear c36b1
                    try clear c37
                    try clear c37b0
                    try clear c37b1
                    try clear c41
                    try clear c41b0
                    try clear c41b1
                    try clear c45
                    try clear c45b0
                    try clear c45b1
                    try clear c46
                    try clear c46b0
                    try clear c46b1
                    try clear c47
                    try clear c47b0
                    try clear c47b1
                    try clear c51
                    try clear c51b0
                    try clear c51b1
                    try clear hcz18_0
                    try clear hcz18_1
                    try clear hcz21_0
                    try clear hcz21_1
                    try clear hcz23_0
                    try clear hcz23_1
                    try clear hcz27_0
                    try clear hcz27_1
                    try clear hcz28_0
                    try clear hcz28_1
                    try clear hcz29_0
                    try clear hcz29_1
                    try clear hcz31_0
                    try clear hcz31_1
                    try clear hcz32_0
                    try clear hcz32_1
                    try clear hcz38_0
                    try clear hcz38_1
                    try clear hcz39_0
                    try clear hcz39_1
                    try clear hcz40_0
                    try clear hcz40_1
                    try clear hcz42_0
                    try clear hcz42_1
                    try clear hcz43_0
                    try clear hcz43_1
                    try clear hcz44_0
                    try clear hcz44_1
                    try clear hcz48_0
                    try clear hcz48_1
                    try clear hcz49_0
                    try clear hcz49_1
                    try clear hcz50_0
                    try clear hcz50_1
                    try clear hcz52_0
                    try clear hcz52_1
                    try clear hcz53_0
                    try clear hcz53_1
                    try clear hfz18_0
                    try clear hfz18_1
                    try clear hfz21_0
                    try clear hfz21_1
                    try clear hfz23_0
                    try clear hfz23_1
                    try clear hfz27_0
                    try clear hfz27_1
                    try clear hfz28_0
                    try clear hfz28_1
                    try clear hfz29_0
                    try clear hfz29_1
                    try clear hfz31_0
                    try clear hfz31_1
                    try clear hfz32_0
                    try clear hfz32_1
                    try clear hfz38_0
                    try clear hfz38_1
                    try clear hfz39_0
                    try clear hfz39_1
                    try clear hfz40_0
                    try clear hfz40_1
                    try clear hfz42_0
                    try clear hfz42_1
                    try clear hfz43_0
                    try clear hfz43_1
                    try clear hfz44_0
                    try clear hfz44_1
                    try clear hfz48_0
                    try clear hfz48_1
                    try clear hfz49_0
                    try clear hfz49_1
                    try clear hfz50_0
                    try clear hfz50_1
                    try clear hfz52_0
                    try clear hfz52_1
                    try clear hfz53_0
                    try clear hfz53_1
                    try clear hx139_0
                    try clear p139
                    try clear p2
                    try clear q139
                    obtain ⟨kq, x61_12, rfl, HA, HJ12, BK146, HB⟩ := hcut
                    cases kq with
                    | zero => exact absurd HA.out (by simp [kissgatelaw13_TableEnds.j1])
                    | succ kj12 =>
                      have H := HA.out
                      clear HA
                      simp only [kissgatelaw13_TableEnds.j1] at H
                      by_cases c54 : x61_12 = true
                      · subst c54
                        have H1 : (some false) = some r := by rw [if_pos rfl] at H; exact H
                        clear H
                        have H := H1
                        clear H1
                        obtain rfl := Option.some.inj H
                        go_wp2
                        go_ret
                        exact ⟨by first | rfl | (simp [errW_none, errW_some] <;> rfl) | (simp [*, errW_none, errW_some] <;> rfl), by repeat (first | (with_reducible first | exact HB.out | apply below_alloc | apply pw_below_drewN | apply below_drew1 | refine below_set ?_ GE146.out) | exact HB.out)⟩
                      · replace c54 := Bool.eq_false_iff.mpr c54
                        subst c54
                        have H1 : (if x3_1 = true then (if t144 = 4 then (if ((t144 == 3) != (t143 != 0)) = true then (some false) else (kissgatelaw13_TableEnds.l0 kj12 (t144 == 3) t143 l0 (l0.length : Int) (wrap64 (x16_1 + 1)))) else (if (true != (t143 != 0)) = true then (some false) else (kissgatelaw13_TableEnds.l0 kj12 true t143 l0 (l0.length : Int) (wrap64 (x16_1 + 1))))) else (if ((t144 == 3) != (t143 != 0)) = true then (some false) else (kissgatelaw13_TableEnds.l0 kj12 (t144 == 3) t143 l0 (l0.length : Int) (wrap64 (x16_1 + 1))))) = some r := by rw [if_neg (show ¬ (false = true) by decide)] at H; exact H
                        clear H
                        have H := H1
                        clear H1
                        by_cases c55 : x3_1 = true
                        · subst c55
                          have H1 : (if t144 = 4 then (if ((t144 == 3) != (t143 != 0)) = true then (some false) else (kissgatelaw13_TableEnds.l0 kj12 (t144 == 3) t143 l0 (l0.length : Int) (wrap64 (x16_1 + 1)))) else (if (true != (t143 != 0)) = true then (some false) else (kissgatelaw13_TableEnds.l0 kj12 true t143 l0 (l0.length : Int) (wrap64 (x16_1 + 1))))) = some r := by rw [if_pos rfl] at H; exact H
                          clear H
                          have H := H1
                          clear H1
                          by_cases c56 : t144 = 4
                          · rw [if_pos c56] at H
                            have c56b0 : (t144 == 4) = true := beq_iff_eq.mpr c56
                            have c56b1 : (t144 != 4) = false := bne_eq_false_iff_eq.mpr c56
                            clear c56
                            by_cases c57 : ((t144 == 3) != (t143 != 0)) = true
                            · rw [if_pos c57] at H
                              have c57b0 : ((t144 == 3) != (t143 != 0)) = true := c57
                              (try (have c57b1 : decide ((t144 == 3) = (t143 != 0)) = false := by simpa using c57))
                              (try (have c57b2 : ((t144 == 3) == (t143 != 0)) = false := by simpa using c57))
                              (try (have c57b3 : ¬ ((t144 == 3) = (t143 != 0)) := by simpa using c57))
                              clear c57
                              obtain rfl := Option.some.inj H
                              have hcz58_0 : wc.cell? ⟨gb146, 0, none⟩ = some (.int .i64 t143) := (blk_cell BK146.out 0).trans rfl
                              have hcz58_1 : wc.cell? ⟨gb146, 1, none⟩ = some (.int .i64 t144) := (blk_cell BK146.out 1).trans rfl
                              have hfz58_0 := blk_frozen BK146.out 0
                              have hfz58_1 := blk_frozen BK146.out 1
                              go_wp2
                              go_ret
                              exact ⟨by first | rfl | (simp [errW_none, errW_some] <;> rfl) | (simp [*, errW_none, errW_some] <;> rfl), by repeat (first | (with_reducible first | exact HB.out | apply below_alloc | apply pw_below_drewN | apply below_drew1 | refine below_set ?_ GE146.out) | exact HB.out)⟩
                            · rw [if_neg c57] at H
                              have c57b0 : ((t144 == 3) != (t143 != 0)) = false := by simpa using c57
                              (try (have c57b1 : decide ((t144 == 3) = (t143 != 0)) = true := by simpa using c57))
                              (try (have c57b2 : ((t144 == 3) == (t143 != 0)) = true := by simpa using c57))
                              clear c57
                              have H' := Aside0.mk H
                              clear H
                              have hcz59_0 : wc.cell? ⟨gb146, 0, none⟩ = some (.int .i64 t143) := (blk_cell BK146.out 0).trans rfl
                              have hcz59_1 : wc.cell? ⟨gb146, 1, none⟩ = some (.int .i64 t144) := (blk_cell BK146.out 1).trans rfl
                              have hfz59_0 := blk_frozen BK146.out 0
                              have hfz59_1 := blk_frozen BK146.out 1
                              go_wp2
                              go_roundg kj12
                              case measure => have := HK1.out; have := HJ12.out; omega
                              case rel => exact ⟨((t144 == 3)), (t143), (wrap64 (x16_1 + 1)), (by first | rfl | (simp; done) | (simp [*]; done)), (by first | rfl | (simp; done) | (simp [*]; done)), (by first | rfl | (simp; done) | (simp [*]; done)), H', ⟨by have := HK1.out; have := HJ12.out; omega⟩, ⟨by repeat (first | (with_reducible first | exact HB.out | apply below_alloc | apply pw_below_drewN | apply below_drew1 | refine below_set ?_ GE146.out) | exact HB.out)⟩⟩
                          · rw [if_neg c56] at H
                            have c56b0 : (t144 == 4) = false := beq_eq_false_iff_ne.mpr c56
                            have c56b1 : (t144 != 4) = true := bne_iff_ne.mpr c56
                            by_cases c60 : (true != (t143 != 0)) = true
                            · rw [if_pos c60] at H
                              have c60b0 : (true != (t143 != 0)) = true := c60
                              (try (have c60b1 : decide (true = (t143 != 0)) = false := by simpa using c60))
                              (try (have c60b2 : (true == (t143 != 0)) = false := by simpa using c60))
                              (try (have c60b3 : ¬ (true = (t143 != 0)) := by simpa using c60))
                              clear c60
                              obtain rfl := Option.some.inj H
                              have hcz61_0 : wc.cell? ⟨gb146, 0, none⟩ = some (.int .i64 t143) := (blk_cell BK146.out 0).trans rfl
                              have hcz61_1 : wc.cell? ⟨gb146, 1, none⟩ = some (.int .i64 t144) := (blk_cell BK146.out 1).trans rfl
                              have hfz61_0 := blk_frozen BK146.out 0
                              have hfz61_1 := blk_frozen BK146.out 1
                              go_wp2
                              go_ret
                              exact ⟨by first | rfl | (simp [errW_none, errW_some] <;> rfl) | (simp [*, errW_none, errW_some] <;> rfl), by repeat (first | (with_reducible first | exact HB.out | apply below_alloc | apply pw_below_drewN | apply below_drew1 | refine below_set ?_ GE146.out) | exact HB.out)⟩
                            · rw [if_neg c60] at H
                              have c60b0 : (true != (t143 != 0)) = false := by simpa using c60
                              (try (have c60b1 : decide (true = (t143 != 0)) = true := by simpa using c60))
                              (try (have c60b2 : (true == (t143 != 0)) = true := by simpa using c60))
                              clear c60
                              have H' := Aside0.mk H
                              clear H
                              have hcz62_0 : wc.cell? ⟨gb146, 0, none⟩ = some (.int .i64 t143) := (blk_cell BK146.out 0).trans rfl
                              have hcz62_1 : wc.cell? ⟨gb146, 1, none⟩ = some (.int .i64 t144) := (blk_cell BK146.out 1).trans rfl
                              have hfz62_0 := blk_frozen BK146.out 0
                              have hfz62_1 := blk_frozen BK146.out 1
                              go_wp2
                              go_roundg kj12
                              case measure => have := HK1.out; have := HJ12.out; omega
                              case rel => exact ⟨(true), (t143), (wrap64 (x16_1 + 1)), (by first | rfl | (simp; done) | (simp [*]; done)), (by first | rfl | (simp; done) | (simp [*]; done)), (by first | rfl | (simp; done) | (simp [*]; done)), H', ⟨by have := HK1.out; have := HJ12.out; omega⟩, ⟨by repeat (first | (with_reducible first | exact HB.out | apply below_alloc | apply pw_below_drewN | apply below_drew1 | refine below_set ?_ GE146.out) | exact HB.out)⟩⟩
                        · replace c55 := Bool.eq_false_iff.mpr c55
                          subst c55
                          have H1 : (if ((t144 == 3) != (t143 != 0)) = true then (some false) else (kissgatelaw13_TableEnds.l0 kj12 (t144 == 3) t143 l0 (l0.length : Int) (wrap64 (x16_1 + 1)))) = some r := by rw [if_neg (show ¬ (false = true) by decide)] at H; exact H
                          clear H
                          have H := H1
                          clear H1
                          by_cases c63 : ((t144 == 3) != (t143 != 0)) = true
                          · rw [if_pos c63] at H
                            have c63b0 : ((t144 == 3) != (t143 != 0)) = true := c63
                            (try (have c63b1 : decide ((t144 == 3) = (t143 != 0)) = false := by simpa using c63))
                            (try (have c63b2 : ((t144 == 3) == (t143 != 0)) = false := by simpa using c63))
                            (try (have c63b3 : ¬ ((t144 == 3) = (t143 != 0)) := by simpa using c63))
                            clear c63
                            obtain rfl := Option.some.inj H
                            have hcz64_0 : wc.cell? ⟨gb146, 0, none⟩ = some (.int .i64 t143) := (blk_cell BK146.out 0).trans rfl
                            have hcz64_1 : wc.cell? ⟨gb146, 1, none⟩ = some (.int .i64 t144) := (blk_cell BK146.out 1).trans rfl
                            have hfz64_0 := blk_frozen BK146.out 0
                            have hfz64_1 := blk_frozen BK146.out 1
                            go_wp2
                            go_ret
                            exact ⟨by first | rfl | (simp [errW_none, errW_some] <;> rfl) | (simp [*, errW_none, errW_some] <;> rfl), by repeat (first | (with_reducible first | exact HB.out | apply below_alloc | apply pw_below_drewN | apply below_drew1 | refine below_set ?_ GE146.out) | exact HB.out)⟩
                          · rw [if_neg c63] at H
                            have c63b0 : ((t144 == 3) != (t143 != 0)) = false := by simpa using c63
                            (try (have c63b1 : decide ((t144 == 3) = (t143 != 0)) = true := by simpa using c63))
                            (try (have c63b2 : ((t144 == 3) == (t143 != 0)) = true := by simpa using c63))
                            clear c63
                            have H' := Aside0.mk H
                            clear H
                            have hcz65_0 : wc.cell? ⟨gb146, 0, none⟩ = some (.int .i64 t143) := (blk_cell BK146.out 0).trans rfl
                            have hcz65_1 : wc.cell? ⟨gb146, 1, none⟩ = some (.int .i64 t144) := (blk_cell BK146.out 1).trans rfl
                            have hfz65_0 := blk_frozen BK146.out 0
                            have hfz65_1 := blk_frozen BK146.out 1
                            go_wp2
                            go_roundg kj12
                            case measure => have := HK1.out; have := HJ12.out; omega
                            case rel => exact ⟨((t144 == 3)), (t143), (wrap64 (x16_1 + 1)), (by first | rfl | (simp; done) | (simp [*]; done)), (by first | rfl | (simp; done) | (simp [*]; done)), (by first | rfl | (simp; done) | (simp [*]; done)), H', ⟨by have := HK1.out; have := HJ12.out; omega⟩, ⟨by repeat (first | (with_reducible first | exact HB.out | apply below_alloc | apply pw_below_drewN | apply below_drew1 | refine below_set ?_ GE146.out) | exact HB.out)⟩⟩
                · replace c12 := Bool.eq_false_iff.mpr c12
                  subst c12
                  have H1 : (kissgatelaw13_TableEnds.l0 k1 x3_1 x4_1 l0 (l0.length : Int) (wrap64 (x16_1 + 1))) = some r := by rw [if_neg (show ¬ (false = true) by decide)] at H; exact H
                  clear H
                  have H := H1
                  clear H1
                  have H' := Aside0.mk H
                  clear H
                  have p139 : 0 ≤ (x16_1 : Int) := of_decide_eq_true (by first | (with_reducible assumption) | assumption)
                  have q139 : x16_1 < (l0.length : Int) := of_decide_eq_true (by first | (with_reducible assumption) | assumption)
                  obtain ⟨ad139, e139, hx139_0⟩ := Kd.at_int HR0.out x16_1 p139 q139
                  cases e139
                  replace hx139_0 := (HB.out.cell (World.block_lt_of_cell? w _ hx139_0)).trans hx139_0
                  replace p139 := eq_true p139
                  replace q139 := eq_true q139
                  go_wp2_with (first | ((with_reducible refine gate_callee (f := 18) rfl ?_); refine goesL_ (some 21) rfl rfl Try.func18 (by kernel_rfl) rfl #[] rfl (by (try simp only [List.map_toArray, List.map_cons, List.map_nil]); first | done | rfl | (simp only [List.length_drop, List.length_take]; rfl)) ?_; (with_reducible refine (table_Registrar.calls  t140 _ A10.out).mono ?_); rintro e w66 ⟨v141, rfl, ho0, hb⟩; refine ⟨_, rfl, ?_⟩; have n0_ := Aside0.mk (Kd.N_lower (Kd.N_mono (ok' := fun k_ => True) ho0 (fun k_ hk_ => trivial)) (below_size (by repeat (first | (with_reducible first | exact HB.out | apply below_alloc | apply pw_below_drewN | apply below_drew1) | exact HB.out)))); have n1_ := Aside0.mk (below_step (by repeat (first | (with_reducible first | exact HB.out | apply below_alloc | apply pw_below_drewN | apply below_drew1) | exact HB.out)) hb); clear HB; have HO142 := n0_; have HB := n1_; clear n0_ n1_; (try clear hb); (try clear hb2); (try clear hk); (try clear hi); (try clear ho0); obtain ⟨Ao67, co67, eo67⟩ := Kd.N_slice HO142.out; subst eo67) | ((with_reducible refine gate_callee (f := 17) rfl ?_); refine goesL_ (some 24) rfl rfl Try.func17 (by kernel_rfl) rfl #[.slice Ao67 t140.length co67, .int .i64 x4_1, .int .i64 (rd l0 x16_1)] rfl (by (try simp only [List.map_toArray, List.map_cons, List.map_nil]); first | done | rfl | (simp only [List.length_drop, List.length_take]; rfl)) ?_; (with_reducible refine (table_At.calls _ _ t140 x4_1 (rd l0 x16_1) t143 t144 false _ ?side1 ?side2 A11.out).mono ?_); (case side1 => repeat (first | exact (Kd.N_reads' HO142.out).2.2 | (with_reducible refine Kd.C_alloc ?_ _) | (with_reducible refine Kd.C_drewN ?_ _) | (with_reducible refine Kd.C_drew ?_))); (case side2 => exact (Kd.N_reads' HO142.out).2.1); rintro e w68 ⟨rfl, hb⟩; refine ⟨_, rfl, ?_⟩; have n0_ := Aside0.mk (Kd.N_below (by (with_reducible repeat (first | apply Kd.N_alloc | apply Kd.N_drewN | apply Kd.N_drew)); exact HO142.out) hb); have n1_ := Aside0.mk (below_step (by repeat (first | (with_reducible first | exact HB.out | apply below_alloc | apply pw_below_drewN | apply below_drew1) | exact HB.out)) hb); clear HO142; clear HB; have HO142 := n0_; have HB := n1_; clear n0_ n1_; (try clear hb); (try clear hb2); (try clear hk); (try clear hi)) | ((with_reducible refine gate_dst (N := 7) rfl ?_); refine box_event ?hg (N := 7) ?hd (cs := #[.int .i64 0, .int .i64 0]) (t := 30) ?hr ?_; (case hd => rfl); (case hg => rfl); (case hr => first | (go_simp; done) | (go_simp; rfl)); intro gb146 hg w69 hbox hb; have n0_ := Aside0.mk (Kd.N_below (Kd.N_elderB (by (with_reducible repeat (first | apply Kd.N_alloc | apply Kd.N_drewN | apply Kd.N_drew)); exact HO142.out) gb146 (Nat.le_of_eq hg.symm)) hb); have n1_ := Aside0.mk (below_step (by repeat (first | (with_reducible first | exact HB.out | apply below_alloc | apply pw_below_drewN | apply below_drew1) | exact HB.out)) hb); have n2_ := Aside0.mk (hbox); have n3_ := Aside0.mk ((by rw [hg]; exact (below_size (by repeat (first | (with_reducible first | exact HB.out | apply below_alloc | apply pw_below_drewN | apply below_drew1) | exact HB.out))) : w.heap.size ≤ gb146)); have n4_ := Aside0.mk ((by rw [hg]; exact (below_size (by repeat (first | (with_reducible first | exact HB.out | apply below_alloc | apply pw_below_drewN | apply below_drew1) | exact HB.out))) : w.heap.size ≤ gb146)); clear HO142; clear HB; have HO142 := n0_; have HB := n1_; have BK146 := n2_; have GW146 := n3_; have GE146 := n4_; clear n0_ n1_ n2_ n3_ n4_; clear hb hbox hg; have hcz70_0 : w69.cell? ⟨gb146, 0, none⟩ = some (.int .i64 0) := (blk_cell BK146.out 0).trans rfl; have hcz70_1 : w69.cell? ⟨gb146, 1, none⟩ = some (.int .i64 0) := (blk_cell BK146.out 1).trans rfl; have hfz70_0 := blk_frozen BK146.out 0; have hfz70_1 := blk_frozen BK146.out 1))
                  go_roundg k1
                  case measure => have := HK1.out; omega
                  case rel => exact ⟨(x3_1), (x4_1), (wrap64 (x16_1 + 1)), (by first | rfl | (simp; done) | (simp [*]; done)), (by first | rfl | (simp; done) | (simp [*]; done)), (by first | rfl | (simp; done) | (simp [*]; done)), H', ⟨by have := HK1.out; omega⟩, ⟨by repeat (first | (with_reducible first | exact HB.out | apply below_alloc | apply pw_below_drewN | apply below_drew1 | refine below_set ?_ GE146.out) | exact HB.out)⟩⟩
              · rw [if_neg c9] at H
                exact absurd H (by simp)
            · rw [if_neg c8] at H
              exact absurd H (by simp)
          · rw [if_neg c7] at H
            have c7b0 : decide (x16_1 < (l0.length : Int)) = false := decide_eq_false c7
            clear c7
            obtain rfl := Option.some.inj H
            go_wp2
            go_ret
            exact ⟨by first | rfl | (simp [errW_none, errW_some] <;> rfl) | (simp [*, errW_none, errW_some] <;> rfl), by repeat (first | (with_reducible first | exact HB.out | apply below_alloc | apply pw_below_drewN | apply below_drew1) | exact HB.out)⟩
  · replace c3 := Bool.eq_false_iff.mpr c3
    subst c3
    have H1 : (some false) = some r := by rw [if_neg (show ¬ (false = true) by decide)] at H; exact H
    clear H
    have H := H1
    clear H1
    obtain rfl := Option.some.inj H
    go_enter Try.func4, Try.ntmps4
    go_wp2_with (first | ((with_reducible refine gate_callee (f := 14) rfl ?_); refine goesL_ (some 9) rfl rfl Try.func14 (by kernel_rfl) rfl #[] rfl (by (try simp only [List.map_toArray, List.map_cons, List.map_nil]); first | done | rfl | (simp only [List.length_drop, List.length_take]; rfl)) ?_; (with_reducible refine (kissgatelaw13_alive.calls k  false _ A2.out).mono ?_); rintro e w71 ⟨rfl, hb⟩; refine ⟨_, rfl, ?_⟩; have n0_ := Aside0.mk (below_step (by repeat (first | (with_reducible first | exact HB.out | apply below_alloc | apply pw_below_drewN | apply below_drew1) | exact HB.out)) hb); clear HB; have HB := n0_; clear n0_; (try clear hb); (try clear hb2); (try clear hk); (try clear hi)))
    go_ret
    exact ⟨by first | rfl | (simp [errW_none, errW_some] <;> rfl) | (simp [*, errW_none, errW_some] <;> rfl), by repeat (first | (with_reducible first | exact HB.out | apply below_alloc | apply pw_below_drewN | apply below_drew1) | exact HB.out)⟩

/-- THE ONE PURE STATEMENT of kissgatelaw13_TableEnds: yours. -/
def kissgatelaw13_TableEnds.Pure : Prop := ∀ (l0 : List Int), l0.length ≤ maxLen → l0.length * 8 ≤ 140737488351232 → (∀ x ∈ l0, (Lit.int .i64 x).wf = true) → ∃ k, kissgatelaw13_TableEnds.f k l0 = some true
theorem kissgatelaw13_TableEnds.walk (P : kissgatelaw13_TableEnds.Pure) (a0 : Option Addr) (len0 cap0 : Nat) (z0 : List Int) (w : World) (w0 : (a0 = none ∧ len0 = 0 ∧ cap0 = 0 ∧ z0 = []) ∨ ∃ x, a0 = some x ∧ len0 ≤ cap0 ∧ cap0 ≤ maxLen ∧ z0.length = cap0 ∧ (∀ i, i < z0.length → w.cell? (x.add i) = some (.int .i64 (z0.getD i 0))) ∧ ∀ n ∈ z0, (Lit.int .i64 n).wf = true) (y0 : len0 * 8 ≤ 140737488351232) :
    Calls Try.prog 4 #[.slice a0 len0 cap0] w fun e w' => e = .returned (.bool true) ∧ Below w.heap.size w w' := by
  obtain ⟨l0, rfl, hr0, hm0, hw0, hc0⟩ := ReadsInt.ofRowC w0
  obtain ⟨k, h⟩ := P l0 hm0 y0 hw0
  refine (kissgatelaw13_TableEnds.calls k _ _ l0 true w (Kd.C_of_reads (d := (0 : Int)) (h1 := fun _ => rfl) hr0) hc0 h).mono ?_
  rintro e w' ⟨rfl, hd⟩
  exact ⟨rfl, hd⟩

end Go.Proofs.Ytbcngajkokjfjaa.PTableEnds
