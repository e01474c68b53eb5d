/- Functions of the program as plain Lean functions, what their calls do, and what follows of it. Conditions: each theorem's own. -/
import Derived.Test.YtfimhaodgekkgaaDoorCTreeSpans2
namespace Go.Proofs.YtfimhaodgekkgaaDoor.QSpn
open Go.RowKit Go.Proofs.YtfimhaodgekkgaaDoorW.PrintWords Go.Proofs.YtfimhaodgekkgaaDoorW.PrintLast Go.Proofs.YtfimhaodgekkgaaDoorW.PrintMore
attribute [local go_sem] max2_int min2_int max_two min_two max_three min_three max_four min_four
set_option linter.unusedVariables false
set_option linter.unusedSimpArgs false
mutual
def kissgateref12_Hold.l0 : Nat → List Int → List (S72) → List (S36) → List Int → Int → Int → Option ((List (S36)))
  | 0, _, _, _, _, _, _ => none
  | k + 1, x0, x1, x5, x10, x11, x12 => if x12 < x11 then (if 0 ≤ x12 then (if x12 < (x10.length : Int) then (if x5.length < 4398046511104 then (kissgateref12_Hold.l0 k x0 x1 (x5 ++ [(⟨rd x10 x12, 0, rd x10 x12, 0⟩ : S36)]) x10 x11 (wrap64 (x12 + 1))) else (none)) else (none)) else (none)) else (kissgateref12_Hold.l1 k x0 x1 x5 (x0.length : Int) 0)
def kissgateref12_Hold.l1 : Nat → List Int → List (S72) → List (S36) → Int → Int → Option ((List (S36)))
  | 0, _, _, _, _, _ => none
  | k + 1, x0, x1, x5, x24, x25 => if x25 < x24 then (kissgateref12_Hold.l2 k x0 x1 x5 x24 x25 (x1.length : Int) 0) else (some x5)
def kissgateref12_Hold.l2 : Nat → List Int → List (S72) → List (S36) → Int → Int → Int → Int → Option ((List (S36)))
  | 0, _, _, _, _, _, _, _ => none
  | k + 1, x0, x1, x5, x24, x25, x28, x29 => if x29 < x28 then (kissgateref12_Hold.l3 k x0 x1 x5 x24 x25 x28 x29 x1 (x1.length : Int) 0) else (kissgateref12_Hold.l1 k x0 x1 x5 x24 (wrap64 (x25 + 1)))
def kissgateref12_Hold.l3 : Nat → List Int → List (S72) → List (S36) → Int → Int → Int → Int → List (S72) → Int → Int → Option ((List (S36)))
  | 0, _, _, _, _, _, _, _, _, _, _ => none
  | k + 1, x0, x1, x5, x24, x25, x28, x29, x31, x32, x33 => if x33 < x32 then (if 0 ≤ x33 then (if x33 < (x31.length : Int) then (if 0 ≤ ((rd_T72 x31 x33).f2) then (if ((rd_T72 x31 x33).f2) < (x5.length : Int) then (if ((rd_T72 x31 x33).f2) < (x0.length : Int) then (if 0 ≤ ((rd_T72 x31 x33).f0) then (if ((rd_T72 x31 x33).f0) < (x5.length : Int) then (if ((rd_T72 x31 x33).f0) < (x0.length : Int) then ((kissgateref12_better.f ((rd_T36 x5 ((rd_T72 x31 x33).f2)).f0) ((rd_T36 x5 ((rd_T72 x31 x33).f2)).f1) ((rd_T36 x5 ((rd_T72 x31 x33).f2)).f2) ((rd_T36 x5 ((rd_T72 x31 x33).f2)).f3) (rd x0 ((rd_T72 x31 x33).f2)) ((rd_T36 x5 ((rd_T72 x31 x33).f0)).f0) ((rd_T36 x5 ((rd_T72 x31 x33).f0)).f1) ((rd_T36 x5 ((rd_T72 x31 x33).f0)).f2) ((rd_T36 x5 ((rd_T72 x31 x33).f0)).f3) (rd x0 ((rd_T72 x31 x33).f0)) ((rd_T72 x31 x33).f1) ((rd_T72 x31 x33).f5)).bind fun bt118 => ((some (x5.set (((rd_T72 x31 x33).f2) : Int).toNat (⟨bt118.1, bt118.2.1, bt118.2.2.1, bt118.2.2.2⟩ : S36) : List (S36))).bind fun y122 => ((kissgateref12_better.f ((rd_T36 y122 ((rd_T72 x31 x33).f0)).f0) ((rd_T36 y122 ((rd_T72 x31 x33).f0)).f1) ((rd_T36 y122 ((rd_T72 x31 x33).f0)).f2) ((rd_T36 y122 ((rd_T72 x31 x33).f0)).f3) (rd x0 ((rd_T72 x31 x33).f0)) ((rd_T36 y122 ((rd_T72 x31 x33).f2)).f0) ((rd_T36 y122 ((rd_T72 x31 x33).f2)).f1) ((rd_T36 y122 ((rd_T72 x31 x33).f2)).f2) ((rd_T36 y122 ((rd_T72 x31 x33).f2)).f3) (rd x0 ((rd_T72 x31 x33).f2)) ((rd_T72 x31 x33).f3) ((rd_T72 x31 x33).f4)).bind fun bt127 => (kissgateref12_Hold.l3 k x0 x1 (y122.set (((rd_T72 x31 x33).f0) : Int).toNat (⟨bt127.1, bt127.2.1, bt127.2.2.1, bt127.2.2.2⟩ : S36)) x24 x25 x28 x29 x31 x32 (wrap64 (x33 + 1)))))) else (none)) else (none)) else (none)) else (none)) else (none)) else (none)) else (none)) else (none)) else (kissgateref12_Hold.l2 k x0 x1 x5 x24 x25 x28 (wrap64 (x29 + 1)))
end
def kissgateref12_Hold.f (k : Nat) (l0 : List Int) (l1 : List (S72)) : Option ((List (S36))) := kissgateref12_Hold.l0 k l0 l1 ([] : List (S36)) l0 (l0.length : Int) 0
def kissgateref12_Hold.T14 : Bool × List (List Nat × List Nat) := (true, [([], []), ([], []), ([1], [1]), ([], []), ([], []), ([4], [4]), ([3, 5], [3, 5]), ([6], [6]), ([], []), ([], []), ([9], [9]), ([8, 10], [8, 10]), ([11], [11]), ([], []), ([], []), ([14], [14]), ([13, 15], [13, 15]), ([16], [16]), ([], []), ([], []), ([19], [19]), ([18, 20], [18, 20]), ([21], [21]), ([], []), ([23], [23]), ([], []), ([25], [25]), ([7, 12, 17, 22, 24, 26], [7, 12, 17, 22, 24, 26]), ([0, 2, 0, 1, 2, 3, 4, 5, 6, 7, 8, 9, 10, 11, 12, 13, 14, 15, 16, 17, 18, 19, 20, 21, 22, 23, 24, 25, 26, 27], [0, 2]), ([28, 27, 27, 0, 1, 2, 3, 4, 5, 6, 7, 8, 9, 10, 11, 12, 13, 14, 15, 16, 17, 18, 19, 20, 21, 22, 23, 24, 25, 26, 27], [27, 28])])
def kissgateref12_Hold.B14 : List Nat := [0, 0, 2, 0, 0, 16, 56, 120, 0, 0, 512, 1792, 3840, 0, 0, 16384, 57344, 122880, 0, 0, 524288, 1835008, 3932160, 0, 8388608, 0, 33554432, 134217720, 268435455, 536870911]
theorem kissgateref12_Hold.tab14 : rtab .any (opsOf Tryd.f30 14) = kissgateref12_Hold.T14 := by kernel_rfl
theorem kissgateref12_Hold.bits14 : waitsOk kissgateref12_Hold.T14.2 kissgateref12_Hold.B14 = true := by kernel_rfl
def kissgateref12_Hold.T15 : Bool × List (List Nat × List Nat) := (true, [([], []), ([], []), ([1], [1]), ([], []), ([], []), ([4], [4]), ([3, 5], [3, 5]), ([6], [6]), ([], []), ([], []), ([9], [9]), ([8, 10], [8, 10]), ([11], [11]), ([], []), ([], []), ([14], [14]), ([13, 15], [13, 15]), ([16], [16]), ([], []), ([], []), ([19], [19]), ([18, 20], [18, 20]), ([21], [21]), ([], []), ([23], [23]), ([], []), ([25], [25]), ([7, 12, 17, 22, 24, 26], [7, 12, 17, 22, 24, 26]), ([0, 2, 0, 1, 2, 3, 4, 5, 6, 7, 8, 9, 10, 11, 12, 13, 14, 15, 16, 17, 18, 19, 20, 21, 22, 23, 24, 25, 26, 27], [0, 2]), ([28, 27, 27, 0, 1, 2, 3, 4, 5, 6, 7, 8, 9, 10, 11, 12, 13, 14, 15, 16, 17, 18, 19, 20, 21, 22, 23, 24, 25, 26, 27], [27, 28])])
def kissgateref12_Hold.B15 : List Nat := [0, 0, 2, 0, 0, 16, 56, 120, 0, 0, 512, 1792, 3840, 0, 0, 16384, 57344, 122880, 0, 0, 524288, 1835008, 3932160, 0, 8388608, 0, 33554432, 134217720, 268435455, 536870911]
theorem kissgateref12_Hold.tab15 : rtab .any (opsOf Tryd.f30 15) = kissgateref12_Hold.T15 := by kernel_rfl
theorem kissgateref12_Hold.bits15 : waitsOk kissgateref12_Hold.T15.2 kissgateref12_Hold.B15 = true := by kernel_rfl
set_option maxHeartbeats 8000000 in
set_option maxRecDepth 100000 in
theorem kissgateref12_Hold.calls (k : Nat) (A0 : Option Addr) (c0 : Nat) (l0 : List Int) (A1 : Option Addr) (c1 : Nat) (l1 : List (S72)) (r : List (S36)) (w : World) (hr0 : Kd.C (Kd.int .i64) w A0 l0.length l0) (hc0 : l0.length ≤ c0) (hr1 : Kd.C k72 w A1 l1.length l1) (hc1 : l1.length ≤ c1) (h : kissgateref12_Hold.f k l0 l1 = some r) :
    Calls Tryd.prog 30 #[.slice A0 l0.length c0, .slice A1 l1.length c1] w fun e w' => ∃ v0_ : Value, e = .returned (v0_) ∧ Kd.R k36 36 w' w.heap.size (fun _ => True) v0_ r ∧ Below w.heap.size w w' := by
  have hu36 := Tryd.underlying36
  have hu72 := Tryd.underlying72
  have HR0 := Aside0.mk hr0
  have HC0 := Aside0.mk hc0
  clear hr0 hc0
  have HR1 := Aside0.mk hr1
  have HC1 := Aside0.mk hc1
  clear hr1 hc1
  have HB := Aside0.mk (Below.refl w.heap.size w)
  have H : (kissgateref12_Hold.l0 k l0 l1 ([] : List (S36)) l0 (l0.length : Int) 0) = some r := h
  clear h
  have H' := Aside0.mk H
  clear H
  go_enter Tryd.func30, Tryd.ntmps30
  go_wp2
  go_loopg [5, 12] k (fun kq v5 v12 w' => ∃ (x5_1 : List (S36)) (x12_1 : Int), v12 = .int .i64 x12_1 ∧ Aside0 (kissgateref12_Hold.l0 kq l0 l1 x5_1 l0 (l0.length : Int) x12_1 = some r) ∧ Aside0 (kq ≤ k) ∧ Aside0 (Kd.R k36 36 w' w.heap.size (fun _ => True) v5 x5_1) ∧ Aside0 (Below w.heap.size w w'))
  case atStart => exact ⟨(([] : List (S36))), (0), (by first | rfl | (simp; done) | (simp [*]; done)), H', ⟨Nat.le_refl _⟩, ⟨by first | exact Kd.R_nil _ _ _ _ _ | exact Kd.N_nil _ _ _ _ _ | exact Kd.V_nil _ _ _ _ _ | exact Kd.Q_nil _ _ _ _ _ | exact Kd.S_nil _ _ _ _ _⟩, ⟨by repeat (first | (with_reducible first | exact HB.out | apply below_alloc | apply pw_below_drewN | apply below_drew1) | exact HB.out)⟩⟩
  case round =>
    clear H'
    try clear c1
    try clear p2
    obtain ⟨x5_1, x12_1, rfl, HA, HK1, HO_5, HB⟩ := hrel
    cases gk with
    | zero => exact absurd HA.out (by simp [kissgateref12_Hold.l0])
    | succ k1 =>
      have H := HA.out
      clear HA
      simp only [kissgateref12_Hold.l0] at H
      by_cases c3 : x12_1 < (l0.length : Int)
      · rw [if_pos c3] at H
        have c3b0 : decide (x12_1 < (l0.length : Int)) = true := decide_eq_true c3
        clear c3
        by_cases c4 : 0 ≤ x12_1
        · rw [if_pos c4] at H
          have c4b0 : decide (0 ≤ x12_1) = true := decide_eq_true c4
          clear c4
          by_cases c5 : x12_1 < (l0.length : Int)
          · rw [if_pos c5] at H
            have c5b0 : decide (x12_1 < (l0.length : Int)) = true := decide_eq_true c5
            clear c5
            by_cases c6 : x5_1.length < 4398046511104
            · rw [if_pos c6] at H
              have LMc6 := Aside0.mk c6
              clear c6
              obtain ⟨y109, hy109⟩ : ∃ y_ : List (S36), y_ = (x5_1 ++ [(⟨rd l0 x12_1, 0, rd l0 x12_1, 0⟩ : S36)]) := ⟨_, rfl⟩
              replace H : (kissgateref12_Hold.l0 k1 l0 l1 y109 l0 (l0.length : Int) (wrap64 (x12_1 + 1))) = some r := by first | (rw [hy109]; with_reducible exact H) | (have H2_ := (Option.bind_some _ _).symm.trans H; rw [hy109]; with_reducible exact H2_) | (have H2_ := (Option.bind_some _ _).symm.trans H; with_reducible exact H2_) | with_reducible exact H | (rw [hy109]; exact H) | exact H
              have Ny109 := Aside0.mk hy109
              clear hy109
              have H' := Aside0.mk H
              clear H
              have p108 : 0 ≤ (x12_1 : Int) := of_decide_eq_true (by first | (with_reducible assumption) | assumption)
              have q108 : x12_1 < (l0.length : Int) := of_decide_eq_true (by first | (with_reducible assumption) | assumption)
              obtain ⟨ad108, e108, hx108_0⟩ := Kd.at_int HR0.out x12_1 p108 q108
              cases e108
              replace hx108_0 := (HB.out.cell (World.block_lt_of_cell? w _ hx108_0)).trans hx108_0
              replace p108 := eq_true p108
              replace q108 := eq_true q108
              go_wp2_with (first | ((with_reducible refine gate_builtin (b := .append) (xs := #[.tmp 16, .tmp 20]) rfl ?_); at_builtin; refine Kd.R_append k36 (w0 := w) w.heap.size rfl (.tmp 16) (.tmp 20) 73 36 (.agg #[(.int .i64 0), (.int .i64 0), (.int .i64 0), (.int .i64 0)]) 32 rfl Tryd.underlying73 info36 rfl (by decide) (by omega) u5 x5_1 (⟨rd l0 x12_1, 0, rd l0 x12_1, 0⟩ : S36) [.int .i64 (rd l0 x12_1), .int .i64 0, .int .i64 (rd l0 x12_1), .int .i64 0] (fun _ => True) (fun _ => False) rfl rfl ?aP (fun _ hk => hk.elim) ?aF ?aO ?aB ?aS ?aL ?_; (case aP => exact k36_mkM _ _ _ (⟨rd l0 x12_1, 0, rd l0 x12_1, 0⟩ : S36)); (case aB => exact (by repeat (first | (with_reducible first | exact HB.out | apply below_alloc | apply pw_below_drewN | apply below_drew1) | exact HB.out))); (case aF => exact (fun _ _ => trivial)); (case aO => exact (by (with_reducible repeat (first | apply Kd.R_alloc | apply Kd.R_drewN | apply Kd.R_drew)); exact HO_5.out)); (case aS => exact (below_size (by repeat (first | (with_reducible first | exact HB.out | apply below_alloc | apply pw_below_drewN | apply below_drew1) | exact HB.out)))); (case aL => have := LMc6.out; omega); intro v110 w7 ho hb hg hat; rw [← Ny109.out] at ho; have n0_ := Aside0.mk (hb); have n1_ := Aside0.mk (ho); clear HB; clear HO_5; have HB := n0_; have HO111 := n1_; clear n0_ n1_; clear ho hb hg hat))
              go_roundg k1
              case measure => have := HK1.out; omega
              case rel => exact ⟨(y109), (wrap64 (x12_1 + 1)), (by first | rfl | (simp; done) | (simp [*]; done)), H', ⟨by have := HK1.out; omega⟩, ⟨by (with_reducible repeat (first | apply Kd.R_alloc | apply Kd.R_drewN | apply Kd.R_drew)); exact HO111.out⟩, ⟨by repeat (first | (with_reducible first | exact HB.out | apply below_alloc | apply pw_below_drewN | apply below_drew1) | exact HB.out)⟩⟩
            · rw [if_neg c6] at H
              exact absurd H (by simp)
          · rw [if_neg c5] at H
            exact absurd H (by simp)
        · rw [if_neg c4] at H
          exact absurd H (by simp)
      · rw [if_neg c3] at H
        have c3b0 : decide (x12_1 < (l0.length : Int)) = false := decide_eq_false c3
        clear c3
        have H' := Aside0.mk H
        clear H
        go_wp2
        go_loopg [25] k1 (fun kq v25 w' => ∃ (x5_2 : List (S36)) (x25_2 : Int), v25 = .int .i64 x25_2 ∧ Aside0 (kissgateref12_Hold.l1 kq l0 l1 x5_2 (l0.length : Int) x25_2 = some r) ∧ Aside0 (kq ≤ k1) ∧ Aside0 (Kd.R k36 36 w' w.heap.size (fun _ => True) u5 x5_2) ∧ Aside0 (Below w.heap.size w w'))
        case atStart => exact ⟨(x5_1), (0), (by first | rfl | (simp; done) | (simp [*]; done)), H', ⟨Nat.le_refl _⟩, ⟨by (with_reducible repeat (first | apply Kd.R_alloc | apply Kd.R_drewN | apply Kd.R_drew)); exact HO_5.out⟩, ⟨by repeat (first | (with_reducible first | exact HB.out | apply below_alloc | apply pw_below_drewN | apply below_drew1) | exact HB.out)⟩⟩
        case round =>
          clear H'
          try clear c1
          try clear p1
          try clear q1
          try clear hx1
          try clear p2
          try clear c3
          try clear c3b0
          try clear c4
          try clear c4b0
          try clear c5
          try clear c5b0
          try clear c6
          try clear p6
          try clear hx108_0
          try clear p108
          try clear p2
          try clear q108
          obtain ⟨x5_2, x25_2, rfl, HA, HK2, HO_5, HB⟩ := hrel
          cases gk with
          | zero => exact absurd HA.out (by simp [kissgateref12_Hold.l1])
          | succ k2 =>
            have H := HA.out
            clear HA
            simp only [kissgateref12_Hold.l1] at H
            by_cases c8 : x25_2 < (l0.length : Int)
            · rw [if_pos c8] at H
              have c8b0 : decide (x25_2 < (l0.length : Int)) = true := decide_eq_true c8
              clear c8
              have H' := Aside0.mk H
              clear H
              go_wp2
              go_loopg [29] k2 (fun kq v29 w' => ∃ (x5_3 : List (S36)) (x29_3 : Int), v29 = .int .i64 x29_3 ∧ Aside0 (kissgateref12_Hold.l2 kq l0 l1 x5_3 (l0.length : Int) x25_2 (l1.length : Int) x29_3 = some r) ∧ Aside0 (kq ≤ k2) ∧ Aside0 (Kd.R k36 36 w' w.heap.size (fun _ => True) u5 x5_3) ∧ Aside0 (Below w.heap.size w w'))
              case atStart => exact ⟨(x5_2), (0), (by first | rfl | (simp; done) | (simp [*]; done)), H', ⟨Nat.le_refl _⟩, ⟨by (with_reducible repeat (first | apply Kd.R_alloc | apply Kd.R_drewN | apply Kd.R_drew)); exact HO_5.out⟩, ⟨by repeat (first | (with_reducible first | exact HB.out | apply below_alloc | apply pw_below_drewN | apply below_drew1) | exact HB.out)⟩⟩
              case round =>
                clear H'
                try clear c1
                try clear p1
                try clear q1
                try clear hx1
                try clear p2
                try clear c3
                try clear c3b0
                try clear c4
                try clear c4b0
                try clear c5
                try clear c5b0
                try clear c6
                try clear p6
                try clear c8
                try clear c8b0
                try clear hx108_0
                try clear p1
                try clear p108
                try clear p2
                try clear p6
                try clear q1
                try clear q108
                obtain ⟨x5_3, x29_3, rfl, HA, HK3, HO_5, HB⟩ := hrel
                cases gk with
                | zero => exact absurd HA.out (by simp [kissgateref12_Hold.l2])
                | succ k3 =>
                  have H := HA.out
                  clear HA
                  simp only [kissgateref12_Hold.l2] at H
                  by_cases c9 : x29_3 < (l1.length : Int)
                  · rw [if_pos c9] at H
                    have c9b0 : decide (x29_3 < (l1.length : Int)) = true := decide_eq_true c9
                    clear c9
                    have H' := Aside0.mk H
                    clear H
                    go_wp2
                    go_loopg [33] k3 (fun kq v33 w' => ∃ (x5_4 : List (S36)) (x33_4 : Int), v33 = .int .i64 x33_4 ∧ Aside0 (kissgateref12_Hold.l3 kq l0 l1 x5_4 (l0.length : Int) x25_2 (l1.length : Int) x29_3 l1 (l1.length : Int) x33_4 = some r) ∧ Aside0 (kq ≤ k3) ∧ Aside0 (Kd.R k36 36 w' w.heap.size (fun _ => True) u5 x5_4) ∧ Aside0 (Below w.heap.size w w'))
                    case atStart => exact ⟨(x5_3), (0), (by first | rfl | (simp; done) | (simp [*]; done)), H', ⟨Nat.le_refl _⟩, ⟨by (with_reducible repeat (first | apply Kd.R_alloc | apply Kd.R_drewN | apply Kd.R_drew)); exact HO_5.out⟩, ⟨by repeat (first | (with_reducible first | exact HB.out | apply below_alloc | apply pw_below_drewN | apply below_drew1) | exact HB.out)⟩⟩
                    case round =>
                      clear H'
                      try clear c1
                      try clear p1
                      try clear q1
                      try clear hx1
                      try clear p2
                      try clear c3
                      try clear c3b0
                      try clear c4
                      try clear c4b0
                      try clear c5
                      try clear c5b0
                      try clear c6
                      try clear p6
                      try clear c8
                      try clear c8b0
                      try clear c9
                      try clear c9b0
                      try clear hx108_0
                      try clear p1
                      try clear p108
                      try clear p2
                      try clear p6
                      try clear q1
                      try clear q108
                      obtain ⟨x5_4, x33_4, rfl, HA, HK4, HO_5, HB⟩ := hrel
                      cases gk with
                      | zero => exact absurd HA.out (by simp [kissgateref12_Hold.l3])
                      | succ k4 =>
                        have H := HA.out
                        clear HA
                        simp only [kissgateref12_Hold.l3] at H
                        by_cases c10 : x33_4 < (l1.length : Int)
                        · rw [if_pos c10] at H
                          have c10b0 : decide (x33_4 < (l1.length : Int)) = true := decide_eq_true c10
                          clear c10
                          by_cases c11 : 0 ≤ x33_4
                          · rw [if_pos c11] at H
                            have c11b0 : decide (0 ≤ x33_4) = true := decide_eq_true c11
                            clear c11
                            by_cases c12 : x33_4 < (l1.length : Int)
                            · rw [if_pos c12] at H
                              have c12b0 : decide (x33_4 < (l1.length : Int)) = true := decide_eq_true c12
                              clear c12
                              by_cases c13 : 0 ≤ ((rd_T72 l1 x33_4).f2)
                              · rw [if_pos c13] at H
                                have c13b0 : decide (0 ≤ ((rd_T72 l1 x33_4).f2)) = true := decide_eq_true c13
                                clear c13
                                by_cases c14 : ((rd_T72 l1 x33_4).f2) < (x5_4.length : Int)
                                · rw [if_pos c14] at H
                                  have c14b0 : decide (((rd_T72 l1 x33_4).f2) < (x5_4.length : Int)) = true := decide_eq_true c14
                                  clear c14
                                  by_cases c15 : ((rd_T72 l1 x33_4).f2) < (l0.length : Int)
                                  · rw [if_pos c15] at H
                                    have c15b0 : decide (((rd_T72 l1 x33_4).f2) < (l0.length : Int)) = true := decide_eq_true c15
                                    clear c15
                                    by_cases c16 : 0 ≤ ((rd_T72 l1 x33_4).f0)
                                    · rw [if_pos c16] at H
                                      have c16b0 : decide (0 ≤ ((rd_T72 l1 x33_4).f0)) = true := decide_eq_true c16
                                      clear c16
                                      by_cases c17 : ((rd_T72 l1 x33_4).f0) < (x5_4.length : Int)
                                      · rw [if_pos c17] at H
                                        have c17b0 : decide (((rd_T72 l1 x33_4).f0) < (x5_4.length : Int)) = true := decide_eq_true c17
                                        clear c17
                                        by_cases c18 : ((rd_T72 l1 x33_4).f0) < (l0.length : Int)
                                        · rw [if_pos c18] at H
                                          have c18b0 : decide (((rd_T72 l1 x33_4).f0) < (l0.length : Int)) = true := decide_eq_true c18
                                          clear c18
                                          replace H := Option.bind_eq_some_iff.mp H
                                          obtain ⟨⟨t118, t119, t120, t121⟩, A190, H⟩ := H
                                          replace H : ((some (x5_4.set (((rd_T72 l1 x33_4).f2) : Int).toNat (⟨t118, t119, t120, t121⟩ : S36) : List (S36))).bind fun y122 => ((kissgateref12_better.f ((rd_T36 y122 ((rd_T72 l1 x33_4).f0)).f0) ((rd_T36 y122 ((rd_T72 l1 x33_4).f0)).f1) ((rd_T36 y122 ((rd_T72 l1 x33_4).f0)).f2) ((rd_T36 y122 ((rd_T72 l1 x33_4).f0)).f3) (rd l0 ((rd_T72 l1 x33_4).f0)) ((rd_T36 y122 ((rd_T72 l1 x33_4).f2)).f0) ((rd_T36 y122 ((rd_T72 l1 x33_4).f2)).f1) ((rd_T36 y122 ((rd_T72 l1 x33_4).f2)).f2) ((rd_T36 y122 ((rd_T72 l1 x33_4).f2)).f3) (rd l0 ((rd_T72 l1 x33_4).f2)) ((rd_T72 l1 x33_4).f3) ((rd_T72 l1 x33_4).f4)).bind fun bt127 => (kissgateref12_Hold.l3 k4 l0 l1 (y122.set (((rd_T72 l1 x33_4).f0) : Int).toNat (⟨bt127.1, bt127.2.1, bt127.2.2.1, bt127.2.2.2⟩ : S36)) (l0.length : Int) x25_2 (l1.length : Int) x29_3 l1 (l1.length : Int) (wrap64 (x33_4 + 1))))) = some r := H
                                          have A19 := Aside0.mk A190
                                          clear A190
                                          obtain ⟨y122, hy122⟩ : ∃ y_ : List (S36), y_ = (x5_4.set (((rd_T72 l1 x33_4).f2) : Int).toNat (⟨t118, t119, t120, t121⟩ : S36)) := ⟨_, rfl⟩
                                          replace H : ((kissgateref12_better.f ((rd_T36 y122 ((rd_T72 l1 x33_4).f0)).f0) ((rd_T36 y122 ((rd_T72 l1 x33_4).f0)).f1) ((rd_T36 y122 ((rd_T72 l1 x33_4).f0)).f2) ((rd_T36 y122 ((rd_T72 l1 x33_4).f0)).f3) (rd l0 ((rd_T72 l1 x33_4).f0)) ((rd_T36 y122 ((rd_T72 l1 x33_4).f2)).f0) ((rd_T36 y122 ((rd_T72 l1 x33_4).f2)).f1) ((rd_T36 y122 ((rd_T72 l1 x33_4).f2)).f2) ((rd_T36 y122 ((rd_T72 l1 x33_4).f2)).f3) (rd l0 ((rd_T72 l1 x33_4).f2)) ((rd_T72 l1 x33_4).f3) ((rd_T72 l1 x33_4).f4)).bind fun bt127 => (kissgateref12_Hold.l3 k4 l0 l1 (y122.set (((rd_T72 l1 x33_4).f0) : Int).toNat (⟨bt127.1, bt127.2.1, bt127.2.2.1, bt127.2.2.2⟩ : S36)) (l0.length : Int) x25_2 (l1.length : Int) x29_3 l1 (l1.length : Int) (wrap64 (x33_4 + 1)))) = some r := by first | (rw [hy122]; with_reducible exact H) | (have H2_ := (Option.bind_some _ _).symm.trans H; rw [hy122]; with_reducible exact H2_) | (have H2_ := (Option.bind_some _ _).symm.trans H; with_reducible exact H2_) | with_reducible exact H | (rw [hy122]; exact H) | exact H
                                          have Ny122 := Aside0.mk hy122
                                          clear hy122
                                          replace H := Option.bind_eq_some_iff.mp H
                                          obtain ⟨⟨t127, t128, t129, t130⟩, A210, H⟩ := H
                                          replace H : (kissgateref12_Hold.l3 k4 l0 l1 (y122.set (((rd_T72 l1 x33_4).f0) : Int).toNat (⟨t127, t128, t129, t130⟩ : S36)) (l0.length : Int) x25_2 (l1.length : Int) x29_3 l1 (l1.length : Int) (wrap64 (x33_4 + 1))) = some r := H
                                          have A21 := Aside0.mk A210
                                          clear A210
                                          obtain ⟨y131, hy131⟩ : ∃ y_ : List (S36), y_ = (y122.set (((rd_T72 l1 x33_4).f0) : Int).toNat (⟨t127, t128, t129, t130⟩ : S36)) := ⟨_, rfl⟩
                                          replace H : (kissgateref12_Hold.l3 k4 l0 l1 y131 (l0.length : Int) x25_2 (l1.length : Int) x29_3 l1 (l1.length : Int) (wrap64 (x33_4 + 1))) = some r := by first | (rw [hy131]; with_reducible exact H) | (have H2_ := (Option.bind_some _ _).symm.trans H; rw [hy131]; with_reducible exact H2_) | (have H2_ := (Option.bind_some _ _).symm.trans H; with_reducible exact H2_) | with_reducible exact H | (rw [hy131]; exact H) | exact H
                                          have Ny131 := Aside0.mk hy131
                                          clear hy131
                                          have H' := Aside0.mk H
                                          clear H
                                          have p112 : 0 ≤ (x33_4 : Int) := of_decide_eq_true (by first | (with_reducible assumption) | assumption)
                                          have q112 : x33_4 < (l1.length : Int) := of_decide_eq_true (by first | (with_reducible assumption) | assumption)
                                          obtain ⟨ad112, e112, hx112_0, hx112_1, hx112_2, hx112_3, hx112_4, hx112_5⟩ := at_T72 HR1.out x33_4 p112 q112
                                          cases e112
                                          replace hx112_0 := (HB.out.cell (World.block_lt_of_cell? w _ hx112_0)).trans hx112_0
                                          replace hx112_1 := (HB.out.cell (World.block_lt_of_cell? w _ hx112_1)).trans hx112_1
                                          replace hx112_2 := (HB.out.cell (World.block_lt_of_cell? w _ hx112_2)).trans hx112_2
                                          replace hx112_3 := (HB.out.cell (World.block_lt_of_cell? w _ hx112_3)).trans hx112_3
                                          replace hx112_4 := (HB.out.cell (World.block_lt_of_cell? w _ hx112_4)).trans hx112_4
                                          replace hx112_5 := (HB.out.cell (World.block_lt_of_cell? w _ hx112_5)).trans hx112_5
                                          replace p112 := eq_true p112
                                          replace q112 := eq_true q112
                                          try go_wp2_with (first | ((with_reducible refine gate_dst (N := 9) rfl ?_); refine box_event ?hg (N := 9) ?hd (cs := #[.int .i64 0, .int .i64 0, .int .i64 0, .int .i64 0, .int .i64 0, .int .i64 0]) (t := 72) ?hr ?_; (case hd => rfl); (case hg => rfl); (case hr => first | (go_simp; done) | (go_simp; rfl)); intro gb113 hg w23 hbox hb; have n0_ := Aside0.mk (Kd.R_below (by (with_reducible repeat (first | apply Kd.R_alloc | apply Kd.R_drewN | apply Kd.R_drew)); exact HO_5.out) hb); have n1_ := Aside0.mk (below_step (by repeat (first | (with_reducible first | exact HB.out | apply below_alloc | apply pw_below_drewN | apply below_drew1) | exact HB.out)) hb); have n2_ := Aside0.mk (hbox); have n3_ := Aside0.mk ((by rw [hg]; exact (below_size (by repeat (first | (with_reducible first | exact HB.out | apply below_alloc | apply pw_below_drewN | apply below_drew1) | exact HB.out))) : w.heap.size ≤ gb113)); have n4_ := Aside0.mk ((by rw [hg]; exact (below_size (by repeat (first | (with_reducible first | exact HB.out | apply below_alloc | apply pw_below_drewN | apply below_drew1) | exact HB.out))) : w.heap.size ≤ gb113)); clear HO_5; clear HB; have HO_5 := n0_; have HB := n1_; have BK113 := n2_; have GW113 := n3_; have GE113 := n4_; clear n0_ n1_ n2_ n3_ n4_; clear hb hbox hg; have hcz24_0 : w23.cell? ⟨gb113, 0, none⟩ = some (.int .i64 0) := (blk_cell BK113.out 0).trans rfl; have hcz24_1 : w23.cell? ⟨gb113, 1, none⟩ = some (.int .i64 0) := (blk_cell BK113.out 1).trans rfl; have hcz24_2 : w23.cell? ⟨gb113, 2, none⟩ = some (.int .i64 0) := (blk_cell BK113.out 2).trans rfl; have hcz24_3 : w23.cell? ⟨gb113, 3, none⟩ = some (.int .i64 0) := (blk_cell BK113.out 3).trans rfl; have hcz24_4 : w23.cell? ⟨gb113, 4, none⟩ = some (.int .i64 0) := (blk_cell BK113.out 4).trans rfl; have hcz24_5 : w23.cell? ⟨gb113, 5, none⟩ = some (.int .i64 0) := (blk_cell BK113.out 5).trans rfl; have hfz24_0 := blk_frozen BK113.out 0; have hfz24_1 := blk_frozen BK113.out 1; have hfz24_2 := blk_frozen BK113.out 2; have hfz24_3 := blk_frozen BK113.out 3; have hfz24_4 := blk_frozen BK113.out 4; have hfz24_5 := blk_frozen BK113.out 5))
                                          have n0_ : Aside0 (Kd.R k36 36 ((((((w23.setCell ⟨gb113, 0, none⟩ (.int .i64 ((rd_T72 l1 x33_4).f0))).setCell ⟨gb113, 1, none⟩ (.int .i64 ((rd_T72 l1 x33_4).f1))).setCell ⟨gb113, 2, none⟩ (.int .i64 ((rd_T72 l1 x33_4).f2))).setCell ⟨gb113, 3, none⟩ (.int .i64 ((rd_T72 l1 x33_4).f3))).setCell ⟨gb113, 4, none⟩ (.int .i64 ((rd_T72 l1 x33_4).f4))).setCell ⟨gb113, 5, none⟩ (.int .i64 ((rd_T72 l1 x33_4).f5))) w.heap.size (fun _ => True) u5 x5_4) := ⟨by (with_reducible repeat (first | apply Kd.R_alloc | apply Kd.R_drewN | apply Kd.R_drew)); exact Kd.R_mono (Kd.R_far (p := ⟨gb113, 5, none⟩) (Kd.R_far (p := ⟨gb113, 4, none⟩) (Kd.R_far (p := ⟨gb113, 3, none⟩) (Kd.R_far (p := ⟨gb113, 2, none⟩) (Kd.R_far (p := ⟨gb113, 1, none⟩) (Kd.R_far (p := ⟨gb113, 0, none⟩) (Kd.R_types HO_5.out BK113.out (by decide)) (fun _ hk => hk.2) (.int .i64 ((rd_T72 l1 x33_4).f0))) (fun _ hk => hk.2) (.int .i64 ((rd_T72 l1 x33_4).f1))) (fun _ hk => hk.2) (.int .i64 ((rd_T72 l1 x33_4).f2))) (fun _ hk => hk.2) (.int .i64 ((rd_T72 l1 x33_4).f3))) (fun _ hk => hk.2) (.int .i64 ((rd_T72 l1 x33_4).f4))) (fun _ hk => hk.2) (.int .i64 ((rd_T72 l1 x33_4).f5))) (fun _ hk => trivial)⟩
                                          have n1_ : Aside0 (((((((w23.setCell ⟨gb113, 0, none⟩ (.int .i64 ((rd_T72 l1 x33_4).f0))).setCell ⟨gb113, 1, none⟩ (.int .i64 ((rd_T72 l1 x33_4).f1))).setCell ⟨gb113, 2, none⟩ (.int .i64 ((rd_T72 l1 x33_4).f2))).setCell ⟨gb113, 3, none⟩ (.int .i64 ((rd_T72 l1 x33_4).f3))).setCell ⟨gb113, 4, none⟩ (.int .i64 ((rd_T72 l1 x33_4).f4))).setCell ⟨gb113, 5, none⟩ (.int .i64 ((rd_T72 l1 x33_4).f5))).heap[gb113]? = some (.cells #[.int .i64 ((rd_T72 l1 x33_4).f0), .int .i64 ((rd_T72 l1 x33_4).f1), .int .i64 ((rd_T72 l1 x33_4).f2), .int .i64 ((rd_T72 l1 x33_4).f3), .int .i64 ((rd_T72 l1 x33_4).f4), .int .i64 ((rd_T72 l1 x33_4).f5)] 72 (0, 0))) := ⟨by (with_reducible repeat (first | refine blk_drewN ?_ _ | refine blk_drew ?_ | refine blk_alloc ?_ _)); refine blk_put (cs := #[.int .i64 ((rd_T72 l1 x33_4).f0), .int .i64 ((rd_T72 l1 x33_4).f1), .int .i64 ((rd_T72 l1 x33_4).f2), .int .i64 ((rd_T72 l1 x33_4).f3), .int .i64 ((rd_T72 l1 x33_4).f4), .int .i64 0]) ?_ 5 _ rfl; (with_reducible repeat (first | refine blk_drewN ?_ _ | refine blk_drew ?_ | refine blk_alloc ?_ _)); refine blk_put (cs := #[.int .i64 ((rd_T72 l1 x33_4).f0), .int .i64 ((rd_T72 l1 x33_4).f1), .int .i64 ((rd_T72 l1 x33_4).f2), .int .i64 ((rd_T72 l1 x33_4).f3), .int .i64 0, .int .i64 0]) ?_ 4 _ rfl; (with_reducible repeat (first | refine blk_drewN ?_ _ | refine blk_drew ?_ | refine blk_alloc ?_ _)); refine blk_put (cs := #[.int .i64 ((rd_T72 l1 x33_4).f0), .int .i64 ((rd_T72 l1 x33_4).f1), .int .i64 ((rd_T72 l1 x33_4).f2), .int .i64 0, .int .i64 0, .int .i64 0]) ?_ 3 _ rfl; (with_reducible repeat (first | refine blk_drewN ?_ _ | refine blk_drew ?_ | refine blk_alloc ?_ _)); refine blk_put (cs := #[.int .i64 ((rd_T72 l1 x33_4).f0), .int .i64 ((rd_T72 l1 x33_4).f1), .int .i64 0, .int .i64 0, .int .i64 0, .int .i64 0]) ?_ 2 _ rfl; (with_reducible repeat (first | refine blk_drewN ?_ _ | refine blk_drew ?_ | refine blk_alloc ?_ _)); refine blk_put (cs := #[.int .i64 ((rd_T72 l1 x33_4).f0), .int .i64 0, .int .i64 0, .int .i64 0, .int .i64 0, .int .i64 0]) ?_ 1 _ rfl; (with_reducible repeat (first | refine blk_drewN ?_ _ | refine blk_drew ?_ | refine blk_alloc ?_ _)); refine blk_put (cs := #[.int .i64 0, .int .i64 0, .int .i64 0, .int .i64 0, .int .i64 0, .int .i64 0]) ?_ 0 _ rfl; (with_reducible repeat (first | refine blk_drewN ?_ _ | refine blk_drew ?_ | refine blk_alloc ?_ _)); exact BK113.out⟩
                                          have n2_ : Aside0 (Below w.heap.size w ((((((w23.setCell ⟨gb113, 0, none⟩ (.int .i64 ((rd_T72 l1 x33_4).f0))).setCell ⟨gb113, 1, none⟩ (.int .i64 ((rd_T72 l1 x33_4).f1))).setCell ⟨gb113, 2, none⟩ (.int .i64 ((rd_T72 l1 x33_4).f2))).setCell ⟨gb113, 3, none⟩ (.int .i64 ((rd_T72 l1 x33_4).f3))).setCell ⟨gb113, 4, none⟩ (.int .i64 ((rd_T72 l1 x33_4).f4))).setCell ⟨gb113, 5, none⟩ (.int .i64 ((rd_T72 l1 x33_4).f5)))) := ⟨by repeat (first | (with_reducible first | exact HB.out | apply below_alloc | apply pw_below_drewN | apply below_drew1 | refine below_set ?_ GE113.out) | exact HB.out)⟩
                                          (try clear HO_5)
                                          (try clear BK113)
                                          (try clear HB)
                                          generalize ((((((w23.setCell ⟨gb113, 0, none⟩ (.int .i64 ((rd_T72 l1 x33_4).f0))).setCell ⟨gb113, 1, none⟩ (.int .i64 ((rd_T72 l1 x33_4).f1))).setCell ⟨gb113, 2, none⟩ (.int .i64 ((rd_T72 l1 x33_4).f2))).setCell ⟨gb113, 3, none⟩ (.int .i64 ((rd_T72 l1 x33_4).f3))).setCell ⟨gb113, 4, none⟩ (.int .i64 ((rd_T72 l1 x33_4).f4))).setCell ⟨gb113, 5, none⟩ (.int .i64 ((rd_T72 l1 x33_4).f5))) = w25 at n0_ n1_ n2_ ⊢
                                          have HO_5 := n0_
                                          have BK113 := n1_
                                          have HB := n2_
                                          clear n0_ n1_ n2_
                                          have n0_ := Aside0.mk (Kd.R_drew HO_5.out)
                                          have n1_ := Aside0.mk (blk_drew BK113.out)
                                          have n2_ := Aside0.mk (below_drew1 HB.out)
                                          clear HO_5
                                          clear BK113
                                          clear HB
                                          have HO_5 := n0_
                                          have BK113 := n1_
                                          have HB := n2_
                                          clear n0_ n1_ n2_
                                          obtain ⟨Ao27, co27, eo27⟩ := Kd.R_slice HO_5.out
                                          (first | subst eo27 | (injection eo27 with f1_ f2_ f3_; have f4_ := f1_.symm; have f5_ := f3_.symm; clear f1_ f2_ f3_; subst f4_; subst f5_))
                                          have p114 : 0 ≤ (((rd_T72 l1 x33_4).f2) : Int) := of_decide_eq_true (by first | (with_reducible assumption) | assumption)
                                          have q114 : ((rd_T72 l1 x33_4).f2) < (x5_4.length : Int) := of_decide_eq_true (by first | (with_reducible assumption) | assumption)
                                          obtain ⟨ad114, e114, hx114_0, hx114_1, hx114_2, hx114_3⟩ := at_T36 (Kd.R_reads' HO_5.out).2.2 ((rd_T72 l1 x33_4).f2) p114 q114
                                          cases e114
                                          replace p114 := eq_true p114
                                          replace q114 := eq_true q114
                                          have p115 : 0 ≤ (((rd_T72 l1 x33_4).f2) : Int) := of_decide_eq_true (by first | (with_reducible assumption) | assumption)
                                          have q115 : ((rd_T72 l1 x33_4).f2) < (l0.length : Int) := of_decide_eq_true (by first | (with_reducible assumption) | assumption)
                                          obtain ⟨ad115, e115, hx115_0⟩ := Kd.at_int HR0.out ((rd_T72 l1 x33_4).f2) p115 q115
                                          have hw115_0 := hx115_0
                                          cases e115
                                          replace hx115_0 := (HB.out.cell (World.block_lt_of_cell? w _ hx115_0)).trans hx115_0
                                          replace p115 := eq_true p115
                                          replace q115 := eq_true q115
                                          have p116 : 0 ≤ (((rd_T72 l1 x33_4).f0) : Int) := of_decide_eq_true (by first | (with_reducible assumption) | assumption)
                                          have q116 : ((rd_T72 l1 x33_4).f0) < (x5_4.length : Int) := of_decide_eq_true (by first | (with_reducible assumption) | assumption)
                                          obtain ⟨ad116, e116, hx116_0, hx116_1, hx116_2, hx116_3⟩ := at_T36 (Kd.R_reads' HO_5.out).2.2 ((rd_T72 l1 x33_4).f0) p116 q116
                                          obtain rfl : ad114 = ad116 := (by injection e116)
                                          replace p116 := eq_true p116
                                          replace q116 := eq_true q116
                                          have p117 : 0 ≤ (((rd_T72 l1 x33_4).f0) : Int) := of_decide_eq_true (by first | (with_reducible assumption) | assumption)
                                          have q117 : ((rd_T72 l1 x33_4).f0) < (l0.length : Int) := of_decide_eq_true (by first | (with_reducible assumption) | assumption)
                                          obtain ⟨ad117, e117, hx117_0⟩ := Kd.at_int HR0.out ((rd_T72 l1 x33_4).f0) p117 q117
                                          have hw117_0 := hx117_0
                                          obtain rfl : ad115 = ad117 := (by injection e117)
                                          replace hx117_0 := (HB.out.cell (World.block_lt_of_cell? w _ hx117_0)).trans hx117_0
                                          replace p117 := eq_true p117
                                          replace q117 := eq_true q117
                                          refine start_ (n := 30) (S := fun w' => w'.cell? ⟨gb113, 0, none⟩ = some (.int .i64 ((rd_T72 l1 x33_4).f0)) ∧ w'.cell? ⟨gb113, 1, none⟩ = some (.int .i64 ((rd_T72 l1 x33_4).f1)) ∧ w'.cell? ⟨gb113, 2, none⟩ = some (.int .i64 ((rd_T72 l1 x33_4).f2)) ∧ w'.cell? ⟨gb113, 3, none⟩ = some (.int .i64 ((rd_T72 l1 x33_4).f3)) ∧ w'.cell? ⟨gb113, 4, none⟩ = some (.int .i64 ((rd_T72 l1 x33_4).f4)) ∧ w'.cell? ⟨gb113, 5, none⟩ = some (.int .i64 ((rd_T72 l1 x33_4).f5)) ∧ w'.cell? (ad114.add ((((rd_T72 l1 x33_4).f2)).toNat * 4)) = some (.int .i64 ((rd_T36 x5_4 ((rd_T72 l1 x33_4).f2)).f0)) ∧ w'.cell? ⟨(ad114.add ((((rd_T72 l1 x33_4).f2)).toNat * 4)).block, (ad114.add ((((rd_T72 l1 x33_4).f2)).toNat * 4)).off + 1, none⟩ = some (.int .i64 ((rd_T36 x5_4 ((rd_T72 l1 x33_4).f2)).f1)) ∧ w'.cell? ⟨(ad114.add ((((rd_T72 l1 x33_4).f2)).toNat * 4)).block, (ad114.add ((((rd_T72 l1 x33_4).f2)).toNat * 4)).off + 2, none⟩ = some (.int .i64 ((rd_T36 x5_4 ((rd_T72 l1 x33_4).f2)).f2)) ∧ w'.cell? ⟨(ad114.add ((((rd_T72 l1 x33_4).f2)).toNat * 4)).block, (ad114.add ((((rd_T72 l1 x33_4).f2)).toNat * 4)).off + 3, none⟩ = some (.int .i64 ((rd_T36 x5_4 ((rd_T72 l1 x33_4).f2)).f3)) ∧ w'.cell? (ad115.add (((rd_T72 l1 x33_4).f2)).toNat) = some (.int .i64 (rd l0 ((rd_T72 l1 x33_4).f2))) ∧ w'.cell? (ad114.add ((((rd_T72 l1 x33_4).f0)).toNat * 4)) = some (.int .i64 ((rd_T36 x5_4 ((rd_T72 l1 x33_4).f0)).f0)) ∧ w'.cell? ⟨(ad114.add ((((rd_T72 l1 x33_4).f0)).toNat * 4)).block, (ad114.add ((((rd_T72 l1 x33_4).f0)).toNat * 4)).off + 1, none⟩ = some (.int .i64 ((rd_T36 x5_4 ((rd_T72 l1 x33_4).f0)).f1)) ∧ w'.cell? ⟨(ad114.add ((((rd_T72 l1 x33_4).f0)).toNat * 4)).block, (ad114.add ((((rd_T72 l1 x33_4).f0)).toNat * 4)).off + 2, none⟩ = some (.int .i64 ((rd_T36 x5_4 ((rd_T72 l1 x33_4).f0)).f2)) ∧ w'.cell? ⟨(ad114.add ((((rd_T72 l1 x33_4).f0)).toNat * 4)).block, (ad114.add ((((rd_T72 l1 x33_4).f0)).toNat * 4)).off + 3, none⟩ = some (.int .i64 ((rd_T36 x5_4 ((rd_T72 l1 x33_4).f0)).f3)) ∧ w'.cell? (ad115.add (((rd_T72 l1 x33_4).f0)).toNat) = some (.int .i64 (rd l0 ((rd_T72 l1 x33_4).f0)))) (ds := [29]) #[false, false, false, false, false, false, false, false, false, false, false, false, false, false, false, false, false, false, false, false, false, false, false, false, false, false, false, false, false, false] (by kernel_rfl) rfl rfl ⟨(blk_cell BK113.out 0).trans rfl, (blk_cell BK113.out 1).trans rfl, (blk_cell BK113.out 2).trans rfl, (blk_cell BK113.out 3).trans rfl, (blk_cell BK113.out 4).trans rfl, (blk_cell BK113.out 5).trans rfl, hx114_0, hx114_1, hx114_2, hx114_3, ((HB.out.cell (World.block_lt_of_cell? w _ hw115_0)).trans hw115_0), hx116_0, hx116_1, hx116_2, hx116_3, ((HB.out.cell (World.block_lt_of_cell? w _ hw117_0)).trans hw117_0)⟩ (fun hHeld => ?_); refine with_tabW kissgateref12_Hold.tab14 kissgateref12_Hold.bits14 (fun HT_ HW_ => ?_)
                                          generalize w25.drew = w26 at HO_5 BK113 HB hx114_0 hx114_1 hx114_2 hx114_3 hx115_0 hx116_0 hx116_1 hx116_2 hx116_3 hx117_0 hHeld ⊢
                                          refine pure_ (i := 0) (N := some 37) (v := ?_) (a' := ?_) #[true, false, false, false, false, false, false, false, false, false, false, false, false, false, false, false, false, false, false, false, false, false, false, false, false, false, false, false, false, false] rfl rfl (any_of HT_.out (by kernel_rfl)) (fun _ _ _ h => h) (Or.inl ⟨by rfl, ?_⟩) ?_ ?_
                                          rotate_left
                                          · intro w'
                                            go_simp
                                            with_reducible rfl
                                          rotate_left
                                          · simp only [Act.put, List.setIfInBounds_toArray, List.set_cons_zero, List.set_cons_succ, i64_w, i32_w]
                                            rfl
                                          refine pure_ (i := 1) (N := some 38) (v := ?_) (a' := ?_) #[true, true, false, false, false, false, false, false, false, false, false, false, false, false, false, false, false, false, false, false, false, false, false, false, false, false, false, false, false, false] rfl rfl (any_of HT_.out (by kernel_rfl)) (fun _ _ _ h => h) (Or.inl ⟨by rfl, ?_⟩) ?_ ?_
                                          rotate_left
                                          · intro w'
                                            go_simp
                                            with_reducible rfl
                                          rotate_left
                                          · simp only [Act.put, List.setIfInBounds_toArray, List.set_cons_zero, List.set_cons_succ, i64_w, i32_w]
                                            rfl
                                          refine pure_ (i := 3) (N := some 40) (v := ?_) (a' := ?_) #[true, true, false, true, false, false, false, false, false, false, false, false, false, false, false, false, false, false, false, false, false, false, false, false, false, false, false, false, false, false] rfl rfl (any_of HT_.out (by kernel_rfl)) (fun _ _ _ h => h) (Or.inl ⟨by rfl, ?_⟩) ?_ ?_
                                          rotate_left
                                          · intro w'
                                            go_simp
                                            with_reducible rfl
                                          rotate_left
                                          · simp only [Act.put, List.setIfInBounds_toArray, List.set_cons_zero, List.set_cons_succ, i64_w, i32_w]
                                            rfl
                                          refine pure_ (i := 4) (N := some 41) (v := ?_) (a' := ?_) #[true, true, false, true, true, false, false, false, false, false, false, false, false, false, false, false, false, false, false, false, false, false, false, false, false, false, false, false, false, false] rfl rfl (any_of HT_.out (by kernel_rfl)) (fun _ _ _ h => h) (Or.inl ⟨by rfl, ?_⟩) ?_ ?_
                                          rotate_left
                                          · intro w'
                                            go_simp
                                            with_reducible rfl
                                          rotate_left
                                          · simp only [Act.put, List.setIfInBounds_toArray, List.set_cons_zero, List.set_cons_succ, i64_w, i32_w]
                                            rfl
                                          refine pure_ (i := 8) (N := some 45) (v := ?_) (a' := ?_) #[true, true, false, true, true, false, false, false, true, false, false, false, false, false, false, false, false, false, false, false, false, false, false, false, false, false, false, false, false, false] rfl rfl (any_of HT_.out (by kernel_rfl)) (fun _ _ _ h => h) (Or.inl ⟨by rfl, ?_⟩) ?_ ?_
                                          rotate_left
                                          · intro w'
                                            go_simp
                                            with_reducible rfl
                                          rotate_left
                                          · simp only [Act.put, List.setIfInBounds_toArray, List.set_cons_zero, List.set_cons_succ, i64_w, i32_w]
                                            rfl
                                          refine pure_ (i := 9) (N := some 46) (v := ?_) (a' := ?_) #[true, true, false, true, true, false, false, false, true, true, false, false, false, false, false, false, false, false, false, false, false, false, false, false, false, false, false, false, false, false] rfl rfl (any_of HT_.out (by kernel_rfl)) (fun _ _ _ h => h) (Or.inl ⟨by rfl, ?_⟩) ?_ ?_
                                          rotate_left
                                          · intro w'
                                            go_simp
                                            with_reducible rfl
                                          rotate_left
                                          · simp only [Act.put, List.setIfInBounds_toArray, List.set_cons_zero, List.set_cons_succ, i64_w, i32_w]
                                            rfl
                                          refine pure_ (i := 13) (N := some 50) (v := ?_) (a' := ?_) #[true, true, false, true, true, false, false, false, true, true, false, false, false, true, false, false, false, false, false, false, false, false, false, false, false, false, false, false, false, false] rfl rfl (any_of HT_.out (by kernel_rfl)) (fun _ _ _ h => h) (Or.inl ⟨by rfl, ?_⟩) ?_ ?_
                                          rotate_left
                                          · intro w'
                                            go_simp
                                            with_reducible rfl
                                          rotate_left
                                          · simp only [Act.put, List.setIfInBounds_toArray, List.set_cons_zero, List.set_cons_succ, i64_w, i32_w]
                                            rfl
                                          refine pure_ (i := 14) (N := some 51) (v := ?_) (a' := ?_) #[true, true, false, true, true, false, false, false, true, true, false, false, false, true, true, false, false, false, false, false, false, false, false, false, false, false, false, false, false, false] rfl rfl (any_of HT_.out (by kernel_rfl)) (fun _ _ _ h => h) (Or.inl ⟨by rfl, ?_⟩) ?_ ?_
                                          rotate_left
                                          · intro w'
                                            go_simp
                                            with_reducible rfl
                                          rotate_left
                                          · simp only [Act.put, List.setIfInBounds_toArray, List.set_cons_zero, List.set_cons_succ, i64_w, i32_w]
                                            rfl
                                          refine pure_ (i := 18) (N := some 55) (v := ?_) (a' := ?_) #[true, true, false, true, true, false, false, false, true, true, false, false, false, true, true, false, false, false, true, false, false, false, false, false, false, false, false, false, false, false] rfl rfl (any_of HT_.out (by kernel_rfl)) (fun _ _ _ h => h) (Or.inl ⟨by rfl, ?_⟩) ?_ ?_
                                          rotate_left
                                          · intro w'
                                            go_simp
                                            with_reducible rfl
                                          rotate_left
                                          · simp only [Act.put, List.setIfInBounds_toArray, List.set_cons_zero, List.set_cons_succ, i64_w, i32_w]
                                            rfl
                                          refine pure_ (i := 19) (N := some 56) (v := ?_) (a' := ?_) #[true, true, false, true, true, false, false, false, true, true, false, false, false, true, true, false, false, false, true, true, false, false, false, false, false, false, false, false, false, false] rfl rfl (any_of HT_.out (by kernel_rfl)) (fun _ _ _ h => h) (Or.inl ⟨by rfl, ?_⟩) ?_ ?_
                                          rotate_left
                                          · intro w'
                                            go_simp
                                            with_reducible rfl
                                          rotate_left
                                          · simp only [Act.put, List.setIfInBounds_toArray, List.set_cons_zero, List.set_cons_succ, i64_w, i32_w]
                                            rfl
                                          refine pure_ (i := 23) (N := some 60) (v := ?_) (a' := ?_) #[true, true, false, true, true, false, false, false, true, true, false, false, false, true, true, false, false, false, true, true, false, false, false, true, false, false, false, false, false, false] rfl rfl (any_of HT_.out (by kernel_rfl)) (fun _ _ _ h => h) (Or.inl ⟨by rfl, ?_⟩) ?_ ?_
                                          rotate_left
                                          · intro w'
                                            go_simp
                                            with_reducible rfl
                                          rotate_left
                                          · simp only [Act.put, List.setIfInBounds_toArray, List.set_cons_zero, List.set_cons_succ, i64_w, i32_w]
                                            rfl
                                          refine pure_ (i := 25) (N := some 62) (v := ?_) (a' := ?_) #[true, true, false, true, true, false, false, false, true, true, false, false, false, true, true, false, false, false, true, true, false, false, false, true, false, true, false, false, false, false] rfl rfl (any_of HT_.out (by kernel_rfl)) (fun _ _ _ h => h) (Or.inl ⟨by rfl, ?_⟩) ?_ ?_
                                          rotate_left
                                          · intro w'
                                            go_simp
                                            with_reducible rfl
                                          rotate_left
                                          · simp only [Act.put, List.setIfInBounds_toArray, List.set_cons_zero, List.set_cons_succ, i64_w, i32_w]
                                            rfl
                                          refine take_ (i := 2) (N := some 39) (v := ?_) (a' := ?_) #[true, true, true, true, true, false, false, false, true, true, false, false, false, true, true, false, false, false, true, true, false, false, false, true, false, true, false, false, false, false] rfl rfl (take_ofW HT_.out HW_.out (by kernel_rfl)) (fun _ _ _ h => h) (Or.inl ⟨by rfl, ?_⟩) hHeld ?_ ?_
                                          rotate_left
                                          · rintro w' ⟨s0, s1, s2, s3, s4, s5, s6, s7, s8, s9, s10, s11, s12, s13, s14, s15⟩
                                            go_simp
                                            with_reducible rfl
                                          rotate_left
                                          · simp only [Act.put, List.setIfInBounds_toArray, List.set_cons_zero, List.set_cons_succ, i64_w, i32_w]
                                            rfl
                                          refine take_ (i := 5) (N := some 42) (v := ?_) (a' := ?_) #[true, true, true, true, true, true, false, false, true, true, false, false, false, true, true, false, false, false, true, true, false, false, false, true, false, true, false, false, false, false] rfl rfl (take_ofW HT_.out HW_.out (by kernel_rfl)) (fun _ _ _ h => h) (Or.inl ⟨by rfl, ?_⟩) hHeld ?_ ?_
                                          rotate_left
                                          · rintro w' ⟨s0, s1, s2, s3, s4, s5, s6, s7, s8, s9, s10, s11, s12, s13, s14, s15⟩
                                            go_simp
                                            with_reducible rfl
                                          rotate_left
                                          · simp only [Act.put, List.setIfInBounds_toArray, List.set_cons_zero, List.set_cons_succ, i64_w, i32_w]
                                            rfl
                                          refine pure_ (i := 6) (N := some 43) (v := ?_) (a' := ?_) #[true, true, true, true, true, true, true, false, true, true, false, false, false, true, true, false, false, false, true, true, false, false, false, true, false, true, false, false, false, false] rfl rfl (any_of HT_.out (by kernel_rfl)) (fun _ _ _ h => h) (Or.inl ⟨by rfl, ?_⟩) ?_ ?_
                                          rotate_left
                                          · intro w'
                                            go_simp
                                            with_reducible rfl
                                          rotate_left
                                          · simp only [Act.put, List.setIfInBounds_toArray, List.set_cons_zero, List.set_cons_succ, i64_w, i32_w]
                                            rfl
                                          refine take_ (i := 7) (N := some 44) (v := ?_) (a' := ?_) #[true, true, true, true, true, true, true, true, true, true, false, false, false, true, true, false, false, false, true, true, false, false, false, true, false, true, false, false, false, false] rfl rfl (take_ofW HT_.out HW_.out (by kernel_rfl)) (fun _ _ _ h => h) (Or.inl ⟨by rfl, ?_⟩) hHeld ?_ ?_
                                          rotate_left
                                          · rintro w' ⟨s0, s1, s2, s3, s4, s5, s6, s7, s8, s9, s10, s11, s12, s13, s14, s15⟩
                                            go_simp
                                            with_reducible rfl
                                          rotate_left
                                          · simp only [Act.put, List.setIfInBounds_toArray, List.set_cons_zero, List.set_cons_succ, i64_w, i32_w]
                                            rfl
                                          refine take_ (i := 10) (N := some 47) (v := ?_) (a' := ?_) #[true, true, true, true, true, true, true, true, true, true, true, false, false, true, true, false, false, false, true, true, false, false, false, true, false, true, false, false, false, false] rfl rfl (take_ofW HT_.out HW_.out (by kernel_rfl)) (fun _ _ _ h => h) (Or.inl ⟨by rfl, ?_⟩) hHeld ?_ ?_
                                          rotate_left
                                          · rintro w' ⟨s0, s1, s2, s3, s4, s5, s6, s7, s8, s9, s10, s11, s12, s13, s14, s15⟩
                                            go_simp
                                            with_reducible rfl
                                          rotate_left
                                          · simp only [Act.put, List.setIfInBounds_toArray, List.set_cons_zero, List.set_cons_succ, i64_w, i32_w]
                                            rfl
                                          refine pure_ (i := 11) (N := some 48) (v := ?_) (a' := ?_) #[true, true, true, true, true, true, true, true, true, true, true, true, false, true, true, false, false, false, true, true, false, false, false, true, false, true, false, false, false, false] rfl rfl (any_of HT_.out (by kernel_rfl)) (fun _ _ _ h => h) (Or.inl ⟨by rfl, ?_⟩) ?_ ?_
                                          rotate_left
                                          · intro w'
                                            go_simp
                                            with_reducible rfl
                                          rotate_left
                                          · simp only [Act.put, List.setIfInBounds_toArray, List.set_cons_zero, List.set_cons_succ, i64_w, i32_w]
                                            rfl
                                          refine take_ (i := 12) (N := some 49) (v := ?_) (a' := ?_) #[true, true, true, true, true, true, true, true, true, true, true, true, true, true, true, false, false, false, true, true, false, false, false, true, false, true, false, false, false, false] rfl rfl (take_ofW HT_.out HW_.out (by kernel_rfl)) (fun _ _ _ h => h) (Or.inl ⟨by rfl, ?_⟩) hHeld ?_ ?_
                                          rotate_left
                                          · rintro w' ⟨s0, s1, s2, s3, s4, s5, s6, s7, s8, s9, s10, s11, s12, s13, s14, s15⟩
                                            go_simp
                                            with_reducible rfl
                                          rotate_left
                                          · simp only [Act.put, List.setIfInBounds_toArray, List.set_cons_zero, List.set_cons_succ, i64_w, i32_w]
                                            rfl
                                          refine take_ (i := 15) (N := some 52) (v := ?_) (a' := ?_) #[true, true, true, true, true, true, true, true, true, true, true, true, true, true, true, true, false, false, true, true, false, false, false, true, false, true, false, false, false, false] rfl rfl (take_ofW HT_.out HW_.out (by kernel_rfl)) (fun _ _ _ h => h) (Or.inl ⟨by rfl, ?_⟩) hHeld ?_ ?_
                                          rotate_left
                                          · rintro w' ⟨s0, s1, s2, s3, s4, s5, s6, s7, s8, s9, s10, s11, s12, s13, s14, s15⟩
                                            go_simp
                                            with_reducible rfl
                                          rotate_left
                                          · simp only [Act.put, List.setIfInBounds_toArray, List.set_cons_zero, List.set_cons_succ, i64_w, i32_w]
                                            rfl
                                          refine pure_ (i := 16) (N := some 53) (v := ?_) (a' := ?_) #[true, true, true, true, true, true, true, true, true, true, true, true, true, true, true, true, true, false, true, true, false, false, false, true, false, true, false, false, false, false] rfl rfl (any_of HT_.out (by kernel_rfl)) (fun _ _ _ h => h) (Or.inl ⟨by rfl, ?_⟩) ?_ ?_
                                          rotate_left
                                          · intro w'
                                            go_simp
                                            with_reducible rfl
                                          rotate_left
                                          · simp only [Act.put, List.setIfInBounds_toArray, List.set_cons_zero, List.set_cons_succ, i64_w, i32_w]
                                            rfl
                                          refine take_ (i := 17) (N := some 54) (v := ?_) (a' := ?_) #[true, true, true, true, true, true, true, true, true, true, true, true, true, true, true, true, true, true, true, true, false, false, false, true, false, true, false, false, false, false] rfl rfl (take_ofW HT_.out HW_.out (by kernel_rfl)) (fun _ _ _ h => h) (Or.inl ⟨by rfl, ?_⟩) hHeld ?_ ?_
                                          rotate_left
                                          · rintro w' ⟨s0, s1, s2, s3, s4, s5, s6, s7, s8, s9, s10, s11, s12, s13, s14, s15⟩
                                            go_simp
                                            with_reducible rfl
                                          rotate_left
                                          · simp only [Act.put, List.setIfInBounds_toArray, List.set_cons_zero, List.set_cons_succ, i64_w, i32_w]
                                            rfl
                                          refine take_ (i := 20) (N := some 57) (v := ?_) (a' := ?_) #[true, true, true, true, true, true, true, true, true, true, true, true, true, true, true, true, true, true, true, true, true, false, false, true, false, true, false, false, false, false] rfl rfl (take_ofW HT_.out HW_.out (by kernel_rfl)) (fun _ _ _ h => h) (Or.inl ⟨by rfl, ?_⟩) hHeld ?_ ?_
                                          rotate_left
                                          · rintro w' ⟨s0, s1, s2, s3, s4, s5, s6, s7, s8, s9, s10, s11, s12, s13, s14, s15⟩
                                            go_simp
                                            with_reducible rfl
                                          rotate_left
                                          · simp only [Act.put, List.setIfInBounds_toArray, List.set_cons_zero, List.set_cons_succ, i64_w, i32_w]
                                            rfl
                                          refine pure_ (i := 21) (N := some 58) (v := ?_) (a' := ?_) #[true, true, true, true, true, true, true, true, true, true, true, true, true, true, true, true, true, true, true, true, true, true, false, true, false, true, false, false, false, false] rfl rfl (any_of HT_.out (by kernel_rfl)) (fun _ _ _ h => h) (Or.inl ⟨by rfl, ?_⟩) ?_ ?_
                                          rotate_left
                                          · intro w'
                                            go_simp
                                            with_reducible rfl
                                          rotate_left
                                          · simp only [Act.put, List.setIfInBounds_toArray, List.set_cons_zero, List.set_cons_succ, i64_w, i32_w]
                                            rfl
                                          refine take_ (i := 22) (N := some 59) (v := ?_) (a' := ?_) #[true, true, true, true, true, true, true, true, true, true, true, true, true, true, true, true, true, true, true, true, true, true, true, true, false, true, false, false, false, false] rfl rfl (take_ofW HT_.out HW_.out (by kernel_rfl)) (fun _ _ _ h => h) (Or.inl ⟨by rfl, ?_⟩) hHeld ?_ ?_
                                          rotate_left
                                          · rintro w' ⟨s0, s1, s2, s3, s4, s5, s6, s7, s8, s9, s10, s11, s12, s13, s14, s15⟩
                                            go_simp
                                            with_reducible rfl
                                          rotate_left
                                          · simp only [Act.put, List.setIfInBounds_toArray, List.set_cons_zero, List.set_cons_succ, i64_w, i32_w]
                                            rfl
                                          refine take_ (i := 24) (N := some 61) (v := ?_) (a' := ?_) #[true, true, true, true, true, true, true, true, true, true, true, true, true, true, true, true, true, true, true, true, true, true, true, true, true, true, false, false, false, false] rfl rfl (take_ofW HT_.out HW_.out (by kernel_rfl)) (fun _ _ _ h => h) (Or.inl ⟨by rfl, ?_⟩) hHeld ?_ ?_
                                          rotate_left
                                          · rintro w' ⟨s0, s1, s2, s3, s4, s5, s6, s7, s8, s9, s10, s11, s12, s13, s14, s15⟩
                                            go_simp
                                            with_reducible rfl
                                          rotate_left
                                          · simp only [Act.put, List.setIfInBounds_toArray, List.set_cons_zero, List.set_cons_succ, i64_w, i32_w]
                                            rfl
                                          refine take_ (i := 26) (N := some 63) (v := ?_) (a' := ?_) #[true, true, true, true, true, true, true, true, true, true, true, true, true, true, true, true, true, true, true, true, true, true, true, true, true, true, true, false, false, false] rfl rfl (take_ofW HT_.out HW_.out (by kernel_rfl)) (fun _ _ _ h => h) (Or.inl ⟨by rfl, ?_⟩) hHeld ?_ ?_
                                          rotate_left
                                          · rintro w' ⟨s0, s1, s2, s3, s4, s5, s6, s7, s8, s9, s10, s11, s12, s13, s14, s15⟩
                                            go_simp
                                            with_reducible rfl
                                          rotate_left
                                          · simp only [Act.put, List.setIfInBounds_toArray, List.set_cons_zero, List.set_cons_succ, i64_w, i32_w]
                                            rfl
                                          refine one_ (i := 27) (N := some 64) #[true, true, true, true, true, true, true, true, true, true, true, true, true, true, true, true, true, true, true, true, true, true, true, true, true, true, true, true, false, false] rfl rfl (one_of HT_.out (by kernel_rfl)) (by decide) (fun K hK => ?_)
                                          refine goes_ Tryd.func47 (by kernel_rfl) rfl #[.agg #[.int .i64 ((rd_T36 x5_4 ((rd_T72 l1 x33_4).f2)).f0), .int .i64 ((rd_T36 x5_4 ((rd_T72 l1 x33_4).f2)).f1), .int .i64 ((rd_T36 x5_4 ((rd_T72 l1 x33_4).f2)).f2), .int .i64 ((rd_T36 x5_4 ((rd_T72 l1 x33_4).f2)).f3)], .int .i64 (rd l0 ((rd_T72 l1 x33_4).f2)), .agg #[.int .i64 ((rd_T36 x5_4 ((rd_T72 l1 x33_4).f0)).f0), .int .i64 ((rd_T36 x5_4 ((rd_T72 l1 x33_4).f0)).f1), .int .i64 ((rd_T36 x5_4 ((rd_T72 l1 x33_4).f0)).f2), .int .i64 ((rd_T36 x5_4 ((rd_T72 l1 x33_4).f0)).f3)], .int .i64 (rd l0 ((rd_T72 l1 x33_4).f0)), .int .i64 ((rd_T72 l1 x33_4).f1), .int .i64 ((rd_T72 l1 x33_4).f5)] (by rfl) rfl rfl (by (try simp only [List.map_toArray, List.map_cons, List.map_nil]); first | done | rfl | (simp only [List.length_drop, List.length_take]; rfl)) ?_
                                          with_reducible refine (kissgateref12_better.calls ((rd_T36 x5_4 ((rd_T72 l1 x33_4).f2)).f0) ((rd_T36 x5_4 ((rd_T72 l1 x33_4).f2)).f1) ((rd_T36 x5_4 ((rd_T72 l1 x33_4).f2)).f2) ((rd_T36 x5_4 ((rd_T72 l1 x33_4).f2)).f3) (rd l0 ((rd_T72 l1 x33_4).f2)) ((rd_T36 x5_4 ((rd_T72 l1 x33_4).f0)).f0) ((rd_T36 x5_4 ((rd_T72 l1 x33_4).f0)).f1) ((rd_T36 x5_4 ((rd_T72 l1 x33_4).f0)).f2) ((rd_T36 x5_4 ((rd_T72 l1 x33_4).f0)).f3) (rd l0 ((rd_T72 l1 x33_4).f0)) ((rd_T72 l1 x33_4).f1) ((rd_T72 l1 x33_4).f5) t118 t119 t120 t121 _ A19.out).mono ?_
                                          rintro e w28 ⟨rfl, hb⟩
                                          have HS6_ := (hb.cell (World.block_lt_of_cell? _ _ (hHeld.2.2.2.2.2.2.1))).trans (hHeld.2.2.2.2.2.2.1)
                                          have HS7_ := (hb.cell (World.block_lt_of_cell? _ _ (hHeld.2.2.2.2.2.2.2.1))).trans (hHeld.2.2.2.2.2.2.2.1)
                                          have HS8_ := (hb.cell (World.block_lt_of_cell? _ _ (hHeld.2.2.2.2.2.2.2.2.1))).trans (hHeld.2.2.2.2.2.2.2.2.1)
                                          have HS9_ := (hb.cell (World.block_lt_of_cell? _ _ (hHeld.2.2.2.2.2.2.2.2.2.1))).trans (hHeld.2.2.2.2.2.2.2.2.2.1)
                                          have HS11_ := (hb.cell (World.block_lt_of_cell? _ _ (hHeld.2.2.2.2.2.2.2.2.2.2.2.1))).trans (hHeld.2.2.2.2.2.2.2.2.2.2.2.1)
                                          have HS12_ := (hb.cell (World.block_lt_of_cell? _ _ (hHeld.2.2.2.2.2.2.2.2.2.2.2.2.1))).trans (hHeld.2.2.2.2.2.2.2.2.2.2.2.2.1)
                                          have HS13_ := (hb.cell (World.block_lt_of_cell? _ _ (hHeld.2.2.2.2.2.2.2.2.2.2.2.2.2.1))).trans (hHeld.2.2.2.2.2.2.2.2.2.2.2.2.2.1)
                                          have HS14_ := (hb.cell (World.block_lt_of_cell? _ _ (hHeld.2.2.2.2.2.2.2.2.2.2.2.2.2.2.1))).trans (hHeld.2.2.2.2.2.2.2.2.2.2.2.2.2.2.1)
                                          refine ⟨_, rfl, ?_⟩
                                          have n0_ := Aside0.mk (Kd.R_below (by (with_reducible repeat (first | apply Kd.R_alloc | apply Kd.R_drewN | apply Kd.R_drew)); exact HO_5.out) hb)
                                          have n1_ := Aside0.mk (blk_below (g := gb113) (o := .cells #[.int .i64 ((rd_T72 l1 x33_4).f0), .int .i64 ((rd_T72 l1 x33_4).f1), .int .i64 ((rd_T72 l1 x33_4).f2), .int .i64 ((rd_T72 l1 x33_4).f3), .int .i64 ((rd_T72 l1 x33_4).f4), .int .i64 ((rd_T72 l1 x33_4).f5)] 72 (0, 0)) (by (with_reducible repeat (first | refine blk_drewN ?_ _ | refine blk_drew ?_ | refine blk_alloc ?_ _)); exact BK113.out) hb)
                                          have n2_ := Aside0.mk (below_step (by repeat (first | (with_reducible first | exact HB.out | apply below_alloc | apply pw_below_drewN | apply below_drew1 | refine below_set ?_ GE113.out) | exact HB.out)) hb)
                                          clear HO_5
                                          clear BK113
                                          clear HB
                                          have HO_5 := n0_
                                          have BK113 := n1_
                                          have HB := n2_
                                          clear n0_ n1_ n2_
                                          (try clear hb)
                                          (try clear hb2)
                                          (try clear hk)
                                          (try clear hi)
                                          have p20 : 0 ≤ (((rd_T72 l1 x33_4).f2) : Int) := of_decide_eq_true (by first | (with_reducible assumption) | assumption)
                                          have q20 : (((rd_T72 l1 x33_4).f2) : Int) < ((x5_4.length : Int) : Int) := of_decide_eq_true (by first | (with_reducible assumption) | assumption)
                                          obtain ⟨go20, co20, eo20, gb20, gl20, cl20, HG20⟩ := Kd.R_form HO_5.out (by omega)
                                          (first | cases eo20 | (injection eo20 with ea_ en_ ec_; (first | subst ea_ | (injection ea_ with ea_; subst ea_)); subst ec_; clear en_))
                                          have GB20 := Aside0.mk gb20
                                          have GG20 := Aside0.mk HG20
                                          clear gb20 gl20 HG20
                                          (first | simp only [add_plain] at hx114_0 | skip)
                                          (first | simp only [add_plain] at hx114_1 | skip)
                                          (first | simp only [add_plain] at hx114_2 | skip)
                                          (first | simp only [add_plain] at hx114_3 | skip)
                                          (first | simp only [add_plain] at hx116_0 | skip)
                                          (first | simp only [add_plain] at hx116_1 | skip)
                                          (first | simp only [add_plain] at hx116_2 | skip)
                                          (first | simp only [add_plain] at hx116_3 | skip)
                                          obtain ⟨ce20, hcl20, hM20, hcc20, hfr20⟩ := Kd.R_elem HO_5.out z36 (((rd_T72 l1 x33_4).f2) : Int) p20 q20
                                          obtain rfl := k36_openM hM20
                                          have hx20_0 : World.cell? _ ⟨go20, (((rd_T72 l1 x33_4).f2) : Int).toNat * 4, none⟩ = some (.int .i64 ((rd_T36 x5_4 ((rd_T72 l1 x33_4).f2)).f0)) := hcc20 0 _ rfl
                                          have hx20_1 : World.cell? _ ⟨go20, (((rd_T72 l1 x33_4).f2) : Int).toNat * 4 + 1, none⟩ = some (.int .i64 ((rd_T36 x5_4 ((rd_T72 l1 x33_4).f2)).f1)) := hcc20 1 _ rfl
                                          have hx20_2 : World.cell? _ ⟨go20, (((rd_T72 l1 x33_4).f2) : Int).toNat * 4 + 2, none⟩ = some (.int .i64 ((rd_T36 x5_4 ((rd_T72 l1 x33_4).f2)).f2)) := hcc20 2 _ rfl
                                          have hx20_3 : World.cell? _ ⟨go20, (((rd_T72 l1 x33_4).f2) : Int).toNat * 4 + 3, none⟩ = some (.int .i64 ((rd_T36 x5_4 ((rd_T72 l1 x33_4).f2)).f3)) := hcc20 3 _ rfl
                                          have hf20_0 : World.frozen? _ ⟨go20, (((rd_T72 l1 x33_4).f2) : Int).toNat * 4, none⟩ = false := hfr20 0
                                          have hf20_1 : World.frozen? _ ⟨go20, (((rd_T72 l1 x33_4).f2) : Int).toNat * 4 + 1, none⟩ = false := hfr20 1
                                          have hf20_2 : World.frozen? _ ⟨go20, (((rd_T72 l1 x33_4).f2) : Int).toNat * 4 + 2, none⟩ = false := hfr20 2
                                          have hf20_3 : World.frozen? _ ⟨go20, (((rd_T72 l1 x33_4).f2) : Int).toNat * 4 + 3, none⟩ = false := hfr20 3
                                          clear hcl20 hcc20 hfr20 hM20
                                          replace p20 := eq_true p20
                                          replace q20 := eq_true q20
                                          obtain ⟨ce29, hcl29, hM29, hcc29, hfr29⟩ := Kd.R_elem HO_5.out z36 (((rd_T72 l1 x33_4).f2) : Int) (of_decide_eq_true (by first | (with_reducible assumption) | assumption)) (by have h_ : (((rd_T72 l1 x33_4).f2) : Int) < ((x5_4.length : Int) : Int) := of_decide_eq_true (by first | (with_reducible assumption) | assumption); first | exact h_ | (have e_ := (Kd.R_reads' HO_5.out).1; omega) | simpa using h_)
                                          obtain rfl := k36_openM hM29
                                          have HP29 := (Kd.R_seg HO_5.out (((rd_T72 l1 x33_4).f2) : Int) (of_decide_eq_true (by first | (with_reducible assumption) | assumption)) (by have h_ : (((rd_T72 l1 x33_4).f2) : Int) < ((x5_4.length : Int) : Int) := of_decide_eq_true (by first | (with_reducible assumption) | assumption); first | exact h_ | (have e_ := (Kd.R_reads' HO_5.out).1; omega) | simpa using h_) (seg := [.int .i64 t118, .int .i64 t119, .int .i64 t120, .int .i64 t121]) (j := 0) hcl29 hcc29 (show 4 ≤ 4 from by decide) (x' := (⟨t118, t119, t120, t121⟩ : S36)) (k36_mkM _ _ _ (⟨t118, t119, t120, t121⟩ : S36) ) (fun _ hk => hk)).1
                                          rw [← Ny122.out] at HP29
                                          have HQ29 := Aside0.mk HP29
                                          clear hcl29 hcc29 hfr29 hM29 HP29
                                          refine hK.out _ _ ⟨(blk_cell BK113.out 0).trans rfl, (blk_cell BK113.out 1).trans rfl, (blk_cell BK113.out 2).trans rfl, (blk_cell BK113.out 3).trans rfl, (blk_cell BK113.out 4).trans rfl, (blk_cell BK113.out 5).trans rfl, HS6_, HS7_, HS8_, HS9_, ((HB.out.cell (World.block_lt_of_cell? w _ hw115_0)).trans hw115_0), HS11_, HS12_, HS13_, HS14_, ((HB.out.cell (World.block_lt_of_cell? w _ hw117_0)).trans hw117_0)⟩ (fun hHeld => ?_)
                                          clear hK K
                                          refine norm_ (a' := ?_) ?_ ?_
                                          rotate_left
                                          · show Act.put _ (some 64) _ = _
                                            simp only [Act.put, List.setIfInBounds_toArray, List.set_cons_zero, List.set_cons_succ, i64_w, i32_w]
                                            rfl
                                          refine pure_ (i := 28) (N := some 65) (v := ?_) (a' := ?_) #[true, true, true, true, true, true, true, true, true, true, true, true, true, true, true, true, true, true, true, true, true, true, true, true, true, true, true, true, true, false] rfl rfl (any_of HT_.out (by kernel_rfl)) (fun _ _ _ h => h) (Or.inl ⟨by rfl, ?_⟩) ?_ ?_
                                          rotate_left
                                          · intro w'
                                            go_simp
                                            with_reducible rfl
                                          rotate_left
                                          · simp only [Act.put, List.setIfInBounds_toArray, List.set_cons_zero, List.set_cons_succ, i64_w, i32_w]
                                            rfl
                                          refine last_ (i := 29) (N := none) #[true, true, true, true, true, true, true, true, true, true, true, true, true, true, true, true, true, true, true, true, true, true, true, true, true, true, true, true, true, true] rfl rfl (one_of HT_.out (by kernel_rfl)) (by decide) (fun K hK => ?_)
                                          refine skip_ (w1 := ?_) (by rfl) rfl ?_ ?_
                                          rotate_left
                                          · go_simp
                                            rfl
                                          refine hK.out _ _ ?_
                                          clear hK K
                                          refine done_ (done_of HT_.out (by kernel_rfl)) ?_
                                          try go_wp2
                                          have n0_ : Aside0 (Kd.R k36 36 ((((w28.setCell ⟨go20, (((rd_T72 l1 x33_4).f2) : Int).toNat * 4, none⟩ (.int .i64 t118)).setCell ⟨go20, (((rd_T72 l1 x33_4).f2) : Int).toNat * 4 + 1, none⟩ (.int .i64 t119)).setCell ⟨go20, (((rd_T72 l1 x33_4).f2) : Int).toNat * 4 + 2, none⟩ (.int .i64 t120)).setCell ⟨go20, (((rd_T72 l1 x33_4).f2) : Int).toNat * 4 + 3, none⟩ (.int .i64 t121)) w.heap.size (fun _ => True) (.slice (some ⟨go20, 0, none⟩) x5_4.length co27) y122) := ⟨by (with_reducible repeat (first | apply Kd.R_alloc | apply Kd.R_drewN | apply Kd.R_drew)); exact HQ29.out⟩
                                          have n1_ : Aside0 (((((w28.setCell ⟨go20, (((rd_T72 l1 x33_4).f2) : Int).toNat * 4, none⟩ (.int .i64 t118)).setCell ⟨go20, (((rd_T72 l1 x33_4).f2) : Int).toNat * 4 + 1, none⟩ (.int .i64 t119)).setCell ⟨go20, (((rd_T72 l1 x33_4).f2) : Int).toNat * 4 + 2, none⟩ (.int .i64 t120)).setCell ⟨go20, (((rd_T72 l1 x33_4).f2) : Int).toNat * 4 + 3, none⟩ (.int .i64 t121)).heap[gb113]? = some (.cells #[.int .i64 ((rd_T72 l1 x33_4).f0), .int .i64 ((rd_T72 l1 x33_4).f1), .int .i64 ((rd_T72 l1 x33_4).f2), .int .i64 ((rd_T72 l1 x33_4).f3), .int .i64 ((rd_T72 l1 x33_4).f4), .int .i64 ((rd_T72 l1 x33_4).f5)] 72 (0, 0))) := ⟨by (with_reducible repeat (first | refine blk_drewN ?_ _ | refine blk_drew ?_ | refine blk_alloc ?_ _)); refine blk_far ?_ (by have h_ := Kd.R_ne HO_5.out BK113.out (by decide); intro e_; exact h_ (by rw [e_]; rfl)) _; (with_reducible repeat (first | refine blk_drewN ?_ _ | refine blk_drew ?_ | refine blk_alloc ?_ _)); refine blk_far ?_ (by have h_ := Kd.R_ne HO_5.out BK113.out (by decide); intro e_; exact h_ (by rw [e_]; rfl)) _; (with_reducible repeat (first | refine blk_drewN ?_ _ | refine blk_drew ?_ | refine blk_alloc ?_ _)); refine blk_far ?_ (by have h_ := Kd.R_ne HO_5.out BK113.out (by decide); intro e_; exact h_ (by rw [e_]; rfl)) _; (with_reducible repeat (first | refine blk_drewN ?_ _ | refine blk_drew ?_ | refine blk_alloc ?_ _)); refine blk_far ?_ (by have h_ := Kd.R_ne HO_5.out BK113.out (by decide); intro e_; exact h_ (by rw [e_]; rfl)) _; (with_reducible repeat (first | refine blk_drewN ?_ _ | refine blk_drew ?_ | refine blk_alloc ?_ _)); exact BK113.out⟩
                                          have n2_ : Aside0 (Below w.heap.size w ((((w28.setCell ⟨go20, (((rd_T72 l1 x33_4).f2) : Int).toNat * 4, none⟩ (.int .i64 t118)).setCell ⟨go20, (((rd_T72 l1 x33_4).f2) : Int).toNat * 4 + 1, none⟩ (.int .i64 t119)).setCell ⟨go20, (((rd_T72 l1 x33_4).f2) : Int).toNat * 4 + 2, none⟩ (.int .i64 t120)).setCell ⟨go20, (((rd_T72 l1 x33_4).f2) : Int).toNat * 4 + 3, none⟩ (.int .i64 t121))) := ⟨by repeat (first | (with_reducible first | exact HB.out | apply below_alloc | apply pw_below_drewN | apply below_drew1 | refine below_set ?_ GB20.out | refine below_set ?_ GB20.out | refine below_set ?_ GB20.out | refine below_set ?_ GB20.out | refine below_set ?_ GE113.out) | exact HB.out)⟩
                                          (try clear HO_5)
                                          (try clear BK113)
                                          (try clear HB)
                                          generalize ((((w28.setCell ⟨go20, (((rd_T72 l1 x33_4).f2) : Int).toNat * 4, none⟩ (.int .i64 t118)).setCell ⟨go20, (((rd_T72 l1 x33_4).f2) : Int).toNat * 4 + 1, none⟩ (.int .i64 t119)).setCell ⟨go20, (((rd_T72 l1 x33_4).f2) : Int).toNat * 4 + 2, none⟩ (.int .i64 t120)).setCell ⟨go20, (((rd_T72 l1 x33_4).f2) : Int).toNat * 4 + 3, none⟩ (.int .i64 t121)) = w30 at n0_ n1_ n2_ ⊢
                                          have HO_5 := n0_
                                          have BK113 := n1_
                                          have HB := n2_
                                          clear n0_ n1_ n2_
                                          have n0_ := Aside0.mk (Kd.R_drew HO_5.out)
                                          have n1_ := Aside0.mk (blk_drew BK113.out)
                                          have n2_ := Aside0.mk (below_drew1 HB.out)
                                          clear HO_5
                                          clear BK113
                                          clear HB
                                          have HO_5 := n0_
                                          have BK113 := n1_
                                          have HB := n2_
                                          clear n0_ n1_ n2_
                                          have p123 : 0 ≤ (((rd_T72 l1 x33_4).f0) : Int) := of_decide_eq_true (by first | (with_reducible assumption) | assumption)
                                          have q123 : ((rd_T72 l1 x33_4).f0) < (y122.length : Int) := (by have h_ : (((rd_T72 l1 x33_4).f0) : Int) < ((x5_4.length : Int) : Int) := of_decide_eq_true (by first | (with_reducible assumption) | assumption); first | (have e_ := (Kd.R_reads' HO_5.out).1; omega) | simpa only [Ny122.out, List.length_set] using h_)
                                          have ql123 : ((((rd_T72 l1 x33_4).f0) : Int) < ((x5_4.length : Int) : Int)) = True := eq_true (of_decide_eq_true (by first | (with_reducible assumption) | assumption))
                                          obtain ⟨ad123, e123, hx123_0, hx123_1, hx123_2, hx123_3⟩ := at_T36 (Kd.R_reads' HO_5.out).2.2 ((rd_T72 l1 x33_4).f0) p123 q123
                                          obtain rfl : (⟨go20, 0, none⟩ : Addr) = ad123 := (by injection e123)
                                          (first | simp only [add_plain] at hx123_0 | simp only [add_at] at hx123_0 | simp only [Addr.add, Nat.zero_add] at hx123_0 | skip)
                                          (first | simp only [add_plain] at hx123_1 | simp only [add_at] at hx123_1 | simp only [Addr.add, Nat.zero_add] at hx123_1 | skip)
                                          (first | simp only [add_plain] at hx123_2 | simp only [add_at] at hx123_2 | simp only [Addr.add, Nat.zero_add] at hx123_2 | skip)
                                          (first | simp only [add_plain] at hx123_3 | simp only [add_at] at hx123_3 | simp only [Addr.add, Nat.zero_add] at hx123_3 | skip)
                                          replace p123 := eq_true p123
                                          replace q123 := eq_true q123
                                          have p124 : 0 ≤ (((rd_T72 l1 x33_4).f0) : Int) := of_decide_eq_true (by first | (with_reducible assumption) | assumption)
                                          have q124 : ((rd_T72 l1 x33_4).f0) < (l0.length : Int) := of_decide_eq_true (by first | (with_reducible assumption) | assumption)
                                          obtain ⟨ad124, e124, hx124_0⟩ := Kd.at_int HR0.out ((rd_T72 l1 x33_4).f0) p124 q124
                                          have hw124_0 := hx124_0
                                          obtain rfl : ad115 = ad124 := (by injection e124)
                                          replace hx124_0 := (HB.out.cell (World.block_lt_of_cell? w _ hx124_0)).trans hx124_0
                                          replace p124 := eq_true p124
                                          replace q124 := eq_true q124
                                          have p125 : 0 ≤ (((rd_T72 l1 x33_4).f2) : Int) := of_decide_eq_true (by first | (with_reducible assumption) | assumption)
                                          have q125 : ((rd_T72 l1 x33_4).f2) < (y122.length : Int) := (by have h_ : (((rd_T72 l1 x33_4).f2) : Int) < ((x5_4.length : Int) : Int) := of_decide_eq_true (by first | (with_reducible assumption) | assumption); first | (have e_ := (Kd.R_reads' HO_5.out).1; omega) | simpa only [Ny122.out, List.length_set] using h_)
                                          have ql125 : ((((rd_T72 l1 x33_4).f2) : Int) < ((x5_4.length : Int) : Int)) = True := eq_true (of_decide_eq_true (by first | (with_reducible assumption) | assumption))
                                          obtain ⟨ad125, e125, hx125_0, hx125_1, hx125_2, hx125_3⟩ := at_T36 (Kd.R_reads' HO_5.out).2.2 ((rd_T72 l1 x33_4).f2) p125 q125
                                          obtain rfl : (⟨go20, 0, none⟩ : Addr) = ad125 := (by injection e125)
                                          (first | simp only [add_plain] at hx125_0 | simp only [add_at] at hx125_0 | simp only [Addr.add, Nat.zero_add] at hx125_0 | skip)
                                          (first | simp only [add_plain] at hx125_1 | simp only [add_at] at hx125_1 | simp only [Addr.add, Nat.zero_add] at hx125_1 | skip)
                                          (first | simp only [add_plain] at hx125_2 | simp only [add_at] at hx125_2 | simp only [Addr.add, Nat.zero_add] at hx125_2 | skip)
                                          (first | simp only [add_plain] at hx125_3 | simp only [add_at] at hx125_3 | simp only [Addr.add, Nat.zero_add] at hx125_3 | skip)
                                          replace p125 := eq_true p125
                                          replace q125 := eq_true q125
                                          have p126 : 0 ≤ (((rd_T72 l1 x33_4).f2) : Int) := of_decide_eq_true (by first | (with_reducible assumption) | assumption)
                                          have q126 : ((rd_T72 l1 x33_4).f2) < (l0.length : Int) := of_decide_eq_true (by first | (with_reducible assumption) | assumption)
                                          obtain ⟨ad126, e126, hx126_0⟩ := Kd.at_int HR0.out ((rd_T72 l1 x33_4).f2) p126 q126
                                          have hw126_0 := hx126_0
                                          obtain rfl : ad115 = ad126 := (by injection e126)
                                          replace hx126_0 := (HB.out.cell (World.block_lt_of_cell? w _ hx126_0)).trans hx126_0
                                          replace p126 := eq_true p126
                                          replace q126 := eq_true q126
                                          refine start_ (n := 30) (S := fun w' => w'.cell? ⟨gb113, 0, none⟩ = some (.int .i64 ((rd_T72 l1 x33_4).f0)) ∧ w'.cell? ⟨gb113, 1, none⟩ = some (.int .i64 ((rd_T72 l1 x33_4).f1)) ∧ w'.cell? ⟨gb113, 2, none⟩ = some (.int .i64 ((rd_T72 l1 x33_4).f2)) ∧ w'.cell? ⟨gb113, 3, none⟩ = some (.int .i64 ((rd_T72 l1 x33_4).f3)) ∧ w'.cell? ⟨gb113, 4, none⟩ = some (.int .i64 ((rd_T72 l1 x33_4).f4)) ∧ w'.cell? ⟨gb113, 5, none⟩ = some (.int .i64 ((rd_T72 l1 x33_4).f5)) ∧ w'.cell? ⟨go20, (((rd_T72 l1 x33_4).f0)).toNat * 4, none⟩ = some (.int .i64 ((rd_T36 y122 ((rd_T72 l1 x33_4).f0)).f0)) ∧ w'.cell? ⟨go20, (((rd_T72 l1 x33_4).f0)).toNat * 4 + 1, none⟩ = some (.int .i64 ((rd_T36 y122 ((rd_T72 l1 x33_4).f0)).f1)) ∧ w'.cell? ⟨go20, (((rd_T72 l1 x33_4).f0)).toNat * 4 + 2, none⟩ = some (.int .i64 ((rd_T36 y122 ((rd_T72 l1 x33_4).f0)).f2)) ∧ w'.cell? ⟨go20, (((rd_T72 l1 x33_4).f0)).toNat * 4 + 3, none⟩ = some (.int .i64 ((rd_T36 y122 ((rd_T72 l1 x33_4).f0)).f3)) ∧ w'.cell? (ad115.add (((rd_T72 l1 x33_4).f0)).toNat) = some (.int .i64 (rd l0 ((rd_T72 l1 x33_4).f0))) ∧ w'.cell? ⟨go20, (((rd_T72 l1 x33_4).f2)).toNat * 4, none⟩ = some (.int .i64 ((rd_T36 y122 ((rd_T72 l1 x33_4).f2)).f0)) ∧ w'.cell? ⟨go20, (((rd_T72 l1 x33_4).f2)).toNat * 4 + 1, none⟩ = some (.int .i64 ((rd_T36 y122 ((rd_T72 l1 x33_4).f2)).f1)) ∧ w'.cell? ⟨go20, (((rd_T72 l1 x33_4).f2)).toNat * 4 + 2, none⟩ = some (.int .i64 ((rd_T36 y122 ((rd_T72 l1 x33_4).f2)).f2)) ∧ w'.cell? ⟨go20, (((rd_T72 l1 x33_4).f2)).toNat * 4 + 3, none⟩ = some (.int .i64 ((rd_T36 y122 ((rd_T72 l1 x33_4).f2)).f3)) ∧ w'.cell? (ad115.add (((rd_T72 l1 x33_4).f2)).toNat) = some (.int .i64 (rd l0 ((rd_T72 l1 x33_4).f2)))) (ds := [29]) #[false, false, false, false, false, false, false, false, false, false, false, false, false, false, false, false, false, false, false, false, false, false, false, false, false, false, false, false, false, false] (by kernel_rfl) rfl rfl ⟨(blk_cell BK113.out 0).trans rfl, (blk_cell BK113.out 1).trans rfl, (blk_cell BK113.out 2).trans rfl, (blk_cell BK113.out 3).trans rfl, (blk_cell BK113.out 4).trans rfl, (blk_cell BK113.out 5).trans rfl, hx123_0, hx123_1, hx123_2, hx123_3, ((HB.out.cell (World.block_lt_of_cell? w _ hw124_0)).trans hw124_0), hx125_0, hx125_1, hx125_2, hx125_3, ((HB.out.cell (World.block_lt_of_cell? w _ hw126_0)).trans hw126_0)⟩ (fun hHeld => ?_); refine with_tabW kissgateref12_Hold.tab15 kissgateref12_Hold.bits15 (fun HT_ HW_ => ?_)
                                          generalize w30.drew = w31 at HO_5 BK113 HB HQ29 hx123_0 hx123_1 hx123_2 hx123_3 hx124_0 hx125_0 hx125_1 hx125_2 hx125_3 hx126_0 hHeld ⊢
                                          refine pure_ (i := 0) (N := some 66) (v := ?_) (a' := ?_) #[true, false, false, false, false, false, false, false, false, false, false, false, false, false, false, false, false, false, false, false, false, false, false, false, false, false, false, false, false, false] rfl rfl (any_of HT_.out (by kernel_rfl)) (fun _ _ _ h => h) (Or.inl ⟨by rfl, ?_⟩) ?_ ?_
                                          rotate_left
                                          · intro w'
                                            go_simp
                                            with_reducible rfl
                                          rotate_left
                                          · simp only [Act.put, List.setIfInBounds_toArray, List.set_cons_zero, List.set_cons_succ, i64_w, i32_w]
                                            rfl
                                          refine pure_ (i := 1) (N := some 67) (v := ?_) (a' := ?_) #[true, true, false, false, false, false, false, false, false, false, false, false, false, false, false, false, false, false, false, false, false, false, false, false, false, false, false, false, false, false] rfl rfl (any_of HT_.out (by kernel_rfl)) (fun _ _ _ h => h) (Or.inl ⟨by rfl, ?_⟩) ?_ ?_
                                          rotate_left
                                          · intro w'
                                            go_simp
                                            with_reducible rfl
                                          rotate_left
                                          · simp only [Act.put, List.setIfInBounds_toArray, List.set_cons_zero, List.set_cons_succ, i64_w, i32_w]
                                            rfl
                                          refine pure_ (i := 3) (N := some 69) (v := ?_) (a' := ?_) #[true, true, false, true, false, false, false, false, false, false, false, false, false, false, false, false, false, false, false, false, false, false, false, false, false, false, false, false, false, false] rfl rfl (any_of HT_.out (by kernel_rfl)) (fun _ _ _ h => h) (Or.inl ⟨by rfl, ?_⟩) ?_ ?_
                                          rotate_left
                                          · intro w'
                                            go_simp
                                            with_reducible rfl
                                          rotate_left
                                          · simp only [Act.put, List.setIfInBounds_toArray, List.set_cons_zero, List.set_cons_succ, i64_w, i32_w]
                                            rfl
                                          refine pure_ (i := 4) (N := some 70) (v := ?_) (a' := ?_) #[true, true, false, true, true, false, false, false, false, false, false, false, false, false, false, false, false, false, false, false, false, false, false, false, false, false, false, false, false, false] rfl rfl (any_of HT_.out (by kernel_rfl)) (fun _ _ _ h => h) (Or.inl ⟨by rfl, ?_⟩) ?_ ?_
                                          rotate_left
                                          · intro w'
                                            go_simp
                                            with_reducible rfl
                                          rotate_left
                                          · simp only [Act.put, List.setIfInBounds_toArray, List.set_cons_zero, List.set_cons_succ, i64_w, i32_w]
                                            rfl
                                          refine pure_ (i := 8) (N := some 74) (v := ?_) (a' := ?_) #[true, true, false, true, true, false, false, false, true, false, false, false, false, false, false, false, false, false, false, false, false, false, false, false, false, false, false, false, false, false] rfl rfl (any_of HT_.out (by kernel_rfl)) (fun _ _ _ h => h) (Or.inl ⟨by rfl, ?_⟩) ?_ ?_
                                          rotate_left
                                          · intro w'
                                            go_simp
                                            with_reducible rfl
                                          rotate_left
                                          · simp only [Act.put, List.setIfInBounds_toArray, List.set_cons_zero, List.set_cons_succ, i64_w, i32_w]
                                            rfl
                                          refine pure_ (i := 9) (N := some 75) (v := ?_) (a' := ?_) #[true, true, false, true, true, false, false, false, true, true, false, false, false, false, false, false, false, false, false, false, false, false, false, false, false, false, false, false, false, false] rfl rfl (any_of HT_.out (by kernel_rfl)) (fun _ _ _ h => h) (Or.inl ⟨by rfl, ?_⟩) ?_ ?_
                                          rotate_left
                                          · intro w'
                                            go_simp
                                            with_reducible rfl
                                          rotate_left
                                          · simp only [Act.put, List.setIfInBounds_toArray, List.set_cons_zero, List.set_cons_succ, i64_w, i32_w]
                                            rfl
                                          refine pure_ (i := 13) (N := some 79) (v := ?_) (a' := ?_) #[true, true, false, true, true, false, false, false, true, true, false, false, false, true, false, false, false, false, false, false, false, false, false, false, false, false, false, false, false, false] rfl rfl (any_of HT_.out (by kernel_rfl)) (fun _ _ _ h => h) (Or.inl ⟨by rfl, ?_⟩) ?_ ?_
                                          rotate_left
                                          · intro w'
                                            go_simp
                                            with_reducible rfl
                                          rotate_left
                                          · simp only [Act.put, List.setIfInBounds_toArray, List.set_cons_zero, List.set_cons_succ, i64_w, i32_w]
                                            rfl
                                          refine pure_ (i := 14) (N := some 80) (v := ?_) (a' := ?_) #[true, true, false, true, true, false, false, false, true, true, false, false, false, true, true, false, false, false, false, false, false, false, false, false, false, false, false, false, false, false] rfl rfl (any_of HT_.out (by kernel_rfl)) (fun _ _ _ h => h) (Or.inl ⟨by rfl, ?_⟩) ?_ ?_
                                          rotate_left
                                          · intro w'
                                            go_simp
                                            with_reducible rfl
                                          rotate_left
                                          · simp only [Act.put, List.setIfInBounds_toArray, List.set_cons_zero, List.set_cons_succ, i64_w, i32_w]
                                            rfl
                                          refine pure_ (i := 18) (N := some 84) (v := ?_) (a' := ?_) #[true, true, false, true, true, false, false, false, true, true, false, false, false, true, true, false, false, false, true, false, false, false, false, false, false, false, false, false, false, false] rfl rfl (any_of HT_.out (by kernel_rfl)) (fun _ _ _ h => h) (Or.inl ⟨by rfl, ?_⟩) ?_ ?_
                                          rotate_left
                                          · intro w'
                                            go_simp
                                            with_reducible rfl
                                          rotate_left
                                          · simp only [Act.put, List.setIfInBounds_toArray, List.set_cons_zero, List.set_cons_succ, i64_w, i32_w]
                                            rfl
                                          refine pure_ (i := 19) (N := some 85) (v := ?_) (a' := ?_) #[true, true, false, true, true, false, false, false, true, true, false, false, false, true, true, false, false, false, true, true, false, false, false, false, false, false, false, false, false, false] rfl rfl (any_of HT_.out (by kernel_rfl)) (fun _ _ _ h => h) (Or.inl ⟨by rfl, ?_⟩) ?_ ?_
                                          rotate_left
                                          · intro w'
                                            go_simp
                                            with_reducible rfl
                                          rotate_left
                                          · simp only [Act.put, List.setIfInBounds_toArray, List.set_cons_zero, List.set_cons_succ, i64_w, i32_w]
                                            rfl
                                          refine pure_ (i := 23) (N := some 89) (v := ?_) (a' := ?_) #[true, true, false, true, true, false, false, false, true, true, false, false, false, true, true, false, false, false, true, true, false, false, false, true, false, false, false, false, false, false] rfl rfl (any_of HT_.out (by kernel_rfl)) (fun _ _ _ h => h) (Or.inl ⟨by rfl, ?_⟩) ?_ ?_
                                          rotate_left
                                          · intro w'
                                            go_simp
                                            with_reducible rfl
                                          rotate_left
                                          · simp only [Act.put, List.setIfInBounds_toArray, List.set_cons_zero, List.set_cons_succ, i64_w, i32_w]
                                            rfl
                                          refine pure_ (i := 25) (N := some 91) (v := ?_) (a' := ?_) #[true, true, false, true, true, false, false, false, true, true, false, false, false, true, true, false, false, false, true, true, false, false, false, true, false, true, false, false, false, false] rfl rfl (any_of HT_.out (by kernel_rfl)) (fun _ _ _ h => h) (Or.inl ⟨by rfl, ?_⟩) ?_ ?_
                                          rotate_left
                                          · intro w'
                                            go_simp
                                            with_reducible rfl
                                          rotate_left
                                          · simp only [Act.put, List.setIfInBounds_toArray, List.set_cons_zero, List.set_cons_succ, i64_w, i32_w]
                                            rfl
                                          refine take_ (i := 2) (N := some 68) (v := ?_) (a' := ?_) #[true, true, true, true, true, false, false, false, true, true, false, false, false, true, true, false, false, false, true, true, false, false, false, true, false, true, false, false, false, false] rfl rfl (take_ofW HT_.out HW_.out (by kernel_rfl)) (fun _ _ _ h => h) (Or.inl ⟨by rfl, ?_⟩) hHeld ?_ ?_
                                          rotate_left
                                          · rintro w' ⟨s0, s1, s2, s3, s4, s5, s6, s7, s8, s9, s10, s11, s12, s13, s14, s15⟩
                                            go_simp
                                            with_reducible rfl
                                          rotate_left
                                          · simp only [Act.put, List.setIfInBounds_toArray, List.set_cons_zero, List.set_cons_succ, i64_w, i32_w]
                                            rfl
                                          refine take_ (i := 5) (N := some 71) (v := ?_) (a' := ?_) #[true, true, true, true, true, true, false, false, true, true, false, false, false, true, true, false, false, false, true, true, false, false, false, true, false, true, false, false, false, false] rfl rfl (take_ofW HT_.out HW_.out (by kernel_rfl)) (fun _ _ _ h => h) (Or.inl ⟨by rfl, ?_⟩) hHeld ?_ ?_
                                          rotate_left
                                          · rintro w' ⟨s0, s1, s2, s3, s4, s5, s6, s7, s8, s9, s10, s11, s12, s13, s14, s15⟩
                                            go_simp
                                            with_reducible rfl
                                          rotate_left
                                          · simp only [Act.put, List.setIfInBounds_toArray, List.set_cons_zero, List.set_cons_succ, i64_w, i32_w]
                                            rfl
                                          refine pure_ (i := 6) (N := some 72) (v := ?_) (a' := ?_) #[true, true, true, true, true, true, true, false, true, true, false, false, false, true, true, false, false, false, true, true, false, false, false, true, false, true, false, false, false, false] rfl rfl (any_of HT_.out (by kernel_rfl)) (fun _ _ _ h => h) (Or.inl ⟨by rfl, ?_⟩) ?_ ?_
                                          rotate_left
                                          · intro w'
                                            go_simp
                                            with_reducible rfl
                                          rotate_left
                                          · simp only [Act.put, List.setIfInBounds_toArray, List.set_cons_zero, List.set_cons_succ, i64_w, i32_w]
                                            rfl
                                          refine take_ (i := 7) (N := some 73) (v := ?_) (a' := ?_) #[true, true, true, true, true, true, true, true, true, true, false, false, false, true, true, false, false, false, true, true, false, false, false, true, false, true, false, false, false, false] rfl rfl (take_ofW HT_.out HW_.out (by kernel_rfl)) (fun _ _ _ h => h) (Or.inl ⟨by rfl, ?_⟩) hHeld ?_ ?_
                                          rotate_left
                                          · rintro w' ⟨s0, s1, s2, s3, s4, s5, s6, s7, s8, s9, s10, s11, s12, s13, s14, s15⟩
                                            go_simp
                                            with_reducible rfl
                                          rotate_left
                                          · simp only [Act.put, List.setIfInBounds_toArray, List.set_cons_zero, List.set_cons_succ, i64_w, i32_w]
                                            rfl
                                          refine take_ (i := 10) (N := some 76) (v := ?_) (a' := ?_) #[true, true, true, true, true, true, true, true, true, true, true, false, false, true, true, false, false, false, true, true, false, false, false, true, false, true, false, false, false, false] rfl rfl (take_ofW HT_.out HW_.out (by kernel_rfl)) (fun _ _ _ h => h) (Or.inl ⟨by rfl, ?_⟩) hHeld ?_ ?_
                                          rotate_left
                                          · rintro w' ⟨s0, s1, s2, s3, s4, s5, s6, s7, s8, s9, s10, s11, s12, s13, s14, s15⟩
                                            go_simp
                                            with_reducible rfl
                                          rotate_left
                                          · simp only [Act.put, List.setIfInBounds_toArray, List.set_cons_zero, List.set_cons_succ, i64_w, i32_w]
                                            rfl
                                          refine pure_ (i := 11) (N := some 77) (v := ?_) (a' := ?_) #[true, true, true, true, true, true, true, true, true, true, true, true, false, true, true, false, false, false, true, true, false, false, false, true, false, true, false, false, false, false] rfl rfl (any_of HT_.out (by kernel_rfl)) (fun _ _ _ h => h) (Or.inl ⟨by rfl, ?_⟩) ?_ ?_
                                          rotate_left
                                          · intro w'
                                            go_simp
                                            with_reducible rfl
                                          rotate_left
                                          · simp only [Act.put, List.setIfInBounds_toArray, List.set_cons_zero, List.set_cons_succ, i64_w, i32_w]
                                            rfl
                                          refine take_ (i := 12) (N := some 78) (v := ?_) (a' := ?_) #[true, true, true, true, true, true, true, true, true, true, true, true, true, true, true, false, false, false, true, true, false, false, false, true, false, true, false, false, false, false] rfl rfl (take_ofW HT_.out HW_.out (by kernel_rfl)) (fun _ _ _ h => h) (Or.inl ⟨by rfl, ?_⟩) hHeld ?_ ?_
                                          rotate_left
                                          · rintro w' ⟨s0, s1, s2, s3, s4, s5, s6, s7, s8, s9, s10, s11, s12, s13, s14, s15⟩
                                            go_simp
                                            with_reducible rfl
                                          rotate_left
                                          · simp only [Act.put, List.setIfInBounds_toArray, List.set_cons_zero, List.set_cons_succ, i64_w, i32_w]
                                            rfl
                                          refine take_ (i := 15) (N := some 81) (v := ?_) (a' := ?_) #[true, true, true, true, true, true, true, true, true, true, true, true, true, true, true, true, false, false, true, true, false, false, false, true, false, true, false, false, false, false] rfl rfl (take_ofW HT_.out HW_.out (by kernel_rfl)) (fun _ _ _ h => h) (Or.inl ⟨by rfl, ?_⟩) hHeld ?_ ?_
                                          rotate_left
                                          · rintro w' ⟨s0, s1, s2, s3, s4, s5, s6, s7, s8, s9, s10, s11, s12, s13, s14, s15⟩
                                            go_simp
                                            with_reducible rfl
                                          rotate_left
                                          · simp only [Act.put, List.setIfInBounds_toArray, List.set_cons_zero, List.set_cons_succ, i64_w, i32_w]
                                            rfl
                                          refine pure_ (i := 16) (N := some 82) (v := ?_) (a' := ?_) #[true, true, true, true, true, true, true, true, true, true, true, true, true, true, true, true, true, false, true, true, false, false, false, true, false, true, false, false, false, false] rfl rfl (any_of HT_.out (by kernel_rfl)) (fun _ _ _ h => h) (Or.inl ⟨by rfl, ?_⟩) ?_ ?_
                                          rotate_left
                                          · intro w'
                                            go_simp
                                            with_reducible rfl
                                          rotate_left
                                          · simp only [Act.put, List.setIfInBounds_toArray, List.set_cons_zero, List.set_cons_succ, i64_w, i32_w]
                                            rfl
                                          refine take_ (i := 17) (N := some 83) (v := ?_) (a' := ?_) #[true, true, true, true, true, true, true, true, true, true, true, true, true, true, true, true, true, true, true, true, false, false, false, true, false, true, false, false, false, false] rfl rfl (take_ofW HT_.out HW_.out (by kernel_rfl)) (fun _ _ _ h => h) (Or.inl ⟨by rfl, ?_⟩) hHeld ?_ ?_
                                          rotate_left
                                          · rintro w' ⟨s0, s1, s2, s3, s4, s5, s6, s7, s8, s9, s10, s11, s12, s13, s14, s15⟩
                                            go_simp
                                            with_reducible rfl
                                          rotate_left
                                          · simp only [Act.put, List.setIfInBounds_toArray, List.set_cons_zero, List.set_cons_succ, i64_w, i32_w]
                                            rfl
                                          refine take_ (i := 20) (N := some 86) (v := ?_) (a' := ?_) #[true, true, true, true, true, true, true, true, true, true, true, true, true, true, true, true, true, true, true, true, true, false, false, true, false, true, false, false, false, false] rfl rfl (take_ofW HT_.out HW_.out (by kernel_rfl)) (fun _ _ _ h => h) (Or.inl ⟨by rfl, ?_⟩) hHeld ?_ ?_
                                          rotate_left
                                          · rintro w' ⟨s0, s1, s2, s3, s4, s5, s6, s7, s8, s9, s10, s11, s12, s13, s14, s15⟩
                                            go_simp
                                            with_reducible rfl
                                          rotate_left
                                          · simp only [Act.put, List.setIfInBounds_toArray, List.set_cons_zero, List.set_cons_succ, i64_w, i32_w]
                                            rfl
                                          refine pure_ (i := 21) (N := some 87) (v := ?_) (a' := ?_) #[true, true, true, true, true, true, true, true, true, true, true, true, true, true, true, true, true, true, true, true, true, true, false, true, false, true, false, false, false, false] rfl rfl (any_of HT_.out (by kernel_rfl)) (fun _ _ _ h => h) (Or.inl ⟨by rfl, ?_⟩) ?_ ?_
                                          rotate_left
                                          · intro w'
                                            go_simp
                                            with_reducible rfl
                                          rotate_left
                                          · simp only [Act.put, List.setIfInBounds_toArray, List.set_cons_zero, List.set_cons_succ, i64_w, i32_w]
                                            rfl
                                          refine take_ (i := 22) (N := some 88) (v := ?_) (a' := ?_) #[true, true, true, true, true, true, true, true, true, true, true, true, true, true, true, true, true, true, true, true, true, true, true, true, false, true, false, false, false, false] rfl rfl (take_ofW HT_.out HW_.out (by kernel_rfl)) (fun _ _ _ h => h) (Or.inl ⟨by rfl, ?_⟩) hHeld ?_ ?_
                                          rotate_left
                                          · rintro w' ⟨s0, s1, s2, s3, s4, s5, s6, s7, s8, s9, s10, s11, s12, s13, s14, s15⟩
                                            go_simp
                                            with_reducible rfl
                                          rotate_left
                                          · simp only [Act.put, List.setIfInBounds_toArray, List.set_cons_zero, List.set_cons_succ, i64_w, i32_w]
                                            rfl
                                          refine take_ (i := 24) (N := some 90) (v := ?_) (a' := ?_) #[true, true, true, true, true, true, true, true, true, true, true, true, true, true, true, true, true, true, true, true, true, true, true, true, true, true, false, false, false, false] rfl rfl (take_ofW HT_.out HW_.out (by kernel_rfl)) (fun _ _ _ h => h) (Or.inl ⟨by rfl, ?_⟩) hHeld ?_ ?_
                                          rotate_left
                                          · rintro w' ⟨s0, s1, s2, s3, s4, s5, s6, s7, s8, s9, s10, s11, s12, s13, s14, s15⟩
                                            go_simp
                                            with_reducible rfl
                                          rotate_left
                                          · simp only [Act.put, List.setIfInBounds_toArray, List.set_cons_zero, List.set_cons_succ, i64_w, i32_w]
                                            rfl
                                          refine take_ (i := 26) (N := some 92) (v := ?_) (a' := ?_) #[true, true, true, true, true, true, true, true, true, true, true, true, true, true, true, true, true, true, true, true, true, true, true, true, true, true, true, false, false, false] rfl rfl (take_ofW HT_.out HW_.out (by kernel_rfl)) (fun _ _ _ h => h) (Or.inl ⟨by rfl, ?_⟩) hHeld ?_ ?_
                                          rotate_left
                                          · rintro w' ⟨s0, s1, s2, s3, s4, s5, s6, s7, s8, s9, s10, s11, s12, s13, s14, s15⟩
                                            go_simp
                                            with_reducible rfl
                                          rotate_left
                                          · simp only [Act.put, List.setIfInBounds_toArray, List.set_cons_zero, List.set_cons_succ, i64_w, i32_w]
                                            rfl
                                          refine one_ (i := 27) (N := some 93) #[true, true, true, true, true, true, true, true, true, true, true, true, true, true, true, true, true, true, true, true, true, true, true, true, true, true, true, true, false, false] rfl rfl (one_of HT_.out (by kernel_rfl)) (by decide) (fun K hK => ?_)
                                          refine goes_ Tryd.func47 (by kernel_rfl) rfl #[.agg #[.int .i64 ((rd_T36 y122 ((rd_T72 l1 x33_4).f0)).f0), .int .i64 ((rd_T36 y122 ((rd_T72 l1 x33_4).f0)).f1), .int .i64 ((rd_T36 y122 ((rd_T72 l1 x33_4).f0)).f2), .int .i64 ((rd_T36 y122 ((rd_T72 l1 x33_4).f0)).f3)], .int .i64 (rd l0 ((rd_T72 l1 x33_4).f0)), .agg #[.int .i64 ((rd_T36 y122 ((rd_T72 l1 x33_4).f2)).f0), .int .i64 ((rd_T36 y122 ((rd_T72 l1 x33_4).f2)).f1), .int .i64 ((rd_T36 y122 ((rd_T72 l1 x33_4).f2)).f2), .int .i64 ((rd_T36 y122 ((rd_T72 l1 x33_4).f2)).f3)], .int .i64 (rd l0 ((rd_T72 l1 x33_4).f2)), .int .i64 ((rd_T72 l1 x33_4).f3), .int .i64 ((rd_T72 l1 x33_4).f4)] (by rfl) rfl rfl (by (try simp only [List.map_toArray, List.map_cons, List.map_nil]); first | done | rfl | (simp only [List.length_drop, List.length_take]; rfl)) ?_
                                          with_reducible refine (kissgateref12_better.calls ((rd_T36 y122 ((rd_T72 l1 x33_4).f0)).f0) ((rd_T36 y122 ((rd_T72 l1 x33_4).f0)).f1) ((rd_T36 y122 ((rd_T72 l1 x33_4).f0)).f2) ((rd_T36 y122 ((rd_T72 l1 x33_4).f0)).f3) (rd l0 ((rd_T72 l1 x33_4).f0)) ((rd_T36 y122 ((rd_T72 l1 x33_4).f2)).f0) ((rd_T36 y122 ((rd_T72 l1 x33_4).f2)).f1) ((rd_T36 y122 ((rd_T72 l1 x33_4).f2)).f2) ((rd_T36 y122 ((rd_T72 l1 x33_4).f2)).f3) (rd l0 ((rd_T72 l1 x33_4).f2)) ((rd_T72 l1 x33_4).f3) ((rd_T72 l1 x33_4).f4) t127 t128 t129 t130 _ A21.out).mono ?_
                                          rintro e w32 ⟨rfl, hb⟩
                                          have HS6_ := (hb.cell (World.block_lt_of_cell? _ _ (hHeld.2.2.2.2.2.2.1))).trans (hHeld.2.2.2.2.2.2.1)
                                          have HS7_ := (hb.cell (World.block_lt_of_cell? _ _ (hHeld.2.2.2.2.2.2.2.1))).trans (hHeld.2.2.2.2.2.2.2.1)
                                          have HS8_ := (hb.cell (World.block_lt_of_cell? _ _ (hHeld.2.2.2.2.2.2.2.2.1))).trans (hHeld.2.2.2.2.2.2.2.2.1)
                                          have HS9_ := (hb.cell (World.block_lt_of_cell? _ _ (hHeld.2.2.2.2.2.2.2.2.2.1))).trans (hHeld.2.2.2.2.2.2.2.2.2.1)
                                          have HS11_ := (hb.cell (World.block_lt_of_cell? _ _ (hHeld.2.2.2.2.2.2.2.2.2.2.2.1))).trans (hHeld.2.2.2.2.2.2.2.2.2.2.2.1)
                                          have HS12_ := (hb.cell (World.block_lt_of_cell? _ _ (hHeld.2.2.2.2.2.2.2.2.2.2.2.2.1))).trans (hHeld.2.2.2.2.2.2.2.2.2.2.2.2.1)
                                          have HS13_ := (hb.cell (World.block_lt_of_cell? _ _ (hHeld.2.2.2.2.2.2.2.2.2.2.2.2.2.1))).trans (hHeld.2.2.2.2.2.2.2.2.2.2.2.2.2.1)
                                          have HS14_ := (hb.cell (World.block_lt_of_cell? _ _ (hHeld.2.2.2.2.2.2.2.2.2.2.2.2.2.2.1))).trans (hHeld.2.2.2.2.2.2.2.2.2.2.2.2.2.2.1)
                                          refine ⟨_, rfl, ?_⟩
                                          have n0_ := Aside0.mk (Kd.R_below (by (with_reducible repeat (first | apply Kd.R_alloc | apply Kd.R_drewN | apply Kd.R_drew)); exact HO_5.out) hb)
                                          have n1_ := Aside0.mk (blk_below (g := gb113) (o := .cells #[.int .i64 ((rd_T72 l1 x33_4).f0), .int .i64 ((rd_T72 l1 x33_4).f1), .int .i64 ((rd_T72 l1 x33_4).f2), .int .i64 ((rd_T72 l1 x33_4).f3), .int .i64 ((rd_T72 l1 x33_4).f4), .int .i64 ((rd_T72 l1 x33_4).f5)] 72 (0, 0)) (by (with_reducible repeat (first | refine blk_drewN ?_ _ | refine blk_drew ?_ | refine blk_alloc ?_ _)); exact BK113.out) hb)
                                          have n2_ := Aside0.mk (below_step (by repeat (first | (with_reducible first | exact HB.out | apply below_alloc | apply pw_below_drewN | apply below_drew1 | refine below_set ?_ GE113.out) | exact HB.out)) hb)
                                          clear HO_5
                                          clear BK113
                                          clear HB
                                          have HO_5 := n0_
                                          have BK113 := n1_
                                          have HB := n2_
                                          clear n0_ n1_ n2_
                                          (try clear hb)
                                          (try clear hb2)
                                          (try clear hk)
                                          (try clear hi)
                                          have p22 : 0 ≤ (((rd_T72 l1 x33_4).f0) : Int) := of_decide_eq_true (by first | (with_reducible assumption) | assumption)
                                          have q22 : (((rd_T72 l1 x33_4).f0) : Int) < ((x5_4.length : Int) : Int) := of_decide_eq_true (by first | (with_reducible assumption) | assumption)
                                          obtain ⟨ce22, hcl22, hM22, hcc22, hfr22⟩ := Kd.R_elem HO_5.out z36 (((rd_T72 l1 x33_4).f0) : Int) p22 q22
                                          obtain rfl := k36_openM hM22
                                          have hx22_0 : World.cell? _ ⟨go20, (((rd_T72 l1 x33_4).f0) : Int).toNat * 4, none⟩ = some (.int .i64 ((rd_T36 y122 ((rd_T72 l1 x33_4).f0)).f0)) := hcc22 0 _ rfl
                                          have hx22_1 : World.cell? _ ⟨go20, (((rd_T72 l1 x33_4).f0) : Int).toNat * 4 + 1, none⟩ = some (.int .i64 ((rd_T36 y122 ((rd_T72 l1 x33_4).f0)).f1)) := hcc22 1 _ rfl
                                          have hx22_2 : World.cell? _ ⟨go20, (((rd_T72 l1 x33_4).f0) : Int).toNat * 4 + 2, none⟩ = some (.int .i64 ((rd_T36 y122 ((rd_T72 l1 x33_4).f0)).f2)) := hcc22 2 _ rfl
                                          have hx22_3 : World.cell? _ ⟨go20, (((rd_T72 l1 x33_4).f0) : Int).toNat * 4 + 3, none⟩ = some (.int .i64 ((rd_T36 y122 ((rd_T72 l1 x33_4).f0)).f3)) := hcc22 3 _ rfl
                                          have hf22_0 : World.frozen? _ ⟨go20, (((rd_T72 l1 x33_4).f0) : Int).toNat * 4, none⟩ = false := hfr22 0
                                          have hf22_1 : World.frozen? _ ⟨go20, (((rd_T72 l1 x33_4).f0) : Int).toNat * 4 + 1, none⟩ = false := hfr22 1
                                          have hf22_2 : World.frozen? _ ⟨go20, (((rd_T72 l1 x33_4).f0) : Int).toNat * 4 + 2, none⟩ = false := hfr22 2
                                          have hf22_3 : World.frozen? _ ⟨go20, (((rd_T72 l1 x33_4).f0) : Int).toNat * 4 + 3, none⟩ = false := hfr22 3
                                          clear hcl22 hcc22 hfr22 hM22
                                          replace p22 := eq_true p22
                                          replace q22 := eq_true q22
                                          obtain ⟨ce33, hcl33, hM33, hcc33, hfr33⟩ := Kd.R_elem HO_5.out z36 (((rd_T72 l1 x33_4).f0) : Int) (of_decide_eq_true (by first | (with_reducible assumption) | assumption)) (by have h_ : (((rd_T72 l1 x33_4).f0) : Int) < ((x5_4.length : Int) : Int) := of_decide_eq_true (by first | (with_reducible assumption) | assumption); first | exact h_ | (have e_ := (Kd.R_reads' HO_5.out).1; omega) | simpa using h_)
                                          obtain rfl := k36_openM hM33
                                          have HP33 := (Kd.R_seg HO_5.out (((rd_T72 l1 x33_4).f0) : Int) (of_decide_eq_true (by first | (with_reducible assumption) | assumption)) (by have h_ : (((rd_T72 l1 x33_4).f0) : Int) < ((x5_4.length : Int) : Int) := of_decide_eq_true (by first | (with_reducible assumption) | assumption); first | exact h_ | (have e_ := (Kd.R_reads' HO_5.out).1; omega) | simpa using h_) (seg := [.int .i64 t127, .int .i64 t128, .int .i64 t129, .int .i64 t130]) (j := 0) hcl33 hcc33 (show 4 ≤ 4 from by decide) (x' := (⟨t127, t128, t129, t130⟩ : S36)) (k36_mkM _ _ _ (⟨t127, t128, t129, t130⟩ : S36) ) (fun _ hk => hk)).1
                                          rw [← Ny131.out] at HP33
                                          have HQ33 := Aside0.mk HP33
                                          clear hcl33 hcc33 hfr33 hM33 HP33
                                          refine hK.out _ _ ⟨(blk_cell BK113.out 0).trans rfl, (blk_cell BK113.out 1).trans rfl, (blk_cell BK113.out 2).trans rfl, (blk_cell BK113.out 3).trans rfl, (blk_cell BK113.out 4).trans rfl, (blk_cell BK113.out 5).trans rfl, HS6_, HS7_, HS8_, HS9_, ((HB.out.cell (World.block_lt_of_cell? w _ hw124_0)).trans hw124_0), HS11_, HS12_, HS13_, HS14_, ((HB.out.cell (World.block_lt_of_cell? w _ hw126_0)).trans hw126_0)⟩ (fun hHeld => ?_)
                                          clear hK K
                                          refine norm_ (a' := ?_) ?_ ?_
                                          rotate_left
                                          · show Act.put _ (some 93) _ = _
                                            simp only [Act.put, List.setIfInBounds_toArray, List.set_cons_zero, List.set_cons_succ, i64_w, i32_w]
                                            rfl
                                          refine pure_ (i := 28) (N := some 94) (v := ?_) (a' := ?_) #[true, true, true, true, true, true, true, true, true, true, true, true, true, true, true, true, true, true, true, true, true, true, true, true, true, true, true, true, true, false] rfl rfl (any_of HT_.out (by kernel_rfl)) (fun _ _ _ h => h) (Or.inl ⟨by rfl, ?_⟩) ?_ ?_
                                          rotate_left
                                          · intro w'
                                            go_simp
                                            with_reducible rfl
                                          rotate_left
                                          · simp only [Act.put, List.setIfInBounds_toArray, List.set_cons_zero, List.set_cons_succ, i64_w, i32_w]
                                            rfl
                                          refine last_ (i := 29) (N := none) #[true, true, true, true, true, true, true, true, true, true, true, true, true, true, true, true, true, true, true, true, true, true, true, true, true, true, true, true, true, true] rfl rfl (one_of HT_.out (by kernel_rfl)) (by decide) (fun K hK => ?_)
                                          refine skip_ (w1 := ?_) (by rfl) rfl ?_ ?_
                                          rotate_left
                                          · go_simp
                                            rfl
                                          refine hK.out _ _ ?_
                                          clear hK K
                                          refine done_ (done_of HT_.out (by kernel_rfl)) ?_
                                          try go_wp2
                                          go_roundg k4
                                          case measure => have := HK1.out; have := HK2.out; have := HK3.out; have := HK4.out; omega
                                          case rel => exact ⟨(y131), (wrap64 (x33_4 + 1)), (by first | rfl | (simp; done) | (simp [*]; done)), H', ⟨by have := HK1.out; have := HK2.out; have := HK3.out; have := HK4.out; omega⟩, ⟨by (with_reducible repeat (first | apply Kd.R_alloc | apply Kd.R_drewN | apply Kd.R_drew)); exact HQ33.out⟩, ⟨by repeat (first | (with_reducible first | exact HB.out | apply below_alloc | apply pw_below_drewN | apply below_drew1 | refine below_set ?_ GB20.out | refine below_set ?_ GB20.out | refine below_set ?_ GB20.out | refine below_set ?_ GB20.out | refine below_set ?_ GE113.out) | exact HB.out)⟩⟩
                                        · rw [if_neg c18] at H
                                          exact absurd H (by simp)
                                      · rw [if_neg c17] at H
                                        exact absurd H (by simp)
                                    · rw [if_neg c16] at H
                                      exact absurd H (by simp)
                                  · rw [if_neg c15] at H
                                    exact absurd H (by simp)
                                · rw [if_neg c14] at H
                                  exact absurd H (by simp)
                              · rw [if_neg c13] at H
                                exact absurd H (by simp)
                            · rw [if_neg c12] at H
                              exact absurd H (by simp)
                          · rw [if_neg c11] at H
                            exact absurd H (by simp)
                        · rw [if_neg c10] at H
                          have c10b0 : decide (x33_4 < (l1.length : Int)) = false := decide_eq_false c10
                          clear c10
                          have H' := Aside0.mk H
                          clear H
                          go_wp2
                          go_roundg k4
                          case measure => have := HK1.out; have := HK2.out; have := HK3.out; have := HK4.out; omega
                          case rel => exact ⟨(x5_4), (wrap64 (x29_3 + 1)), (by first | rfl | (simp; done) | (simp [*]; done)), H', ⟨by have := HK1.out; have := HK2.out; have := HK3.out; have := HK4.out; omega⟩, ⟨by (with_reducible repeat (first | apply Kd.R_alloc | apply Kd.R_drewN | apply Kd.R_drew)); exact HO_5.out⟩, ⟨by repeat (first | (with_reducible first | exact HB.out | apply below_alloc | apply pw_below_drewN | apply below_drew1) | exact HB.out)⟩⟩
                  · rw [if_neg c9] at H
                    have c9b0 : decide (x29_3 < (l1.length : Int)) = false := decide_eq_false c9
                    clear c9
                    have H' := Aside0.mk H
                    clear H
                    go_wp2
                    go_roundg k3
                    case measure => have := HK1.out; have := HK2.out; have := HK3.out; omega
                    case rel => exact ⟨(x5_3), (wrap64 (x25_2 + 1)), (by first | rfl | (simp; done) | (simp [*]; done)), H', ⟨by have := HK1.out; have := HK2.out; have := HK3.out; omega⟩, ⟨by (with_reducible repeat (first | apply Kd.R_alloc | apply Kd.R_drewN | apply Kd.R_drew)); exact HO_5.out⟩, ⟨by repeat (first | (with_reducible first | exact HB.out | apply below_alloc | apply pw_below_drewN | apply below_drew1) | exact HB.out)⟩⟩
            · rw [if_neg c8] at H
              have c8b0 : decide (x25_2 < (l0.length : Int)) = false := decide_eq_false c8
              clear c8
              obtain rfl := Option.some.inj H
              go_wp2
              go_ret
              exact ⟨_, by first | rfl | (simp [errW_none, errW_some] <;> rfl) | (simp [*, errW_none, errW_some] <;> rfl), by (with_reducible repeat (first | apply Kd.R_alloc | apply Kd.R_drewN | apply Kd.R_drew)); exact HO_5.out, by repeat (first | (with_reducible first | exact HB.out | apply below_alloc | apply pw_below_drewN | apply below_drew1) | exact HB.out)⟩
end Go.Proofs.YtfimhaodgekkgaaDoor.QSpn
namespace Go.Proofs.YtfimhaodgekkgaaDoor.QSpn
open Go.RowKit Go.Proofs.YtfimhaodgekkgaaDoorW.PrintWords Go.Proofs.YtfimhaodgekkgaaDoorW.PrintLast Go.Proofs.YtfimhaodgekkgaaDoorW.PrintMore
attribute [local go_sem] max2_int min2_int max_two min_two max_three min_three max_four min_four
set_option linter.unusedVariables false
set_option linter.unusedSimpArgs false
theorem eqA36 (d : Nat) (w : World) (x0 y0 : Int) (x1 y1 : Int) (x2 y2 : Int) (x3 y3 : Int) :
    (Op.equalIn (d + 2) 36 (.agg #[.int .i64 x0, .int .i64 x1, .int .i64 x2, .int .i64 x3]) (.agg #[.int .i64 y0, .int .i64 y1, .int .i64 y2, .int .i64 y3])).run Tryd.prog w = .ok (x0 == y0 && (x1 == y1 && (x2 == y2 && (x3 == y3)))) w := by
  refine eqA_of Tryd.underlying36 (by kernel_rfl) ?_
  refine eqf_cons (by rfl) (by go_simp; rfl) (by go_simp; rfl) (by go_simp) ?_
  refine eqf_cons (by rfl) (by go_simp; rfl) (by go_simp; rfl) (by go_simp) ?_
  refine eqf_cons (by rfl) (by go_simp; rfl) (by go_simp; rfl) (by go_simp) ?_
  exact eqf_last (by rfl) (by go_simp; rfl) (by go_simp; rfl) (by go_simp)
end Go.Proofs.YtfimhaodgekkgaaDoor.QSpn
