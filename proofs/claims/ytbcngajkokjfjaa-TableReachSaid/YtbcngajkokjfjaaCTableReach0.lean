/- Functions of the program as plain Lean functions, what their calls do, and what follows of it. Conditions: each theorem's own. -/
import Derived.Test.YtbcngajkokjfjaaCTableReachV
namespace Go.Proofs.Ytbcngajkokjfjaa.QRea
open Go.RowKit Go.Proofs.YtbcngajkokjfjaaW.PrintWords Go.Proofs.YtbcngajkokjfjaaW.PrintLast Go.Proofs.YtbcngajkokjfjaaW.PrintMore
attribute [local go_sem] max2_int min2_int max_two min_two max_three min_three max_four min_four
set_option linter.unusedVariables false
set_option linter.unusedSimpArgs false
def errW : Option Int → Value
  | none => .nilIface
  | some c => .iface 0 (.int .i64 c)
theorem errW_none : errW none = .nilIface := rfl
theorem errW_some (c : Int) : errW (some c) = .iface 0 (.int .i64 c) := rfl
theorem info3 : (Try.prog.info? 3).map (fun i => (i.zero, i.size, i.bytes)) = some (some (.int .i64 0), 1, 8) := by kernel_rfl
theorem info4 : (Try.prog.info? 4).map (fun i => (i.zero, i.size, i.bytes)) = some (some (.bool false), 1, 1) := by kernel_rfl
theorem info30 : (Try.prog.info? 30).map (fun i => (i.zero, i.size, i.bytes)) = some (some (.agg #[(.int .i64 0), (.int .i64 0)]), 2, 16) := by kernel_rfl
structure S30 where
  f0 : Int
  f1 : Int
def z30 : S30 := ⟨(0 : Int), (0 : Int)⟩
def k30 : Kd S30 := Kd.iso (Kd.pair (Kd.int .i64) (Kd.int .i64)) (fun x : S30 => (x.f0, x.f1))
theorem k30_open {w : World} {x : S30} {cs : List Value} (h : k30.K w x cs) : cs = [.int .i64 x.f0, .int .i64 x.f1] := by
  obtain ⟨_, _, rfl, rfl, rfl⟩ := h
  exact rfl
theorem k30_mkM (w : World) (base : Nat) (ok : Nat → Prop) (x : S30)  : k30.M w base ok x [.int .i64 x.f0, .int .i64 x.f1] := ⟨[.int .i64 x.f0], [.int .i64 x.f1], rfl, rfl, rfl⟩
def rd_T30 (xs : List S30) (i : Int) : S30 := xs.getD i.toNat z30
theorem at_T30 {w : World} {A : Option Addr} {n : Nat} {xs : List S30} (h : Kd.C k30 w A n xs) (i : Int) (h0 : 0 ≤ i) (h1 : i < n) : ∃ ad , A = some ad ∧ w.cell? (ad.add (i.toNat * 2)) = some (.int .i64 (rd_T30 xs i).f0) ∧ w.cell? ⟨(ad.add (i.toNat * 2)).block, (ad.add (i.toNat * 2)).off + 1, none⟩ = some (.int .i64 (rd_T30 xs i).f1) := by
  obtain ⟨ad, c, e, _, hK, hc0⟩ := Kd.C_get h z30 i h0 h1
  have hc : ∀ j u, c[j]? = some u → w.cell? (ad.add (i.toNat * 2 + j)) = some u := hc0
  obtain rfl := k30_open hK
  exact ⟨ad, e, hc 0 _ rfl, by rw [← add_field _ _ 1 (by omega)]; exact hc 1 _ rfl⟩
def rd_L2 (xs : List (List S30)) (i : Int) : (List S30) := xs.getD i.toNat ([] : List S30)
theorem at_L2 {w : World} {A : Option Addr} {n : Nat} {xs : List (List S30)} (h : Kd.C (Kd.slice 30 k30) w A n xs) (i : Int) (h0 : 0 ≤ i) (h1 : i < n) : ∃ ad A0 c0, A = some ad ∧ w.cell? (ad.add i.toNat) = some (.slice A0 (rd_L2 xs i).length c0) ∧ (rd_L2 xs i).length ≤ c0 ∧ k30.C w A0 (rd_L2 xs i).length (rd_L2 xs i) := by
  obtain ⟨ad, c, e, _, hK, hc0⟩ := Kd.C_get h ([] : List S30) i h0 h1
  have hc : ∀ j u, c[j]? = some u → w.cell? (ad.add (i.toNat * 1 + j)) = some u := hc0
  obtain ⟨A0, c0, rfl, l0, g0⟩ := hK
  exact ⟨ad, A0, c0, e, by have hq := hc 0 _ rfl; rwa [Nat.mul_one, Nat.add_zero] at hq, l0, g0⟩
end Go.Proofs.Ytbcngajkokjfjaa.QRea
namespace Go.Proofs.Ytbcngajkokjfjaa.QRea
open Go.RowKit Go.Proofs.YtbcngajkokjfjaaW.PrintWords Go.Proofs.YtbcngajkokjfjaaW.PrintLast Go.Proofs.YtbcngajkokjfjaaW.PrintMore
attribute [local go_sem] max2_int min2_int max_two min_two max_three min_three max_four min_four
set_option linter.unusedVariables false
set_option linter.unusedSimpArgs false
def table_At.f (l0 : List (List (S30))) (a1 : Int) (a2 : Int) : Option (Int × Int × Bool) := if a1 < 0 then (some (a1, 0, false)) else (if a1 ≥ (l0.length : Int) then (some (a1, 0, false)) else (if a2 < 0 then (some (a1, 0, false)) else (if 0 ≤ a1 then (if a1 < (l0.length : Int) then (if a2 ≥ ((rd_L2 l0 a1).length : Int) then (some (a1, 0, false)) else (if 0 ≤ a2 then (if a2 < ((rd_L2 l0 a1).length : Int) then (some ((rd_T30 (rd_L2 l0 a1) a2).f0, (rd_T30 (rd_L2 l0 a1) a2).f1, true)) else (none)) else (none))) else (none)) else (none))))
set_option maxHeartbeats 8000000 in
set_option maxRecDepth 100000 in
theorem table_At.calls (A0 : Option Addr) (c0 : Nat) (l0 : List (List (S30))) (a1 : Int) (a2 : Int) (r1 : Int) (r2 : Int) (r3 : Bool) (w : World) (hr0 : Kd.C (Kd.slice 30 k30) w A0 l0.length l0) (hc0 : l0.length ≤ c0) (h : table_At.f l0 a1 a2 = some (r1, r2, r3)) :
    Calls Try.prog 17 #[.slice A0 l0.length c0, .int .i64 a1, .int .i64 a2] w fun e w' => e = .returned (.tuple #[.agg #[.int .i64 r1, .int .i64 r2], .bool r3]) ∧ Below w.heap.size w w' := by
  have hu30 := Try.underlying30
  have HR0 := Aside0.mk hr0
  have HC0 := Aside0.mk hc0
  clear hr0 hc0
  have HB := Aside0.mk (Below.refl w.heap.size w)
  have H : (if a1 < 0 then (some (a1, 0, false)) else (if a1 ≥ (l0.length : Int) then (some (a1, 0, false)) else (if a2 < 0 then (some (a1, 0, false)) else (if 0 ≤ a1 then (if a1 < (l0.length : Int) then (if a2 ≥ ((rd_L2 l0 a1).length : Int) then (some (a1, 0, false)) else (if 0 ≤ a2 then (if a2 < ((rd_L2 l0 a1).length : Int) then (some ((rd_T30 (rd_L2 l0 a1) a2).f0, (rd_T30 (rd_L2 l0 a1) a2).f1, true)) else (none)) else (none))) else (none)) else (none))))) = some (r1, r2, r3) := h
  clear h
  by_cases c4 : a1 < 0
  · rw [if_pos c4] at H
    have c4b0 : decide (a1 < 0) = true := decide_eq_true c4
    clear c4
    simp only [Option.some.injEq, Prod.mk.injEq] at H
    obtain ⟨rfl, rfl, rfl⟩ := H
    go_enter Try.func17, Try.ntmps17
    go_wp2_with (first | ((with_reducible refine gate_dst (N := 6) rfl ?_); (try (refine gate_guard (by rfl) ?_; dsimp only)); refine box_event ?hg (N := 6) ?hd (cs := #[.int .i64 0, .int .i64 0]) (t := 30) ?hr ?_; (case hd => rfl); (case hg => rfl); (case hr => first | (go_simp; done) | (go_simp; rfl)); intro gb101 hg w5 hbox hb; have n0_ := Aside0.mk (below_step (by repeat (first | (with_reducible first | exact HB.out | apply below_alloc | apply pw_below_drewN | apply below_drew1) | exact HB.out)) hb); have n1_ := Aside0.mk (hbox); have n2_ := Aside0.mk ((by rw [hg]; exact (below_size (by repeat (first | (with_reducible first | exact HB.out | apply below_alloc | apply pw_below_drewN | apply below_drew1) | exact HB.out))) : w.heap.size ≤ gb101)); have n3_ := Aside0.mk ((by rw [hg]; exact (below_size (by repeat (first | (with_reducible first | exact HB.out | apply below_alloc | apply pw_below_drewN | apply below_drew1) | exact HB.out))) : w.heap.size ≤ gb101)); clear HB; have HB := n0_; have BK101 := n1_; have GW101 := n2_; have GE101 := n3_; clear n0_ n1_ n2_ n3_; clear hb hbox hg; have hcz6_0 : w5.cell? ⟨gb101, 0, none⟩ = some (.int .i64 0) := (blk_cell BK101.out 0).trans rfl; have hcz6_1 : w5.cell? ⟨gb101, 1, none⟩ = some (.int .i64 0) := (blk_cell BK101.out 1).trans rfl; have hfz6_0 := blk_frozen BK101.out 0; have hfz6_1 := blk_frozen BK101.out 1))
    refine bodyPost_ret (results_ct rfl _ _ gb101 30 #[.int .i64 a1, .int .i64 0] (0, 0) _ rfl (by (with_reducible repeat (first | refine blk_drewN ?_ _ | refine blk_drew ?_ | refine blk_alloc ?_ _)); refine blk_put (cs := #[.int .i64 a1, .int .i64 0]) ?_ 1 _ rfl; (with_reducible repeat (first | refine blk_drewN ?_ _ | refine blk_drew ?_ | refine blk_alloc ?_ _)); refine blk_put (cs := #[.int .i64 0, .int .i64 0]) ?_ 0 _ rfl; (with_reducible repeat (first | refine blk_drewN ?_ _ | refine blk_drew ?_ | refine blk_alloc ?_ _)); exact BK101.out) Try.underlying30 rfl (by kernel_rfl)) rfl ?_
    exact ⟨by first | rfl | (simp [errW_none, errW_some] <;> rfl) | (simp [*, errW_none, errW_some] <;> rfl), by repeat (first | (with_reducible first | exact HB.out | apply below_alloc | apply pw_below_drewN | apply below_drew1 | refine below_set ?_ GE101.out) | exact HB.out)⟩
  · rw [if_neg c4] at H
    have c4b0 : decide (a1 < 0) = false := decide_eq_false c4
    clear c4
    by_cases c7 : a1 ≥ (l0.length : Int)
    · rw [if_pos c7] at H
      have c7b0 : decide ((l0.length : Int) ≤ a1) = true := decide_eq_true c7
      clear c7
      simp only [Option.some.injEq, Prod.mk.injEq] at H
      obtain ⟨rfl, rfl, rfl⟩ := H
      go_enter Try.func17, Try.ntmps17
      go_wp2_with (first | ((with_reducible refine gate_dst (N := 6) rfl ?_); (try (refine gate_guard (by rfl) ?_; dsimp only)); refine box_event ?hg (N := 6) ?hd (cs := #[.int .i64 0, .int .i64 0]) (t := 30) ?hr ?_; (case hd => rfl); (case hg => rfl); (case hr => first | (go_simp; done) | (go_simp; rfl)); intro gb101 hg w8 hbox hb; have n0_ := Aside0.mk (below_step (by repeat (first | (with_reducible first | exact HB.out | apply below_alloc | apply pw_below_drewN | apply below_drew1) | exact HB.out)) hb); have n1_ := Aside0.mk (hbox); have n2_ := Aside0.mk ((by rw [hg]; exact (below_size (by repeat (first | (with_reducible first | exact HB.out | apply below_alloc | apply pw_below_drewN | apply below_drew1) | exact HB.out))) : w.heap.size ≤ gb101)); have n3_ := Aside0.mk ((by rw [hg]; exact (below_size (by repeat (first | (with_reducible first | exact HB.out | apply below_alloc | apply pw_below_drewN | apply below_drew1) | exact HB.out))) : w.heap.size ≤ gb101)); clear HB; have HB := n0_; have BK101 := n1_; have GW101 := n2_; have GE101 := n3_; clear n0_ n1_ n2_ n3_; clear hb hbox hg; have hcz9_0 : w8.cell? ⟨gb101, 0, none⟩ = some (.int .i64 0) := (blk_cell BK101.out 0).trans rfl; have hcz9_1 : w8.cell? ⟨gb101, 1, none⟩ = some (.int .i64 0) := (blk_cell BK101.out 1).trans rfl; have hfz9_0 := blk_frozen BK101.out 0; have hfz9_1 := blk_frozen BK101.out 1))
      refine bodyPost_ret (results_ct rfl _ _ gb101 30 #[.int .i64 a1, .int .i64 0] (0, 0) _ rfl (by (with_reducible repeat (first | refine blk_drewN ?_ _ | refine blk_drew ?_ | refine blk_alloc ?_ _)); refine blk_put (cs := #[.int .i64 a1, .int .i64 0]) ?_ 1 _ rfl; (with_reducible repeat (first | refine blk_drewN ?_ _ | refine blk_drew ?_ | refine blk_alloc ?_ _)); refine blk_put (cs := #[.int .i64 0, .int .i64 0]) ?_ 0 _ rfl; (with_reducible repeat (first | refine blk_drewN ?_ _ | refine blk_drew ?_ | refine blk_alloc ?_ _)); exact BK101.out) Try.underlying30 rfl (by kernel_rfl)) rfl ?_
      exact ⟨by first | rfl | (simp [errW_none, errW_some] <;> rfl) | (simp [*, errW_none, errW_some] <;> rfl), by repeat (first | (with_reducible first | exact HB.out | apply below_alloc | apply pw_below_drewN | apply below_drew1 | refine below_set ?_ GE101.out) | exact HB.out)⟩
    · rw [if_neg c7] at H
      have c7b0 : decide ((l0.length : Int) ≤ a1) = false := decide_eq_false c7
      clear c7
      by_cases c10 : a2 < 0
      · rw [if_pos c10] at H
        have c10b0 : decide (a2 < 0) = true := decide_eq_true c10
        clear c10
        simp only [Option.some.injEq, Prod.mk.injEq] at H
        obtain ⟨rfl, rfl, rfl⟩ := H
        go_enter Try.func17, Try.ntmps17
        go_wp2_with (first | ((with_reducible refine gate_dst (N := 6) rfl ?_); (try (refine gate_guard (by rfl) ?_; dsimp only)); refine box_event ?hg (N := 6) ?hd (cs := #[.int .i64 0, .int .i64 0]) (t := 30) ?hr ?_; (case hd => rfl); (case hg => rfl); (case hr => first | (go_simp; done) | (go_simp; rfl)); intro gb101 hg w11 hbox hb; have n0_ := Aside0.mk (below_step (by repeat (first | (with_reducible first | exact HB.out | apply below_alloc | apply pw_below_drewN | apply below_drew1) | exact HB.out)) hb); have n1_ := Aside0.mk (hbox); have n2_ := Aside0.mk ((by rw [hg]; exact (below_size (by repeat (first | (with_reducible first | exact HB.out | apply below_alloc | apply pw_below_drewN | apply below_drew1) | exact HB.out))) : w.heap.size ≤ gb101)); have n3_ := Aside0.mk ((by rw [hg]; exact (below_size (by repeat (first | (with_reducible first | exact HB.out | apply below_alloc | apply pw_below_drewN | apply below_drew1) | exact HB.out))) : w.heap.size ≤ gb101)); clear HB; have HB := n0_; have BK101 := n1_; have GW101 := n2_; have GE101 := n3_; clear n0_ n1_ n2_ n3_; clear hb hbox hg; have hcz12_0 : w11.cell? ⟨gb101, 0, none⟩ = some (.int .i64 0) := (blk_cell BK101.out 0).trans rfl; have hcz12_1 : w11.cell? ⟨gb101, 1, none⟩ = some (.int .i64 0) := (blk_cell BK101.out 1).trans rfl; have hfz12_0 := blk_frozen BK101.out 0; have hfz12_1 := blk_frozen BK101.out 1))
        refine bodyPost_ret (results_ct rfl _ _ gb101 30 #[.int .i64 a1, .int .i64 0] (0, 0) _ rfl (by (with_reducible repeat (first | refine blk_drewN ?_ _ | refine blk_drew ?_ | refine blk_alloc ?_ _)); refine blk_put (cs := #[.int .i64 a1, .int .i64 0]) ?_ 1 _ rfl; (with_reducible repeat (first | refine blk_drewN ?_ _ | refine blk_drew ?_ | refine blk_alloc ?_ _)); refine blk_put (cs := #[.int .i64 0, .int .i64 0]) ?_ 0 _ rfl; (with_reducible repeat (first | refine blk_drewN ?_ _ | refine blk_drew ?_ | refine blk_alloc ?_ _)); exact BK101.out) Try.underlying30 rfl (by kernel_rfl)) rfl ?_
        exact ⟨by first | rfl | (simp [errW_none, errW_some] <;> rfl) | (simp [*, errW_none, errW_some] <;> rfl), by repeat (first | (with_reducible first | exact HB.out | apply below_alloc | apply pw_below_drewN | apply below_drew1 | refine below_set ?_ GE101.out) | exact HB.out)⟩
      · rw [if_neg c10] at H
        have c10b0 : decide (a2 < 0) = false := decide_eq_false c10
        clear c10
        by_cases c13 : 0 ≤ a1
        · rw [if_pos c13] at H
          have c13b0 : decide (0 ≤ a1) = true := decide_eq_true c13
          clear c13
          by_cases c14 : a1 < (l0.length : Int)
          · rw [if_pos c14] at H
            have c14b0 : decide (a1 < (l0.length : Int)) = true := decide_eq_true c14
            clear c14
            by_cases c15 : a2 ≥ ((rd_L2 l0 a1).length : Int)
            · rw [if_pos c15] at H
              have c15b0 : decide (((rd_L2 l0 a1).length : Int) ≤ a2) = true := decide_eq_true c15
              clear c15
              simp only [Option.some.injEq, Prod.mk.injEq] at H
              obtain ⟨rfl, rfl, rfl⟩ := H
              go_enter Try.func17, Try.ntmps17
              go_wp2_with (first | ((with_reducible refine gate_dst (N := 6) rfl ?_); (try (refine gate_guard (by rfl) ?_; dsimp only)); refine box_event ?hg (N := 6) ?hd (cs := #[.int .i64 0, .int .i64 0]) (t := 30) ?hr ?_; (case hd => rfl); (case hg => rfl); (case hr => first | (go_simp; done) | (go_simp; rfl)); intro gb101 hg w16 hbox hb; have n0_ := Aside0.mk (below_step (by repeat (first | (with_reducible first | exact HB.out | apply below_alloc | apply pw_below_drewN | apply below_drew1) | exact HB.out)) hb); have n1_ := Aside0.mk (hbox); have n2_ := Aside0.mk ((by rw [hg]; exact (below_size (by repeat (first | (with_reducible first | exact HB.out | apply below_alloc | apply pw_below_drewN | apply below_drew1) | exact HB.out))) : w.heap.size ≤ gb101)); have n3_ := Aside0.mk ((by rw [hg]; exact (below_size (by repeat (first | (with_reducible first | exact HB.out | apply below_alloc | apply pw_below_drewN | apply below_drew1) | exact HB.out))) : w.heap.size ≤ gb101)); clear HB; have HB := n0_; have BK101 := n1_; have GW101 := n2_; have GE101 := n3_; clear n0_ n1_ n2_ n3_; clear hb hbox hg; have p102 : 0 ≤ (a1 : Int) := of_decide_eq_true (by first | (with_reducible assumption) | assumption); have q102 : a1 < (l0.length : Int) := of_decide_eq_true (by first | (with_reducible assumption) | assumption); obtain ⟨ad102, A102_0, c102_0, e102, hx102_0, hl102_0, hi102_0⟩ := at_L2 HR0.out a1 p102 q102; cases e102; replace hx102_0 := (HB.out.cell (World.block_lt_of_cell? w _ hx102_0)).trans hx102_0; have HR102_0 := Aside0.mk hi102_0; have HC102_0 := Aside0.mk hl102_0; clear hi102_0 hl102_0; replace p102 := eq_true p102; replace q102 := eq_true q102; have hcz17_0 : w16.cell? ⟨gb101, 0, none⟩ = some (.int .i64 0) := (blk_cell BK101.out 0).trans rfl; have hcz17_1 : w16.cell? ⟨gb101, 1, none⟩ = some (.int .i64 0) := (blk_cell BK101.out 1).trans rfl; have hfz17_0 := blk_frozen BK101.out 0; have hfz17_1 := blk_frozen BK101.out 1))
              refine bodyPost_ret (results_ct rfl _ _ gb101 30 #[.int .i64 a1, .int .i64 0] (0, 0) _ rfl (by (with_reducible repeat (first | refine blk_drewN ?_ _ | refine blk_drew ?_ | refine blk_alloc ?_ _)); refine blk_put (cs := #[.int .i64 a1, .int .i64 0]) ?_ 1 _ rfl; (with_reducible repeat (first | refine blk_drewN ?_ _ | refine blk_drew ?_ | refine blk_alloc ?_ _)); refine blk_put (cs := #[.int .i64 0, .int .i64 0]) ?_ 0 _ rfl; (with_reducible repeat (first | refine blk_drewN ?_ _ | refine blk_drew ?_ | refine blk_alloc ?_ _)); exact BK101.out) Try.underlying30 rfl (by kernel_rfl)) rfl ?_
              exact ⟨by first | rfl | (simp [errW_none, errW_some] <;> rfl) | (simp [*, errW_none, errW_some] <;> rfl), by repeat (first | (with_reducible first | exact HB.out | apply below_alloc | apply pw_below_drewN | apply below_drew1 | refine below_set ?_ GE101.out) | exact HB.out)⟩
            · rw [if_neg c15] at H
              have c15b0 : decide (((rd_L2 l0 a1).length : Int) ≤ a2) = false := decide_eq_false c15
              clear c15
              by_cases c18 : 0 ≤ a2
              · rw [if_pos c18] at H
                have c18b0 : decide (0 ≤ a2) = true := decide_eq_true c18
                clear c18
                by_cases c19 : a2 < ((rd_L2 l0 a1).length : Int)
                · rw [if_pos c19] at H
                  have c19b0 : decide (a2 < ((rd_L2 l0 a1).length : Int)) = true := decide_eq_true c19
                  clear c19
                  simp only [Option.some.injEq, Prod.mk.injEq] at H
                  obtain ⟨rfl, rfl, rfl⟩ := H
                  go_enter Try.func17, Try.ntmps17
                  go_wp2_with (first | ((with_reducible refine gate_dst (N := 6) rfl ?_); (try (refine gate_guard (by rfl) ?_; dsimp only)); refine box_event ?hg (N := 6) ?hd (cs := #[.int .i64 0, .int .i64 0]) (t := 30) ?hr ?_; (case hd => rfl); (case hg => rfl); (case hr => first | (go_simp; done) | (go_simp; rfl)); intro gb101 hg w20 hbox hb; have n0_ := Aside0.mk (below_step (by repeat (first | (with_reducible first | exact HB.out | apply below_alloc | apply pw_below_drewN | apply below_drew1) | exact HB.out)) hb); have n1_ := Aside0.mk (hbox); have n2_ := Aside0.mk ((by rw [hg]; exact (below_size (by repeat (first | (with_reducible first | exact HB.out | apply below_alloc | apply pw_below_drewN | apply below_drew1) | exact HB.out))) : w.heap.size ≤ gb101)); have n3_ := Aside0.mk ((by rw [hg]; exact (below_size (by repeat (first | (with_reducible first | exact HB.out | apply below_alloc | apply pw_below_drewN | apply below_drew1) | exact HB.out))) : w.heap.size ≤ gb101)); clear HB; have HB := n0_; have BK101 := n1_; have GW101 := n2_; have GE101 := n3_; clear n0_ n1_ n2_ n3_; clear hb hbox hg; have p102 : 0 ≤ (a1 : Int) := of_decide_eq_true (by first | (with_reducible assumption) | assumption); have q102 : a1 < (l0.length : Int) := of_decide_eq_true (by first | (with_reducible assumption) | assumption); obtain ⟨ad102, A102_0, c102_0, e102, hx102_0, hl102_0, hi102_0⟩ := at_L2 HR0.out a1 p102 q102; cases e102; replace hx102_0 := (HB.out.cell (World.block_lt_of_cell? w _ hx102_0)).trans hx102_0; have HR102_0 := Aside0.mk hi102_0; have HC102_0 := Aside0.mk hl102_0; clear hi102_0 hl102_0; replace p102 := eq_true p102; replace q102 := eq_true q102; have p103 : 0 ≤ (a1 : Int) := of_decide_eq_true (by first | (with_reducible assumption) | assumption); have q103 : a1 < (l0.length : Int) := of_decide_eq_true (by first | (with_reducible assumption) | assumption); obtain ⟨ad103, A103_0, c103_0, e103, hx103_0, hl103_0, hi103_0⟩ := at_L2 HR0.out a1 p103 q103; obtain rfl : ad102 = ad103 := (by injection e103); replace hx103_0 := (HB.out.cell (World.block_lt_of_cell? w _ hx103_0)).trans hx103_0; have HR103_0 := Aside0.mk hi103_0; have HC103_0 := Aside0.mk hl103_0; clear hi103_0 hl103_0; replace p103 := eq_true p103; replace q103 := eq_true q103; have ea_ := Option.some.inj (hx102_0.symm.trans hx103_0); injection ea_ with ea_ en_ ec_; subst ea_; subst ec_; clear en_; have p104 : 0 ≤ (a2 : Int) := of_decide_eq_true (by first | (with_reducible assumption) | assumption); have q104 : a2 < ((rd_L2 l0 a1).length : Int) := of_decide_eq_true (by first | (with_reducible assumption) | assumption); obtain ⟨ad104, e104, hx104_0, hx104_1⟩ := at_T30 HR103_0.out a2 p104 q104; cases e104; replace hx104_0 := (HB.out.cell (World.block_lt_of_cell? w _ hx104_0)).trans hx104_0; replace hx104_1 := (HB.out.cell (World.block_lt_of_cell? w _ hx104_1)).trans hx104_1; replace p104 := eq_true p104; replace q104 := eq_true q104; have hcz21_0 : w20.cell? ⟨gb101, 0, none⟩ = some (.int .i64 0) := (blk_cell BK101.out 0).trans rfl; have hcz21_1 : w20.cell? ⟨gb101, 1, none⟩ = some (.int .i64 0) := (blk_cell BK101.out 1).trans rfl; have hfz21_0 := blk_frozen BK101.out 0; have hfz21_1 := blk_frozen BK101.out 1))
                  refine bodyPost_ret (results_ct rfl _ _ gb101 30 #[.int .i64 ((rd_T30 (rd_L2 l0 a1) a2).f0), .int .i64 ((rd_T30 (rd_L2 l0 a1) a2).f1)] (0, 0) _ rfl (by (with_reducible repeat (first | refine blk_drewN ?_ _ | refine blk_drew ?_ | refine blk_alloc ?_ _)); refine blk_put (cs := #[.int .i64 ((rd_T30 (rd_L2 l0 a1) a2).f0), .int .i64 0]) ?_ 1 _ rfl; (with_reducible repeat (first | refine blk_drewN ?_ _ | refine blk_drew ?_ | refine blk_alloc ?_ _)); refine blk_put (cs := #[.int .i64 0, .int .i64 0]) ?_ 0 _ rfl; (with_reducible repeat (first | refine blk_drewN ?_ _ | refine blk_drew ?_ | refine blk_alloc ?_ _)); exact BK101.out) Try.underlying30 rfl (by kernel_rfl)) rfl ?_
                  exact ⟨by first | rfl | (simp [errW_none, errW_some] <;> rfl) | (simp [*, errW_none, errW_some] <;> rfl), by repeat (first | (with_reducible first | exact HB.out | apply below_alloc | apply pw_below_drewN | apply below_drew1 | refine below_set ?_ GE101.out) | exact HB.out)⟩
                · rw [if_neg c19] at H
                  exact absurd H (by simp)
              · rw [if_neg c18] at H
                exact absurd H (by simp)
          · rw [if_neg c14] at H
            exact absurd H (by simp)
        · rw [if_neg c13] at H
          exact absurd H (by simp)
def table_Run.l0 : Nat → List (List (S30)) → Int → List (S30) → List Int → Int → Int → Option ((List (S30)))
  | 0, _, _, _, _, _, _ => none
  | k + 1, x0, x1, x7, x12, x13, x14 => if x14 < x13 then (if 0 ≤ x14 then (if x14 < (x12.length : Int) then ((table_At.f x0 x1 (rd x12 x14)).bind fun bt106 => (if bt106.2.2 = true then (if x7.length < 8796093022208 then (table_Run.l0 k x0 bt106.1 (x7 ++ [(⟨bt106.1, bt106.2.1⟩ : S30)]) x12 x13 (wrap64 (x14 + 1))) else (none)) else (table_Run.l0 k x0 x1 x7 x12 x13 (wrap64 (x14 + 1))))) else (none)) else (none)) else (some x7)
def table_Run.f (k : Nat) (l0 : List (List (S30))) (a1 : Int) (l2 : List Int) : Option ((List (S30))) := table_Run.l0 k l0 a1 ([] : List (S30)) l2 (l2.length : Int) 0
theorem table_Run.mono_l : ∀ k, (∀ y0 y1 y2 y3 y4 y5, LeO (table_Run.l0 k y0 y1 y2 y3 y4 y5) (table_Run.l0 (k + 1) y0 y1 y2 y3 y4 y5))
  | 0 => fun _ _ _ _ _ _ r h => by simp [table_Run.l0] at h
  | k + 1 => by
    have ih0 := table_Run.mono_l k
    · intro y0 y1 y2 y3 y4 y5
      unfold table_Run.l0
      repeat' first
      | (with_reducible exact ih0 _ _ _ _ _ _)
      | (with_reducible exact LeO.refl _)
      | (with_reducible exact LeO.none _)
      | (with_reducible refine LeO.ite ?_ ?_)
      | (with_reducible refine LeO.bind ?_ (fun _ => ?_))
      | exact ih0 _ _ _ _ _ _
      | exact LeO.none _
      | refine LeO.ite ?_ ?_
      | refine LeO.bind ?_ (fun _ => ?_)
theorem table_Run.mono : ∀ a0 a1 a2 k, LeO (table_Run.f k a0 a1 a2) (table_Run.f (k + 1) a0 a1 a2) := by
  intro a0 a1 a2 k
  have ih0 := table_Run.mono_l k
  unfold table_Run.f
  repeat' first
      | (with_reducible exact ih0 _ _ _ _ _ _)
      | (with_reducible exact LeO.refl _)
      | (with_reducible exact LeO.none _)
      | (with_reducible refine LeO.ite ?_ ?_)
      | (with_reducible refine LeO.bind ?_ (fun _ => ?_))
      | exact ih0 _ _ _ _ _ _
      | exact LeO.none _
      | refine LeO.ite ?_ ?_
      | refine LeO.bind ?_ (fun _ => ?_)
set_option maxHeartbeats 8000000 in
set_option maxRecDepth 100000 in
theorem table_Run.calls (k : Nat) (A0 : Option Addr) (c0 : Nat) (l0 : List (List (S30))) (a1 : Int) (A2 : Option Addr) (c2 : Nat) (l2 : List Int) (r : List (S30)) (w : World) (hr0 : Kd.C (Kd.slice 30 k30) w A0 l0.length l0) (hc0 : l0.length ≤ c0) (hr2 : Kd.C (Kd.int .i64) w A2 l2.length l2) (hc2 : l2.length ≤ c2) (h : table_Run.f k l0 a1 l2 = some r) :
    Calls Try.prog 16 #[.slice A0 l0.length c0, .int .i64 a1, .slice A2 l2.length c2] w fun e w' => ∃ v0_ : Value, e = .returned (v0_) ∧ Kd.R k30 30 w' w.heap.size (fun _ => True) v0_ r ∧ Below w.heap.size w w' := by
  have hu30 := Try.underlying30
  have HR0 := Aside0.mk hr0
  have HC0 := Aside0.mk hc0
  clear hr0 hc0
  have HR2 := Aside0.mk hr2
  have HC2 := Aside0.mk hc2
  clear hr2 hc2
  have HB := Aside0.mk (Below.refl w.heap.size w)
  have H : (table_Run.l0 k l0 a1 ([] : List (S30)) l2 (l2.length : Int) 0) = some r := h
  clear h
  have H' := Aside0.mk H
  clear H
  go_enter Try.func16, Try.ntmps16
  go_wp2
  go_loopg [1, 7, 14] k (fun kq v1 v7 v14 w' => ∃ (x1_1 : Int) (x7_1 : List (S30)) (x14_1 : Int), v1 = .int .i64 x1_1 ∧ v14 = .int .i64 x14_1 ∧ Aside0 (table_Run.l0 kq l0 x1_1 x7_1 l2 (l2.length : Int) x14_1 = some r) ∧ Aside0 (kq ≤ k) ∧ Aside0 (Kd.R k30 30 w' w.heap.size (fun _ => True) v7 x7_1) ∧ Aside0 (Below w.heap.size w w'))
  case atStart => exact ⟨(a1), (([] : List (S30))), (0), (by first | rfl | (simp; done) | (simp [*]; done)), (by first | rfl | (simp; done) | (simp [*]; done)), H', ⟨Nat.le_refl _⟩, ⟨by first | exact Kd.R_nil _ _ _ _ _ | exact Kd.N_nil _ _ _ _ _ | exact Kd.V_nil _ _ _ _ _ | exact Kd.Q_nil _ _ _ _ _ | exact Kd.S_nil _ _ _ _ _⟩, ⟨by repeat (first | (with_reducible first | exact HB.out | apply below_alloc | apply pw_below_drewN | apply below_drew1) | exact HB.out)⟩⟩
  case round =>
    clear H'
    try clear c1
    try clear c2
    try clear p2
    obtain ⟨x1_1, x7_1, x14_1, rfl, rfl, HA, HK1, HO_7, HB⟩ := hrel
    cases gk with
    | zero => exact absurd HA.out (by simp [table_Run.l0])
    | succ k1 =>
      have H := HA.out
      clear HA
      simp only [table_Run.l0] at H
      by_cases c4 : x14_1 < (l2.length : Int)
      · rw [if_pos c4] at H
        have c4b0 : decide (x14_1 < (l2.length : Int)) = true := decide_eq_true c4
        clear c4
        by_cases c5 : 0 ≤ x14_1
        · rw [if_pos c5] at H
          have c5b0 : decide (0 ≤ x14_1) = true := decide_eq_true c5
          clear c5
          by_cases c6 : x14_1 < (l2.length : Int)
          · rw [if_pos c6] at H
            have c6b0 : decide (x14_1 < (l2.length : Int)) = true := decide_eq_true c6
            clear c6
            replace H := Option.bind_eq_some_iff.mp H
            obtain ⟨⟨t106, t107, t108⟩, A70, H⟩ := H
            replace H : (if t108 = true then (if x7_1.length < 8796093022208 then (table_Run.l0 k1 l0 t106 (x7_1 ++ [(⟨t106, t107⟩ : S30)]) l2 (l2.length : Int) (wrap64 (x14_1 + 1))) else (none)) else (table_Run.l0 k1 l0 x1_1 x7_1 l2 (l2.length : Int) (wrap64 (x14_1 + 1)))) = some r := H
            have A7 := Aside0.mk A70
            clear A70
            by_cases c8 : t108 = true
            · subst c8
              have H1 : (if x7_1.length < 8796093022208 then (table_Run.l0 k1 l0 t106 (x7_1 ++ [(⟨t106, t107⟩ : S30)]) l2 (l2.length : Int) (wrap64 (x14_1 + 1))) else (none)) = some r := by rw [if_pos rfl] at H; exact H
              clear H
              have H := H1
              clear H1
              by_cases c9 : x7_1.length < 8796093022208
              · rw [if_pos c9] at H
                have LMc9 := Aside0.mk c9
                clear c9
                obtain ⟨y110, hy110⟩ : ∃ y_ : List (S30), y_ = (x7_1 ++ [(⟨t106, t107⟩ : S30)]) := ⟨_, rfl⟩
                replace H : (table_Run.l0 k1 l0 t106 y110 l2 (l2.length : Int) (wrap64 (x14_1 + 1))) = some r := by first | (rw [hy110]; with_reducible exact H) | (have H2_ := (Option.bind_some _ _).symm.trans H; rw [hy110]; with_reducible exact H2_) | (have H2_ := (Option.bind_some _ _).symm.trans H; with_reducible exact H2_) | with_reducible exact H | (rw [hy110]; exact H) | exact H
                have Ny110 := Aside0.mk hy110
                clear hy110
                have H' := Aside0.mk H
                clear H
                have p105 : 0 ≤ (x14_1 : Int) := of_decide_eq_true (by first | (with_reducible assumption) | assumption)
                have q105 : x14_1 < (l2.length : Int) := of_decide_eq_true (by first | (with_reducible assumption) | assumption)
                obtain ⟨ad105, e105, hx105_0⟩ := Kd.at_int HR2.out x14_1 p105 q105
                cases e105
                replace hx105_0 := (HB.out.cell (World.block_lt_of_cell? w _ hx105_0)).trans hx105_0
                replace p105 := eq_true p105
                replace q105 := eq_true q105
                go_wp2_with (first | ((with_reducible refine gate_callee (f := 17) rfl ?_); refine goesL_ (some 22) rfl rfl Try.func17 (by kernel_rfl) rfl #[.slice A0 l0.length c0, .int .i64 x1_1, .int .i64 (rd l2 x14_1)] rfl (by (try simp only [List.map_toArray, List.map_cons, List.map_nil]); first | done | rfl | (simp only [List.length_drop, List.length_take]; rfl)) ?_; (with_reducible refine (table_At.calls _ _ l0 x1_1 (rd l2 x14_1) t106 t107 true _ ?side1 ?side2 A7.out).mono ?_); (case side1 => repeat (first | exact (Kd.C_below HR0.out HB.out) | (with_reducible refine Kd.C_alloc ?_ _) | (with_reducible refine Kd.C_drewN ?_ _) | (with_reducible refine Kd.C_drew ?_))); (case side2 => exact HC0.out); rintro e w10 ⟨rfl, hb⟩; refine ⟨_, rfl, ?_⟩; have n0_ := Aside0.mk (Kd.R_below (by (with_reducible repeat (first | apply Kd.R_alloc | apply Kd.R_drewN | apply Kd.R_drew)); exact HO_7.out) hb); have n1_ := Aside0.mk (below_step (by repeat (first | (with_reducible first | exact HB.out | apply below_alloc | apply pw_below_drewN | apply below_drew1) | exact HB.out)) hb); clear HO_7; clear HB; have HO_7 := n0_; have HB := n1_; clear n0_ n1_; (try clear hb); (try clear hb2); (try clear hk); (try clear hi)) | ((with_reducible refine gate_dst (N := 10) rfl ?_); refine box_event ?hg (N := 10) ?hd (cs := #[.int .i64 0, .int .i64 0]) (t := 30) ?hr ?_; (case hd => rfl); (case hg => rfl); (case hr => first | (go_simp; done) | (go_simp; rfl)); intro gb109 hg w11 hbox hb; have n0_ := Aside0.mk (Kd.R_below (Kd.R_elderB (by (with_reducible repeat (first | apply Kd.R_alloc | apply Kd.R_drewN | apply Kd.R_drew)); exact HO_7.out) gb109 (Nat.le_of_eq hg.symm)) hb); have n1_ := Aside0.mk (below_step (by repeat (first | (with_reducible first | exact HB.out | apply below_alloc | apply pw_below_drewN | apply below_drew1) | exact HB.out)) hb); have n2_ := Aside0.mk (hbox); have n3_ := Aside0.mk ((by rw [hg]; exact (below_size (by repeat (first | (with_reducible first | exact HB.out | apply below_alloc | apply pw_below_drewN | apply below_drew1) | exact HB.out))) : w.heap.size ≤ gb109)); have n4_ := Aside0.mk ((by rw [hg]; exact (below_size (by repeat (first | (with_reducible first | exact HB.out | apply below_alloc | apply pw_below_drewN | apply below_drew1) | exact HB.out))) : w.heap.size ≤ gb109)); clear HO_7; clear HB; have HO_7 := n0_; have HB := n1_; have BK109 := n2_; have GW109 := n3_; have GE109 := n4_; clear n0_ n1_ n2_ n3_ n4_; clear hb hbox hg; have hcz12_0 : w11.cell? ⟨gb109, 0, none⟩ = some (.int .i64 0) := (blk_cell BK109.out 0).trans rfl; have hcz12_1 : w11.cell? ⟨gb109, 1, none⟩ = some (.int .i64 0) := (blk_cell BK109.out 1).trans rfl; have hfz12_0 := blk_frozen BK109.out 0; have hfz12_1 := blk_frozen BK109.out 1) | ((with_reducible refine gate_builtin (b := .append) (xs := #[.tmp 27, .tmp 29]) rfl ?_); at_builtin; refine Kd.R_append k30 (w0 := w) w.heap.size rfl (.tmp 27) (.tmp 29) 27 30 (.agg #[(.int .i64 0), (.int .i64 0)]) 16 rfl Try.underlying27 info30 rfl (by decide) (by omega) u7 x7_1 (⟨t106, t107⟩ : S30) [.int .i64 t106, .int .i64 t107] (fun k_ => k_ ≠ gb109) (fun _ => False) rfl (by first | (go_simp; done) | (go_simp; rfl)) ?aP (fun _ hk => hk.elim) ?aF ?aO ?aB ?aS ?aL ?_; (case aP => exact k30_mkM _ _ _ (⟨t106, t107⟩ : S30)); (case aB => exact (by repeat (first | (with_reducible first | exact HB.out | apply below_alloc | apply pw_below_drewN | apply below_drew1 | refine below_set ?_ GE109.out) | exact HB.out))); (case aF => exact (fun k_ hk => Kd.freshB (g := gb109) (o := .cells #[.int .i64 t106, .int .i64 t107] 30 (0, 0)) (by (with_reducible repeat (first | refine blk_drewN ?_ _ | refine blk_drew ?_ | refine blk_alloc ?_ _)); refine blk_put (cs := #[.int .i64 t106, .int .i64 0]) ?_ 1 _ rfl; (with_reducible repeat (first | refine blk_drewN ?_ _ | refine blk_drew ?_ | refine blk_alloc ?_ _)); refine blk_put (cs := #[.int .i64 0, .int .i64 0]) ?_ 0 _ rfl; (with_reducible repeat (first | refine blk_drewN ?_ _ | refine blk_drew ?_ | refine blk_alloc ?_ _)); exact BK109.out) k_ hk)); (case aO => exact (by (with_reducible repeat (first | apply Kd.R_alloc | apply Kd.R_drewN | apply Kd.R_drew)); exact Kd.R_mono (Kd.R_far (p := ⟨gb109, 1, none⟩) (Kd.R_far (p := ⟨gb109, 0, none⟩) (Kd.R_mono HO_7.out (fun k_ hk => (⟨hk, hk.2⟩ : _ ∧ k_ ≠ gb109))) (fun _ hk => hk.2) (.int .i64 t106)) (fun _ hk => hk.2) (.int .i64 t107)) (fun _ hk => hk.1.2))); (case aS => exact (below_size (by repeat (first | (with_reducible first | exact HB.out | apply below_alloc | apply pw_below_drewN | apply below_drew1 | refine below_set ?_ GE109.out) | exact HB.out)))); (case aL => have := LMc9.out; omega); intro v111 w13 ho hb hg hat; rw [← Ny110.out] at ho; have n0_ := Aside0.mk (blk_grown (g := gb109) (o := .cells #[.int .i64 t106, .int .i64 t107] 30 (0, 0)) (by (with_reducible repeat (first | refine blk_drewN ?_ _ | refine blk_drew ?_ | refine blk_alloc ?_ _)); refine blk_put (cs := #[.int .i64 t106, .int .i64 0]) ?_ 1 _ rfl; (with_reducible repeat (first | refine blk_drewN ?_ _ | refine blk_drew ?_ | refine blk_alloc ?_ _)); refine blk_put (cs := #[.int .i64 0, .int .i64 0]) ?_ 0 _ rfl; (with_reducible repeat (first | refine blk_drewN ?_ _ | refine blk_drew ?_ | refine blk_alloc ?_ _)); exact BK109.out) hg (Kd.R_away HO_7.out (fun _ hk => hk.2))); have n1_ := Aside0.mk (hb); have n2_ := Aside0.mk (ho); clear BK109; clear HB; clear HO_7; have BK109 := n0_; have HB := n1_; have HO112 := n2_; clear n0_ n1_ n2_; clear ho hb hg hat; have hcz14_0 : w13.cell? ⟨gb109, 0, none⟩ = some (.int .i64 t106) := (blk_cell BK109.out 0).trans rfl; have hcz14_1 : w13.cell? ⟨gb109, 1, none⟩ = some (.int .i64 t107) := (blk_cell BK109.out 1).trans rfl; have hfz14_0 := blk_frozen BK109.out 0; have hfz14_1 := blk_frozen BK109.out 1))
                go_roundg k1
                case measure => have := HK1.out; omega
                case rel => exact ⟨(t106), (y110), (wrap64 (x14_1 + 1)), (by first | rfl | (simp; done) | (simp [*]; done)), (by first | rfl | (simp; done) | (simp [*]; done)), H', ⟨by have := HK1.out; omega⟩, ⟨by (with_reducible repeat (first | apply Kd.R_alloc | apply Kd.R_drewN | apply Kd.R_drew)); exact Kd.R_mono HO112.out (fun _ hk => trivial)⟩, ⟨by repeat (first | (with_reducible first | exact HB.out | apply below_alloc | apply pw_below_drewN | apply below_drew1 | refine below_set ?_ GE109.out) | exact HB.out)⟩⟩
              · rw [if_neg c9] at H
                exact absurd H (by simp)
            · replace c8 := Bool.eq_false_iff.mpr c8
              subst c8
              have H1 : (table_Run.l0 k1 l0 x1_1 x7_1 l2 (l2.length : Int) (wrap64 (x14_1 + 1))) = some r := by rw [if_neg (show ¬ (false = true) by decide)] at H; exact H
              clear H
              have H := H1
              clear H1
              have H' := Aside0.mk H
              clear H
              have p105 : 0 ≤ (x14_1 : Int) := of_decide_eq_true (by first | (with_reducible assumption) | assumption)
              have q105 : x14_1 < (l2.length : Int) := of_decide_eq_true (by first | (with_reducible assumption) | assumption)
              obtain ⟨ad105, e105, hx105_0⟩ := Kd.at_int HR2.out x14_1 p105 q105
              cases e105
              replace hx105_0 := (HB.out.cell (World.block_lt_of_cell? w _ hx105_0)).trans hx105_0
              replace p105 := eq_true p105
              replace q105 := eq_true q105
              go_wp2_with (first | ((with_reducible refine gate_callee (f := 17) rfl ?_); refine goesL_ (some 22) rfl rfl Try.func17 (by kernel_rfl) rfl #[.slice A0 l0.length c0, .int .i64 x1_1, .int .i64 (rd l2 x14_1)] rfl (by (try simp only [List.map_toArray, List.map_cons, List.map_nil]); first | done | rfl | (simp only [List.length_drop, List.length_take]; rfl)) ?_; (with_reducible refine (table_At.calls _ _ l0 x1_1 (rd l2 x14_1) t106 t107 false _ ?side1 ?side2 A7.out).mono ?_); (case side1 => repeat (first | exact (Kd.C_below HR0.out HB.out) | (with_reducible refine Kd.C_alloc ?_ _) | (with_reducible refine Kd.C_drewN ?_ _) | (with_reducible refine Kd.C_drew ?_))); (case side2 => exact HC0.out); rintro e w15 ⟨rfl, hb⟩; refine ⟨_, rfl, ?_⟩; have n0_ := Aside0.mk (Kd.R_below (by (with_reducible repeat (first | apply Kd.R_alloc | apply Kd.R_drewN | apply Kd.R_drew)); exact HO_7.out) hb); have n1_ := Aside0.mk (below_step (by repeat (first | (with_reducible first | exact HB.out | apply below_alloc | apply pw_below_drewN | apply below_drew1) | exact HB.out)) hb); clear HO_7; clear HB; have HO_7 := n0_; have HB := n1_; clear n0_ n1_; (try clear hb); (try clear hb2); (try clear hk); (try clear hi)) | ((with_reducible refine gate_dst (N := 10) rfl ?_); refine box_event ?hg (N := 10) ?hd (cs := #[.int .i64 0, .int .i64 0]) (t := 30) ?hr ?_; (case hd => rfl); (case hg => rfl); (case hr => first | (go_simp; done) | (go_simp; rfl)); intro gb109 hg w16 hbox hb; have n0_ := Aside0.mk (Kd.R_below (Kd.R_elderB (by (with_reducible repeat (first | apply Kd.R_alloc | apply Kd.R_drewN | apply Kd.R_drew)); exact HO_7.out) gb109 (Nat.le_of_eq hg.symm)) hb); have n1_ := Aside0.mk (below_step (by repeat (first | (with_reducible first | exact HB.out | apply below_alloc | apply pw_below_drewN | apply below_drew1) | exact HB.out)) hb); have n2_ := Aside0.mk (hbox); have n3_ := Aside0.mk ((by rw [hg]; exact (below_size (by repeat (first | (with_reducible first | exact HB.out | apply below_alloc | apply pw_below_drewN | apply below_drew1) | exact HB.out))) : w.heap.size ≤ gb109)); have n4_ := Aside0.mk ((by rw [hg]; exact (below_size (by repeat (first | (with_reducible first | exact HB.out | apply below_alloc | apply pw_below_drewN | apply below_drew1) | exact HB.out))) : w.heap.size ≤ gb109)); clear HO_7; clear HB; have HO_7 := n0_; have HB := n1_; have BK109 := n2_; have GW109 := n3_; have GE109 := n4_; clear n0_ n1_ n2_ n3_ n4_; clear hb hbox hg; have hcz17_0 : w16.cell? ⟨gb109, 0, none⟩ = some (.int .i64 0) := (blk_cell BK109.out 0).trans rfl; have hcz17_1 : w16.cell? ⟨gb109, 1, none⟩ = some (.int .i64 0) := (blk_cell BK109.out 1).trans rfl; have hfz17_0 := blk_frozen BK109.out 0; have hfz17_1 := blk_frozen BK109.out 1))
              go_roundg k1
              case measure => have := HK1.out; omega
              case rel => exact ⟨(x1_1), (x7_1), (wrap64 (x14_1 + 1)), (by first | rfl | (simp; done) | (simp [*]; done)), (by first | rfl | (simp; done) | (simp [*]; done)), H', ⟨by have := HK1.out; omega⟩, ⟨by (with_reducible repeat (first | apply Kd.R_alloc | apply Kd.R_drewN | apply Kd.R_drew)); exact Kd.R_mono (Kd.R_far (p := ⟨gb109, 1, none⟩) (Kd.R_far (p := ⟨gb109, 0, none⟩) (Kd.R_mono HO_7.out (fun k_ hk => (⟨hk, hk.2⟩ : _ ∧ k_ ≠ gb109))) (fun _ hk => hk.2) (.int .i64 t106)) (fun _ hk => hk.2) (.int .i64 t107)) (fun _ hk => trivial)⟩, ⟨by repeat (first | (with_reducible first | exact HB.out | apply below_alloc | apply pw_below_drewN | apply below_drew1 | refine below_set ?_ GE109.out) | exact HB.out)⟩⟩
          · rw [if_neg c6] at H
            exact absurd H (by simp)
        · rw [if_neg c5] at H
          exact absurd H (by simp)
      · rw [if_neg c4] at H
        have c4b0 : decide (x14_1 < (l2.length : Int)) = false := decide_eq_false c4
        clear c4
        obtain rfl := Option.some.inj H
        go_wp2
        go_ret
        exact ⟨_, by first | rfl | (simp [errW_none, errW_some] <;> rfl) | (simp [*, errW_none, errW_some] <;> rfl), by (with_reducible repeat (first | apply Kd.R_alloc | apply Kd.R_drewN | apply Kd.R_drew)); exact HO_7.out, by repeat (first | (with_reducible first | exact HB.out | apply below_alloc | apply pw_below_drewN | apply below_drew1) | exact HB.out)⟩
def table_Registrar.f  : Option ((List (List (S30)))) := some (([(([(⟨2, 3⟩ : S30), (⟨0, 0⟩ : S30), (⟨0, 0⟩ : S30), (⟨0, 0⟩ : S30), (⟨0, 0⟩ : S30)] : List (S30))), (([(⟨2, 2⟩ : S30), (⟨1, 0⟩ : S30), (⟨1, 0⟩ : S30), (⟨0, 4⟩ : S30), (⟨0, 4⟩ : S30)] : List (S30))), (([(⟨2, 0⟩ : S30), (⟨1, 1⟩ : S30), (⟨1, 1⟩ : S30), (⟨2, 0⟩ : S30), (⟨0, 4⟩ : S30)] : List (S30)))] : List (List (S30))))
set_option maxHeartbeats 8000000 in
set_option maxRecDepth 100000 in
theorem table_Registrar.calls  (r : List (List (S30))) (w : World) (h : table_Registrar.f  = some r) :
    Calls Try.prog 18 #[] w fun e w' => ∃ v0_ : Value, e = .returned (v0_) ∧ Kd.N (Kd.slice 30 k30) 27 w' w.heap.size (fun k_ => (w.heap.size ≤ k_)) v0_ r ∧ Below w.heap.size w w' := by
  have hu30 := Try.underlying30
  have HB := Aside0.mk (Below.refl w.heap.size w)
  have H : (some (([(([(⟨2, 3⟩ : S30), (⟨0, 0⟩ : S30), (⟨0, 0⟩ : S30), (⟨0, 0⟩ : S30), (⟨0, 0⟩ : S30)] : List (S30))), (([(⟨2, 2⟩ : S30), (⟨1, 0⟩ : S30), (⟨1, 0⟩ : S30), (⟨0, 4⟩ : S30), (⟨0, 4⟩ : S30)] : List (S30))), (([(⟨2, 0⟩ : S30), (⟨1, 1⟩ : S30), (⟨1, 1⟩ : S30), (⟨2, 0⟩ : S30), (⟨0, 4⟩ : S30)] : List (S30)))] : List (List (S30))))) = some r := h
  clear h
  obtain ⟨y113, hy113⟩ : ∃ y_ : List (S30), y_ = (([(⟨2, 3⟩ : S30), (⟨0, 0⟩ : S30), (⟨0, 0⟩ : S30), (⟨0, 0⟩ : S30), (⟨0, 0⟩ : S30)] : List (S30))) := ⟨_, rfl⟩
  replace H : (some (([y113, (([(⟨2, 2⟩ : S30), (⟨1, 0⟩ : S30), (⟨1, 0⟩ : S30), (⟨0, 4⟩ : S30), (⟨0, 4⟩ : S30)] : List (S30))), (([(⟨2, 0⟩ : S30), (⟨1, 1⟩ : S30), (⟨1, 1⟩ : S30), (⟨2, 0⟩ : S30), (⟨0, 4⟩ : S30)] : List (S30)))] : List (List (S30))))) = some r := by first | (rw [hy113]; with_reducible exact H) | (have H2_ := (Option.bind_some _ _).symm.trans H; rw [hy113]; with_reducible exact H2_) | (have H2_ := (Option.bind_some _ _).symm.trans H; with_reducible exact H2_) | with_reducible exact H | (rw [hy113]; exact H) | exact H
  have Ny113 := Aside0.mk hy113
  clear hy113
  obtain ⟨y116, hy116⟩ : ∃ y_ : List (S30), y_ = (([(⟨2, 2⟩ : S30), (⟨1, 0⟩ : S30), (⟨1, 0⟩ : S30), (⟨0, 4⟩ : S30), (⟨0, 4⟩ : S30)] : List (S30))) := ⟨_, rfl⟩
  replace H : (some (([y113, y116, (([(⟨2, 0⟩ : S30), (⟨1, 1⟩ : S30), (⟨1, 1⟩ : S30), (⟨2, 0⟩ : S30), (⟨0, 4⟩ : S30)] : List (S30)))] : List (List (S30))))) = some r := by first | (rw [hy116]; with_reducible exact H) | (have H2_ := (Option.bind_some _ _).symm.trans H; rw [hy116]; with_reducible exact H2_) | (have H2_ := (Option.bind_some _ _).symm.trans H; with_reducible exact H2_) | with_reducible exact H | (rw [hy116]; exact H) | exact H
  have Ny116 := Aside0.mk hy116
  clear hy116
  obtain ⟨y119, hy119⟩ : ∃ y_ : List (S30), y_ = (([(⟨2, 0⟩ : S30), (⟨1, 1⟩ : S30), (⟨1, 1⟩ : S30), (⟨2, 0⟩ : S30), (⟨0, 4⟩ : S30)] : List (S30))) := ⟨_, rfl⟩
  replace H : (some (([y113, y116, y119] : List (List (S30))))) = some r := by first | (rw [hy119]; with_reducible exact H) | (have H2_ := (Option.bind_some _ _).symm.trans H; rw [hy119]; with_reducible exact H2_) | (have H2_ := (Option.bind_some _ _).symm.trans H; with_reducible exact H2_) | with_reducible exact H | (rw [hy119]; exact H) | exact H
  have Ny119 := Aside0.mk hy119
  clear hy119
  obtain ⟨y122, hy122⟩ : ∃ y_ : List (List (S30)), y_ = (([y113, y116, y119] : List (List (S30)))) := ⟨_, rfl⟩
  replace H : (some y122) = some r := by first | (rw [hy122]; with_reducible exact H) | (have H2_ := (Option.bind_some _ _).symm.trans H; rw [hy122]; with_reducible exact H2_) | (have H2_ := (Option.bind_some _ _).symm.trans H; with_reducible exact H2_) | with_reducible exact H | (rw [hy122]; exact H) | exact H
  have Ny122 := Aside0.mk hy122
  clear hy122
  obtain rfl := Option.some.inj H
  go_enter Try.func18, Try.ntmps18
  go_wp2_with (first | ((with_reducible refine gate_dst (N := 6) rfl ?_); refine Kd.R_lit k30 _ 30 ?hg (N := 6) ?hd (xs := ([(⟨2, 3⟩ : S30), (⟨0, 0⟩ : S30), (⟨0, 0⟩ : S30), (⟨0, 0⟩ : S30), (⟨0, 0⟩ : S30)] : List (S30))) (inner := [.int .i64 2, .int .i64 3, .int .i64 0, .int .i64 0, .int .i64 0, .int .i64 0, .int .i64 0, .int .i64 0, .int .i64 0, .int .i64 0]) (ok := fun _ => True) (okp := fun _ => True) ?hr ?hp (fun _ hk => hk) trivial (Below.refl _ _) (Nat.le_refl _) (by simp) ?_; (case hd => rfl); (case hg => rfl); (case hr => first | (go_simp; done) | (go_simp; rfl)); (case hp => exact (Reps.c2 (show Kd.M k30 _ _ _ (⟨2, 3⟩ : S30) [.int .i64 2, .int .i64 3] from (k30_mkM _ _ _ (⟨2, 3⟩ : S30) )) (Reps.c2 (show Kd.M k30 _ _ _ (⟨0, 0⟩ : S30) [.int .i64 0, .int .i64 0] from (k30_mkM _ _ _ (⟨0, 0⟩ : S30) )) (Reps.c2 (show Kd.M k30 _ _ _ (⟨0, 0⟩ : S30) [.int .i64 0, .int .i64 0] from (k30_mkM _ _ _ (⟨0, 0⟩ : S30) )) (Reps.c2 (show Kd.M k30 _ _ _ (⟨0, 0⟩ : S30) [.int .i64 0, .int .i64 0] from (k30_mkM _ _ _ (⟨0, 0⟩ : S30) )) (Reps.c2 (show Kd.M k30 _ _ _ (⟨0, 0⟩ : S30) [.int .i64 0, .int .i64 0] from (k30_mkM _ _ _ (⟨0, 0⟩ : S30) )) (Reps.none _ _))))))); intro v114 w1 ho2 hb hg_ hnew_; clear hg_ hnew_; (first | rw [← Ny113.out] at ho2 | (simp only [Int.reduceToNat] at ho2; rw [← Ny113.out] at ho2)); have n0_ := Aside0.mk (Kd.R_lower (Kd.R_newM (M := fun k_ => (w.heap.size ≤ k_)) ho2 (below_size (by repeat (first | (with_reducible first | exact HB.out | apply below_alloc | apply pw_below_drewN | apply below_drew1) | exact HB.out))) (fun k_ h_ => h_)) (below_size (by repeat (first | (with_reducible first | exact HB.out | apply below_alloc | apply pw_below_drewN | apply below_drew1) | exact HB.out)))); have n1_ := Aside0.mk (below_step (by repeat (first | (with_reducible first | exact HB.out | apply below_alloc | apply pw_below_drewN | apply below_drew1) | exact HB.out)) hb); clear HB; have HO115 := n0_; have HB := n1_; clear n0_ n1_; clear hb ho2) | ((with_reducible refine gate_dst (N := 12) rfl ?_); refine Kd.R_lit k30 _ 30 ?hg (N := 12) ?hd (xs := ([(⟨2, 2⟩ : S30), (⟨1, 0⟩ : S30), (⟨1, 0⟩ : S30), (⟨0, 4⟩ : S30), (⟨0, 4⟩ : S30)] : List (S30))) (inner := [.int .i64 2, .int .i64 2, .int .i64 1, .int .i64 0, .int .i64 1, .int .i64 0, .int .i64 0, .int .i64 4, .int .i64 0, .int .i64 4]) (ok := fun _ => True) (okp := fun _ => True) ?hr ?hp (fun _ hk => hk) trivial (Below.refl _ _) (Nat.le_refl _) (by simp) ?_; (case hd => rfl); (case hg => rfl); (case hr => first | (go_simp; done) | (go_simp; rfl)); (case hp => exact (Reps.c2 (show Kd.M k30 _ _ _ (⟨2, 2⟩ : S30) [.int .i64 2, .int .i64 2] from (k30_mkM _ _ _ (⟨2, 2⟩ : S30) )) (Reps.c2 (show Kd.M k30 _ _ _ (⟨1, 0⟩ : S30) [.int .i64 1, .int .i64 0] from (k30_mkM _ _ _ (⟨1, 0⟩ : S30) )) (Reps.c2 (show Kd.M k30 _ _ _ (⟨1, 0⟩ : S30) [.int .i64 1, .int .i64 0] from (k30_mkM _ _ _ (⟨1, 0⟩ : S30) )) (Reps.c2 (show Kd.M k30 _ _ _ (⟨0, 4⟩ : S30) [.int .i64 0, .int .i64 4] from (k30_mkM _ _ _ (⟨0, 4⟩ : S30) )) (Reps.c2 (show Kd.M k30 _ _ _ (⟨0, 4⟩ : S30) [.int .i64 0, .int .i64 4] from (k30_mkM _ _ _ (⟨0, 4⟩ : S30) )) (Reps.none _ _))))))); intro v117 w3 ho4 hb hg_ hnew_; clear hg_ hnew_; (first | rw [← Ny116.out] at ho4 | (simp only [Int.reduceToNat] at ho4; rw [← Ny116.out] at ho4)); have n0_ := Aside0.mk (Kd.R_elder' (by (with_reducible repeat (first | apply Kd.R_alloc | apply Kd.R_drewN | apply Kd.R_drew)); exact HO115.out) (Kd.R_base ho4) hb); have n1_ := Aside0.mk (Kd.R_lower (Kd.R_new' (Kd.R_newM (M := fun k_ => (w.heap.size ≤ k_)) ho4 (below_size (by repeat (first | (with_reducible first | exact HB.out | apply below_alloc | apply pw_below_drewN | apply below_drew1) | exact HB.out))) (fun k_ h_ => h_)) (Kd.R_lt (by (with_reducible repeat (first | apply Kd.R_alloc | apply Kd.R_drewN | apply Kd.R_drew)); exact HO115.out))) (below_size (by repeat (first | (with_reducible first | exact HB.out | apply below_alloc | apply pw_below_drewN | apply below_drew1) | exact HB.out)))); have n2_ := Aside0.mk (below_step (by repeat (first | (with_reducible first | exact HB.out | apply below_alloc | apply pw_below_drewN | apply below_drew1) | exact HB.out)) hb); clear HO115; clear HB; have HO115 := n0_; have HO118 := n1_; have HB := n2_; clear n0_ n1_ n2_; clear hb ho4) | ((with_reducible refine gate_dst (N := 18) rfl ?_); refine Kd.R_lit k30 _ 30 ?hg (N := 18) ?hd (xs := ([(⟨2, 0⟩ : S30), (⟨1, 1⟩ : S30), (⟨1, 1⟩ : S30), (⟨2, 0⟩ : S30), (⟨0, 4⟩ : S30)] : List (S30))) (inner := [.int .i64 2, .int .i64 0, .int .i64 1, .int .i64 1, .int .i64 1, .int .i64 1, .int .i64 2, .int .i64 0, .int .i64 0, .int .i64 4]) (ok := fun _ => True) (okp := fun _ => True) ?hr ?hp (fun _ hk => hk) trivial (Below.refl _ _) (Nat.le_refl _) (by simp) ?_; (case hd => rfl); (case hg => rfl); (case hr => first | (go_simp; done) | (go_simp; rfl)); (case hp => exact (Reps.c2 (show Kd.M k30 _ _ _ (⟨2, 0⟩ : S30) [.int .i64 2, .int .i64 0] from (k30_mkM _ _ _ (⟨2, 0⟩ : S30) )) (Reps.c2 (show Kd.M k30 _ _ _ (⟨1, 1⟩ : S30) [.int .i64 1, .int .i64 1] from (k30_mkM _ _ _ (⟨1, 1⟩ : S30) )) (Reps.c2 (show Kd.M k30 _ _ _ (⟨1, 1⟩ : S30) [.int .i64 1, .int .i64 1] from (k30_mkM _ _ _ (⟨1, 1⟩ : S30) )) (Reps.c2 (show Kd.M k30 _ _ _ (⟨2, 0⟩ : S30) [.int .i64 2, .int .i64 0] from (k30_mkM _ _ _ (⟨2, 0⟩ : S30) )) (Reps.c2 (show Kd.M k30 _ _ _ (⟨0, 4⟩ : S30) [.int .i64 0, .int .i64 4] from (k30_mkM _ _ _ (⟨0, 4⟩ : S30) )) (Reps.none _ _))))))); intro v120 w5 ho6 hb hg_ hnew_; clear hg_ hnew_; (first | rw [← Ny119.out] at ho6 | (simp only [Int.reduceToNat] at ho6; rw [← Ny119.out] at ho6)); have n0_ := Aside0.mk (Kd.R_elder' (by (with_reducible repeat (first | apply Kd.R_alloc | apply Kd.R_drewN | apply Kd.R_drew)); exact HO115.out) (Kd.R_base ho6) hb); have n1_ := Aside0.mk (Kd.R_elder' (by (with_reducible repeat (first | apply Kd.R_alloc | apply Kd.R_drewN | apply Kd.R_drew)); exact HO118.out) (Kd.R_base ho6) hb); have n2_ := Aside0.mk (Kd.R_lower (Kd.R_new' (Kd.R_new' (Kd.R_newM (M := fun k_ => (w.heap.size ≤ k_)) ho6 (below_size (by repeat (first | (with_reducible first | exact HB.out | apply below_alloc | apply pw_below_drewN | apply below_drew1) | exact HB.out))) (fun k_ h_ => h_)) (Kd.R_lt (by (with_reducible repeat (first | apply Kd.R_alloc | apply Kd.R_drewN | apply Kd.R_drew)); exact HO115.out))) (Kd.R_lt (by (with_reducible repeat (first | apply Kd.R_alloc | apply Kd.R_drewN | apply Kd.R_drew)); exact HO118.out))) (below_size (by repeat (first | (with_reducible first | exact HB.out | apply below_alloc | apply pw_below_drewN | apply below_drew1) | exact HB.out)))); have n3_ := Aside0.mk (below_step (by repeat (first | (with_reducible first | exact HB.out | apply below_alloc | apply pw_below_drewN | apply below_drew1) | exact HB.out)) hb); clear HO115; clear HO118; clear HB; have HO115 := n0_; have HO118 := n1_; have HO121 := n2_; have HB := n3_; clear n0_ n1_ n2_ n3_; clear hb ho6; obtain ⟨Ao7, co7, eo7⟩ := Kd.R_slice HO115.out; subst eo7; obtain ⟨Ao8, co8, eo8⟩ := Kd.R_slice HO118.out; subst eo8; obtain ⟨Ao9, co9, eo9⟩ := Kd.R_slice HO121.out; subst eo9) | ((with_reducible refine gate_dst (N := 19) rfl ?_); refine Kd.N_lit (Kd.slice 30 k30) _ 27 ?hg (N' := 19) ?hd (xs := ([y113, y116, y119] : List (List (S30)))) (inner := [.slice Ao7 y113.length co7, .slice Ao8 y116.length co8, .slice Ao9 y119.length co9]) (ok := (fun k_ => (w.heap.size ≤ k_))) (okp := (fun k_ => (w.heap.size ≤ k_))) ?hr ?hp (fun _ hk => hk) ((show ∀ k_, w5.heap.size ≤ k_ → (fun k_ => (w.heap.size ≤ k_)) k_ from fun k_ hk => (Nat.le_trans (below_size (by repeat (first | (with_reducible first | exact HB.out | apply below_alloc | apply pw_below_drewN | apply below_drew1) | exact HB.out))) hk)) _ (Nat.le_refl _)) (Below.refl _ _) (Nat.le_refl _) (by simp) ?_; (case hd => rfl); (case hg => rfl); (case hr => first | (go_simp; done) | (go_simp; rfl)); (case hp => exact (Reps.one (show Kd.FK (Kd.slice 30 k30) _ _ y113 [.slice Ao7 y113.length co7] from (Kd.FK_slice_mk (Kd.R_reads' (Kd.R_mono (ok' := (fun k_ => (w.heap.size ≤ k_))) (HO115.out) (fun k_ hk => hk.1.1.1))).2.1 (Kd.R_F (Kd.R_mono (ok' := (fun k_ => (w.heap.size ≤ k_))) (HO115.out) (fun k_ hk => hk.1.1.1))))) (Reps.one (show Kd.FK (Kd.slice 30 k30) _ _ y116 [.slice Ao8 y116.length co8] from (Kd.FK_slice_mk (Kd.R_reads' (Kd.R_mono (ok' := (fun k_ => (w.heap.size ≤ k_))) (HO118.out) (fun k_ hk => hk.1.1.1))).2.1 (Kd.R_F (Kd.R_mono (ok' := (fun k_ => (w.heap.size ≤ k_))) (HO118.out) (fun k_ hk => hk.1.1.1))))) (Reps.one (show Kd.FK (Kd.slice 30 k30) _ _ y119 [.slice Ao9 y119.length co9] from (Kd.FK_slice_mk (Kd.R_reads' (Kd.R_mono (ok' := (fun k_ => (w.heap.size ≤ k_))) (HO121.out) (fun k_ hk => hk.1.1.1))).2.1 (Kd.R_F (Kd.R_mono (ok' := (fun k_ => (w.heap.size ≤ k_))) (HO121.out) (fun k_ hk => hk.1.1.1))))) (Reps.none _ _))))); intro v123 w10 ho11 hb hg_ hnew_; clear hg_ hnew_; (first | rw [← Ny122.out] at ho11 | (simp only [Int.reduceToNat] at ho11; rw [← Ny122.out] at ho11)); have n0_ := Aside0.mk (Kd.N_lower ho11 (below_size (by repeat (first | (with_reducible first | exact HB.out | apply below_alloc | apply pw_below_drewN | apply below_drew1) | exact HB.out)))); have n1_ := Aside0.mk (below_step (by repeat (first | (with_reducible first | exact HB.out | apply below_alloc | apply pw_below_drewN | apply below_drew1) | exact HB.out)) hb); clear HB; clear HO115; clear HO118; clear HO121; have HO124 := n0_; have HB := n1_; clear n0_ n1_; clear hb ho11))
  go_ret
  exact ⟨_, by first | rfl | (simp [errW_none, errW_some] <;> rfl) | (simp [*, errW_none, errW_some] <;> rfl), by (with_reducible repeat (first | apply Kd.N_alloc | apply Kd.N_drewN | apply Kd.N_drew)); exact HO124.out, by repeat (first | (with_reducible first | exact HB.out | apply below_alloc | apply pw_below_drewN | apply below_drew1) | exact HB.out)⟩
def kissgatelaw13_alive.f (k : Nat)  : Option (Bool) := (table_Registrar.f).bind fun t125 => ((table_Run.f k t125 0 (([0, 1, 3] : List Int))).bind fun t131 => (if (t131.length : Int) = 3 then (if 0 < (t131.length : Int) then (if ((rd_T30 t131 0).f0) = 2 then (if 1 < (t131.length : Int) then (if ((rd_T30 t131 1).f0) = 1 then (if 2 < (t131.length : Int) then (if ((rd_T30 t131 2).f0) = 0 then (some (((rd_T30 t131 2).f1) == 4)) else (some false)) else (none)) else (some false)) else (none)) else (some false)) else (none)) else (some false)))
theorem kissgatelaw13_alive.mono : ∀ k, LeO (kissgatelaw13_alive.f k ) (kissgatelaw13_alive.f (k + 1) ) := by
  intro  k
  unfold kissgatelaw13_alive.f
  repeat' first
      | (with_reducible exact table_Run.mono _ _ _ _)
      | (with_reducible exact LeO.refl _)
      | (with_reducible exact LeO.none _)
      | (with_reducible refine LeO.ite ?_ ?_)
      | (with_reducible refine LeO.bind ?_ (fun _ => ?_))
      | exact table_Run.mono _ _ _ _
      | exact LeO.none _
      | refine LeO.ite ?_ ?_
      | refine LeO.bind ?_ (fun _ => ?_)
set_option maxHeartbeats 8000000 in
set_option maxRecDepth 100000 in
theorem kissgatelaw13_alive.calls (k : Nat)  (r : Bool) (w : World) (h : kissgatelaw13_alive.f k  = some r) :
    Calls Try.prog 14 #[] w fun e w' => e = .returned (.bool r) ∧ Below w.heap.size w w' := by
  have HB := Aside0.mk (Below.refl w.heap.size w)
  have H : ((table_Registrar.f).bind fun t125 => ((table_Run.f k t125 0 (([0, 1, 3] : List Int))).bind fun t131 => (if (t131.length : Int) = 3 then (if 0 < (t131.length : Int) then (if ((rd_T30 t131 0).f0) = 2 then (if 1 < (t131.length : Int) then (if ((rd_T30 t131 1).f0) = 1 then (if 2 < (t131.length : Int) then (if ((rd_T30 t131 2).f0) = 0 then (some (((rd_T30 t131 2).f1) == 4)) else (some false)) else (none)) else (some false)) else (none)) else (some false)) else (none)) else (some false)))) = some r := h
  clear h
  replace H := Option.bind_eq_some_iff.mp H
  obtain ⟨t125, A10, H⟩ := H
  replace H : ((table_Run.f k t125 0 (([0, 1, 3] : List Int))).bind fun t131 => (if (t131.length : Int) = 3 then (if 0 < (t131.length : Int) then (if ((rd_T30 t131 0).f0) = 2 then (if 1 < (t131.length : Int) then (if ((rd_T30 t131 1).f0) = 1 then (if 2 < (t131.length : Int) then (if ((rd_T30 t131 2).f0) = 0 then (some (((rd_T30 t131 2).f1) == 4)) else (some false)) else (none)) else (some false)) else (none)) else (some false)) else (none)) else (some false))) = some r := H
  have A1 := Aside0.mk A10
  clear A10
  obtain ⟨y128, hy128⟩ : ∃ y_ : List Int, y_ = (([0, 1, 3] : List Int)) := ⟨_, rfl⟩
  replace H : ((table_Run.f k t125 0 y128).bind fun t131 => (if (t131.length : Int) = 3 then (if 0 < (t131.length : Int) then (if ((rd_T30 t131 0).f0) = 2 then (if 1 < (t131.length : Int) then (if ((rd_T30 t131 1).f0) = 1 then (if 2 < (t131.length : Int) then (if ((rd_T30 t131 2).f0) = 0 then (some (((rd_T30 t131 2).f1) == 4)) else (some false)) else (none)) else (some false)) else (none)) else (some false)) else (none)) else (some false))) = some r := by first | (rw [hy128]; with_reducible exact H) | (have H2_ := (Option.bind_some _ _).symm.trans H; rw [hy128]; with_reducible exact H2_) | (have H2_ := (Option.bind_some _ _).symm.trans H; with_reducible exact H2_) | with_reducible exact H | (rw [hy128]; exact H) | exact H
  have Ny128 := Aside0.mk hy128
  clear hy128
  replace H := Option.bind_eq_some_iff.mp H
  obtain ⟨t131, A20, H⟩ := H
  replace H : (if (t131.length : Int) = 3 then (if 0 < (t131.length : Int) then (if ((rd_T30 t131 0).f0) = 2 then (if 1 < (t131.length : Int) then (if ((rd_T30 t131 1).f0) = 1 then (if 2 < (t131.length : Int) then (if ((rd_T30 t131 2).f0) = 0 then (some (((rd_T30 t131 2).f1) == 4)) else (some false)) else (none)) else (some false)) else (none)) else (some false)) else (none)) else (some false)) = some r := H
  have A2 := Aside0.mk A20
  clear A20
  by_cases c3 : (t131.length : Int) = 3
  · rw [if_pos c3] at H
    have c3b0 : ((t131.length : Int) == 3) = true := beq_iff_eq.mpr c3
    have c3b1 : ((t131.length : Int) != 3) = false := bne_eq_false_iff_eq.mpr c3
    clear c3
    by_cases c4 : 0 < (t131.length : Int)
    · rw [if_pos c4] at H
      have c4b0 : decide (0 < (t131.length : Int)) = true := decide_eq_true c4
      have c4b1 : decide (0 < t131.length) = true := decide_eq_true (by omega)
      clear c4
      by_cases c5 : ((rd_T30 t131 0).f0) = 2
      · rw [if_pos c5] at H
        have c5b0 : (((rd_T30 t131 0).f0) == 2) = true := beq_iff_eq.mpr c5
        have c5b1 : (((rd_T30 t131 0).f0) != 2) = false := bne_eq_false_iff_eq.mpr c5
        clear c5
        by_cases c6 : 1 < (t131.length : Int)
        · rw [if_pos c6] at H
          have c6b0 : decide (1 < (t131.length : Int)) = true := decide_eq_true c6
          have c6b1 : decide (1 < t131.length) = true := decide_eq_true (by omega)
          clear c6
          by_cases c7 : ((rd_T30 t131 1).f0) = 1
          · rw [if_pos c7] at H
            have c7b0 : (((rd_T30 t131 1).f0) == 1) = true := beq_iff_eq.mpr c7
            have c7b1 : (((rd_T30 t131 1).f0) != 1) = false := bne_eq_false_iff_eq.mpr c7
            clear c7
            by_cases c8 : 2 < (t131.length : Int)
            · rw [if_pos c8] at H
              have c8b0 : decide (2 < (t131.length : Int)) = true := decide_eq_true c8
              have c8b1 : decide (2 < t131.length) = true := decide_eq_true (by omega)
              clear c8
              by_cases c9 : ((rd_T30 t131 2).f0) = 0
              · rw [if_pos c9] at H
                have c9b0 : (((rd_T30 t131 2).f0) == 0) = true := beq_iff_eq.mpr c9
                have c9b1 : (((rd_T30 t131 2).f0) != 0) = false := bne_eq_false_iff_eq.mpr c9
                clear c9
                obtain rfl := Option.some.inj H
                go_enter Try.func14, Try.ntmps14
                go_wp2_with (first | ((with_reducible refine gate_callee (f := 18) rfl ?_); refine goesL_ (some 2) rfl rfl Try.func18 (by kernel_rfl) rfl #[] rfl (by (try simp only [List.map_toArray, List.map_cons, List.map_nil]); first | done | rfl | (simp only [List.length_drop, List.length_take]; rfl)) ?_; (with_reducible refine (table_Registrar.calls  t125 _ A1.out).mono ?_); rintro e w10 ⟨v126, rfl, ho0, hb⟩; refine ⟨_, rfl, ?_⟩; have n0_ := Aside0.mk (Kd.N_lower (Kd.N_mono (ok' := fun k_ => True) ho0 (fun k_ hk_ => trivial)) (below_size (by repeat (first | (with_reducible first | exact HB.out | apply below_alloc | apply pw_below_drewN | apply below_drew1) | exact HB.out)))); have n1_ := Aside0.mk (below_step (by repeat (first | (with_reducible first | exact HB.out | apply below_alloc | apply pw_below_drewN | apply below_drew1) | exact HB.out)) hb); clear HB; have HO127 := n0_; have HB := n1_; clear n0_ n1_; (try clear hb); (try clear hb2); (try clear hk); (try clear hi); (try clear ho0)) | ((with_reducible refine gate_dst (N := 3) rfl ?_); refine Kd.R_lit (Kd.int .i64) _ 3 ?hg (N := 3) ?hd (xs := ([0, 1, 3] : List Int)) (inner := [.int .i64 0, .int .i64 1, .int .i64 3]) (ok := fun _ => True) (okp := fun _ => True) ?hr ?hp (fun _ hk => hk) trivial (Below.refl _ _) (Nat.le_refl _) (by simp) ?_; (case hd => rfl); (case hg => rfl); (case hr => first | (go_simp; done) | (go_simp; rfl)); (case hp => exact (Reps.one (show Kd.M (Kd.int .i64) _ _ _ 0 [.int .i64 0] from rfl) (Reps.one (show Kd.M (Kd.int .i64) _ _ _ 1 [.int .i64 1] from rfl) (Reps.one (show Kd.M (Kd.int .i64) _ _ _ 3 [.int .i64 3] from rfl) (Reps.none _ _))))); intro v129 w11 ho12 hb hg_ hnew_; clear hg_ hnew_; (first | rw [← Ny128.out] at ho12 | (simp only [Int.reduceToNat] at ho12; rw [← Ny128.out] at ho12)); have n0_ := Aside0.mk (Kd.N_elder' (by (with_reducible repeat (first | apply Kd.N_alloc | apply Kd.N_drewN | apply Kd.N_drew)); exact HO127.out) (Kd.R_base ho12) hb); have n1_ := Aside0.mk (Kd.R_lower ho12 (below_size (by repeat (first | (with_reducible first | exact HB.out | apply below_alloc | apply pw_below_drewN | apply below_drew1) | exact HB.out)))); have n2_ := Aside0.mk (below_step (by repeat (first | (with_reducible first | exact HB.out | apply below_alloc | apply pw_below_drewN | apply below_drew1) | exact HB.out)) hb); clear HO127; clear HB; have HO127 := n0_; have HO130 := n1_; have HB := n2_; clear n0_ n1_ n2_; clear hb ho12; obtain ⟨Ao13, co13, eo13⟩ := Kd.N_slice HO127.out; subst eo13; obtain ⟨Ao14, co14, eo14⟩ := Kd.R_slice HO130.out; subst eo14) | ((with_reducible refine gate_callee (f := 16) rfl ?_); refine goesL_ (some 4) rfl rfl Try.func16 (by kernel_rfl) rfl #[.slice Ao13 t125.length co13, .int .i64 0, .slice Ao14 y128.length co14] rfl (by (try simp only [List.map_toArray, List.map_cons, List.map_nil]); first | done | rfl | (simp only [List.length_drop, List.length_take]; rfl)) ?_; (with_reducible refine (table_Run.calls k _ _ t125 0 _ _ y128 t131 _ ?side1 ?side2 ?side3 ?side4 A2.out).mono ?_); (case side1 => repeat (first | exact (Kd.N_reads' HO127.out).2.2 | (with_reducible refine Kd.C_alloc ?_ _) | (with_reducible refine Kd.C_drewN ?_ _) | (with_reducible refine Kd.C_drew ?_))); (case side2 => exact (Kd.N_reads' HO127.out).2.1); (case side3 => repeat (first | exact (Kd.R_reads' HO130.out).2.2 | (with_reducible refine Kd.C_alloc ?_ _) | (with_reducible refine Kd.C_drewN ?_ _) | (with_reducible refine Kd.C_drew ?_))); (case side4 => exact (Kd.R_reads' HO130.out).2.1); rintro e w15 ⟨v132, rfl, ho0, hb⟩; refine ⟨_, rfl, ?_⟩; have n0_ := Aside0.mk (Kd.N_elder' (by (with_reducible repeat (first | apply Kd.N_alloc | apply Kd.N_drewN | apply Kd.N_drew)); exact HO127.out) (Kd.R_base ho0) hb); have n1_ := Aside0.mk (Kd.R_below (by (with_reducible repeat (first | apply Kd.R_alloc | apply Kd.R_drewN | apply Kd.R_drew)); exact HO130.out) hb); have n2_ := Aside0.mk (Kd.R_lower ho0 (below_size (by repeat (first | (with_reducible first | exact HB.out | apply below_alloc | apply pw_below_drewN | apply below_drew1) | exact HB.out)))); have n3_ := Aside0.mk (below_step (by repeat (first | (with_reducible first | exact HB.out | apply below_alloc | apply pw_below_drewN | apply below_drew1) | exact HB.out)) hb); clear HO127; clear HO130; clear HB; have HO127 := n0_; have HO130 := n1_; have HO133 := n2_; have HB := n3_; clear n0_ n1_ n2_ n3_; (try clear hb); (try clear hb2); (try clear hk); (try clear hi); (try clear ho0); obtain ⟨Ao16, co16, eo16⟩ := Kd.R_slice HO133.out; subst eo16; have p134 : 0 ≤ (0 : Int) := (by omega); have q134 : 0 < (t131.length : Int) := of_decide_eq_true (by first | (with_reducible assumption) | assumption); obtain ⟨ad134, e134, hx134_0, hx134_1⟩ := at_T30 (Kd.R_reads' HO133.out).2.2 0 p134 q134; cases e134; have qi134 : (0 < t131.length) = True := eq_true (by omega); (try rw [show ((0 : Int)).toNat = 0 from rfl] at hx134_0); (try rw [show 0 * 2 = 0 from rfl] at hx134_0); (try rw [Addr.add_zero'] at hx134_0); (try rw [show ((0 : Int)).toNat = 0 from rfl] at hx134_1); (try rw [show 0 * 2 = 0 from rfl] at hx134_1); (try rw [Addr.add_zero'] at hx134_1); replace p134 := eq_true p134; replace q134 := eq_true q134; have p135 : 0 ≤ (1 : Int) := (by omega); have q135 : 1 < (t131.length : Int) := of_decide_eq_true (by first | (with_reducible assumption) | assumption); obtain ⟨ad135, e135, hx135_0, hx135_1⟩ := at_T30 (Kd.R_reads' HO133.out).2.2 1 p135 q135; obtain rfl : ad134 = ad135 := (by injection e135); (try simp only [show (1 : Int).toNat = 1 from rfl, Nat.reduceMul, Nat.reduceEqDiff, Go.Addr.add, ↓reduceIte] at hx135_0); (try simp only [show (1 : Int).toNat = 1 from rfl, Nat.reduceMul, Nat.reduceEqDiff, Go.Addr.add, ↓reduceIte] at hx135_1); have qi135 : (1 < t131.length) = True := eq_true (by omega); (try rw [show ((1 : Int)).toNat = 1 from rfl] at hx135_0); (try rw [show 1 * 2 = 2 from rfl] at hx135_0); (try rw [show ((1 : Int)).toNat = 1 from rfl] at hx135_1); (try rw [show 1 * 2 = 2 from rfl] at hx135_1); replace p135 := eq_true p135; replace q135 := eq_true q135; have p136 : 0 ≤ (2 : Int) := (by omega); have q136 : 2 < (t131.length : Int) := of_decide_eq_true (by first | (with_reducible assumption) | assumption); obtain ⟨ad136, e136, hx136_0, hx136_1⟩ := at_T30 (Kd.R_reads' HO133.out).2.2 2 p136 q136; obtain rfl : ad134 = ad136 := (by injection e136); (try simp only [show (2 : Int).toNat = 2 from rfl, Nat.reduceMul, Nat.reduceEqDiff, Go.Addr.add, ↓reduceIte] at hx136_0); (try simp only [show (2 : Int).toNat = 2 from rfl, Nat.reduceMul, Nat.reduceEqDiff, Go.Addr.add, ↓reduceIte] at hx136_1); have qi136 : (2 < t131.length) = True := eq_true (by omega); (try rw [show ((2 : Int)).toNat = 2 from rfl] at hx136_0); (try rw [show 2 * 2 = 4 from rfl] at hx136_0); (try rw [show ((2 : Int)).toNat = 2 from rfl] at hx136_1); (try rw [show 2 * 2 = 4 from rfl] at hx136_1); replace p136 := eq_true p136; replace q136 := eq_true q136; have p137 : 0 ≤ (2 : Int) := (by omega); have q137 : 2 < (t131.length : Int) := of_decide_eq_true (by first | (with_reducible assumption) | assumption); obtain ⟨ad137, e137, hx137_0, hx137_1⟩ := at_T30 (Kd.R_reads' HO133.out).2.2 2 p137 q137; obtain rfl : ad134 = ad137 := (by injection e137); (try simp only [show (2 : Int).toNat = 2 from rfl, Nat.reduceMul, Nat.reduceEqDiff, Go.Addr.add, ↓reduceIte] at hx137_0); (try simp only [show (2 : Int).toNat = 2 from rfl, Nat.reduceMul, Nat.reduceEqDiff, Go.Addr.add, ↓reduceIte] at hx137_1); have qi137 : (2 < t131.length) = True := eq_true (by omega); (try rw [show ((2 : Int)).toNat = 2 from rfl] at hx137_0); (try rw [show 2 * 2 = 4 from rfl] at hx137_0); (try rw [show ((2 : Int)).toNat = 2 from rfl] at hx137_1); (try rw [show 2 * 2 = 4 from rfl] at hx137_1); replace p137 := eq_true p137; replace q137 := eq_true q137))
                go_ret
                exact ⟨by first | rfl | (simp [errW_none, errW_some] <;> rfl) | (simp [*, errW_none, errW_some] <;> rfl), by repeat (first | (with_reducible first | exact HB.out | apply below_alloc | apply pw_below_drewN | apply below_drew1) | exact HB.out)⟩
              · rw [if_neg c9] at H
                have c9b0 : (((rd_T30 t131 2).f0) == 0) = false := beq_eq_false_iff_ne.mpr c9
                have c9b1 : (((rd_T30 t131 2).f0) != 0) = true := bne_iff_ne.mpr c9
                obtain rfl := Option.some.inj H
                go_enter Try.func14, Try.ntmps14
                go_wp2_with (first | ((with_reducible refine gate_callee (f := 18) rfl ?_); refine goesL_ (some 2) rfl rfl Try.func18 (by kernel_rfl) rfl #[] rfl (by (try simp only [List.map_toArray, List.map_cons, List.map_nil]); first | done | rfl | (simp only [List.length_drop, List.length_take]; rfl)) ?_; (with_reducible refine (table_Registrar.calls  t125 _ A1.out).mono ?_); rintro e w17 ⟨v126, rfl, ho0, hb⟩; refine ⟨_, rfl, ?_⟩; have n0_ := Aside0.mk (Kd.N_lower (Kd.N_mono (ok' := fun k_ => True) ho0 (fun k_ hk_ => trivial)) (below_size (by repeat (first | (with_reducible first | exact HB.out | apply below_alloc | apply pw_below_drewN | apply below_drew1) | exact HB.out)))); have n1_ := Aside0.mk (below_step (by repeat (first | (with_reducible first | exact HB.out | apply below_alloc | apply pw_below_drewN | apply below_drew1) | exact HB.out)) hb); clear HB; have HO127 := n0_; have HB := n1_; clear n0_ n1_; (try clear hb); (try clear hb2); (try clear hk); (try clear hi); (try clear ho0)) | ((with_reducible refine gate_dst (N := 3) rfl ?_); refine Kd.R_lit (Kd.int .i64) _ 3 ?hg (N := 3) ?hd (xs := ([0, 1, 3] : List Int)) (inner := [.int .i64 0, .int .i64 1, .int .i64 3]) (ok := fun _ => True) (okp := fun _ => True) ?hr ?hp (fun _ hk => hk) trivial (Below.refl _ _) (Nat.le_refl _) (by simp) ?_; (case hd => rfl); (case hg => rfl); (case hr => first | (go_simp; done) | (go_simp; rfl)); (case hp => exact (Reps.one (show Kd.M (Kd.int .i64) _ _ _ 0 [.int .i64 0] from rfl) (Reps.one (show Kd.M (Kd.int .i64) _ _ _ 1 [.int .i64 1] from rfl) (Reps.one (show Kd.M (Kd.int .i64) _ _ _ 3 [.int .i64 3] from rfl) (Reps.none _ _))))); intro v129 w18 ho19 hb hg_ hnew_; clear hg_ hnew_; (first | rw [← Ny128.out] at ho19 | (simp only [Int.reduceToNat] at ho19; rw [← Ny128.out] at ho19)); have n0_ := Aside0.mk (Kd.N_elder' (by (with_reducible repeat (first | apply Kd.N_alloc | apply Kd.N_drewN | apply Kd.N_drew)); exact HO127.out) (Kd.R_base ho19) hb); have n1_ := Aside0.mk (Kd.R_lower ho19 (below_size (by repeat (first | (with_reducible first | exact HB.out | apply below_alloc | apply pw_below_drewN | apply below_drew1) | exact HB.out)))); have n2_ := Aside0.mk (below_step (by repeat (first | (with_reducible first | exact HB.out | apply below_alloc | apply pw_below_drewN | apply below_drew1) | exact HB.out)) hb); clear HO127; clear HB; have HO127 := n0_; have HO130 := n1_; have HB := n2_; clear n0_ n1_ n2_; clear hb ho19; obtain ⟨Ao20, co20, eo20⟩ := Kd.N_slice HO127.out; subst eo20; obtain ⟨Ao21, co21, eo21⟩ := Kd.R_slice HO130.out; subst eo21) | ((with_reducible refine gate_callee (f := 16) rfl ?_); refine goesL_ (some 4) rfl rfl Try.func16 (by kernel_rfl) rfl #[.slice Ao20 t125.length co20, .int .i64 0, .slice Ao21 y128.length co21] rfl (by (try simp only [List.map_toArray, List.map_cons, List.map_nil]); first | done | rfl | (simp only [List.length_drop, List.length_take]; rfl)) ?_; (with_reducible refine (table_Run.calls k _ _ t125 0 _ _ y128 t131 _ ?side1 ?side2 ?side3 ?side4 A2.out).mono ?_); (case side1 => repeat (first | exact (Kd.N_reads' HO127.out).2.2 | (with_reducible refine Kd.C_alloc ?_ _) | (with_reducible refine Kd.C_drewN ?_ _) | (with_reducible refine Kd.C_drew ?_))); (case side2 => exact (Kd.N_reads' HO127.out).2.1); (case side3 => repeat (first | exact (Kd.R_reads' HO130.out).2.2 | (with_reducible refine Kd.C_alloc ?_ _) | (with_reducible refine Kd.C_drewN ?_ _) | (with_reducible refine Kd.C_drew ?_))); (case side4 => exact (Kd.R_reads' HO130.out).2.1); rintro e w22 ⟨v132, rfl, ho0, hb⟩; refine ⟨_, rfl, ?_⟩; have n0_ := Aside0.mk (Kd.N_elder' (by (with_reducible repeat (first | apply Kd.N_alloc | apply Kd.N_drewN | apply Kd.N_drew)); exact HO127.out) (Kd.R_base ho0) hb); have n1_ := Aside0.mk (Kd.R_below (by (with_reducible repeat (first | apply Kd.R_alloc | apply Kd.R_drewN | apply Kd.R_drew)); exact HO130.out) hb); have n2_ := Aside0.mk (Kd.R_lower ho0 (below_size (by repeat (first | (with_reducible first | exact HB.out | apply below_alloc | apply pw_below_drewN | apply below_drew1) | exact HB.out)))); have n3_ := Aside0.mk (below_step (by repeat (first | (with_reducible first | exact HB.out | apply below_alloc | apply pw_below_drewN | apply below_drew1) | exact HB.out)) hb); clear HO127; clear HO130; clear HB; have HO127 := n0_; have HO130 := n1_; have HO133 := n2_; have HB := n3_; clear n0_ n1_ n2_ n3_; (try clear hb); (try clear hb2); (try clear hk); (try clear hi); (try clear ho0); obtain ⟨Ao23, co23, eo23⟩ := Kd.R_slice HO133.out; subst eo23; have p134 : 0 ≤ (0 : Int) := (by omega); have q134 : 0 < (t131.length : Int) := of_decide_eq_true (by first | (with_reducible assumption) | assumption); obtain ⟨ad134, e134, hx134_0, hx134_1⟩ := at_T30 (Kd.R_reads' HO133.out).2.2 0 p134 q134; cases e134; have qi134 : (0 < t131.length) = True := eq_true (by omega); (try rw [show ((0 : Int)).toNat = 0 from rfl] at hx134_0); (try rw [show 0 * 2 = 0 from rfl] at hx134_0); (try rw [Addr.add_zero'] at hx134_0); (try rw [show ((0 : Int)).toNat = 0 from rfl] at hx134_1); (try rw [show 0 * 2 = 0 from rfl] at hx134_1); (try rw [Addr.add_zero'] at hx134_1); replace p134 := eq_true p134; replace q134 := eq_true q134; have p135 : 0 ≤ (1 : Int) := (by omega); have q135 : 1 < (t131.length : Int) := of_decide_eq_true (by first | (with_reducible assumption) | assumption); obtain ⟨ad135, e135, hx135_0, hx135_1⟩ := at_T30 (Kd.R_reads' HO133.out).2.2 1 p135 q135; obtain rfl : ad134 = ad135 := (by injection e135); (try simp only [show (1 : Int).toNat = 1 from rfl, Nat.reduceMul, Nat.reduceEqDiff, Go.Addr.add, ↓reduceIte] at hx135_0); (try simp only [show (1 : Int).toNat = 1 from rfl, Nat.reduceMul, Nat.reduceEqDiff, Go.Addr.add, ↓reduceIte] at hx135_1); have qi135 : (1 < t131.length) = True := eq_true (by omega); (try rw [show ((1 : Int)).toNat = 1 from rfl] at hx135_0); (try rw [show 1 * 2 = 2 from rfl] at hx135_0); (try rw [show ((1 : Int)).toNat = 1 from rfl] at hx135_1); (try rw [show 1 * 2 = 2 from rfl] at hx135_1); replace p135 := eq_true p135; replace q135 := eq_true q135; have p136 : 0 ≤ (2 : Int) := (by omega); have q136 : 2 < (t131.length : Int) := of_decide_eq_true (by first | (with_reducible assumption) | assumption); obtain ⟨ad136, e136, hx136_0, hx136_1⟩ := at_T30 (Kd.R_reads' HO133.out).2.2 2 p136 q136; obtain rfl : ad134 = ad136 := (by injection e136); (try simp only [show (2 : Int).toNat = 2 from rfl, Nat.reduceMul, Nat.reduceEqDiff, Go.Addr.add, ↓reduceIte] at hx136_0); (try simp only [show (2 : Int).toNat = 2 from rfl, Nat.reduceMul, Nat.reduceEqDiff, Go.Addr.add, ↓reduceIte] at hx136_1); have qi136 : (2 < t131.length) = True := eq_true (by omega); (try rw [show ((2 : Int)).toNat = 2 from rfl] at hx136_0); (try rw [show 2 * 2 = 4 from rfl] at hx136_0); (try rw [show ((2 : Int)).toNat = 2 from rfl] at hx136_1); (try rw [show 2 * 2 = 4 from rfl] at hx136_1); replace p136 := eq_true p136; replace q136 := eq_true q136))
                go_ret
                exact ⟨by first | rfl | (simp [errW_none, errW_some] <;> rfl) | (simp [*, errW_none, errW_some] <;> rfl), by repeat (first | (with_reducible first | exact HB.out | apply below_alloc | apply pw_below_drewN | apply below_drew1) | exact HB.out)⟩
            · rw [if_neg c8] at H
              exact absurd H (by simp)
          · rw [if_neg c7] at H
            have c7b0 : (((rd_T30 t131 1).f0) == 1) = false := beq_eq_false_iff_ne.mpr c7
            have c7b1 : (((rd_T30 t131 1).f0) != 1) = true := bne_iff_ne.mpr c7
            obtain rfl := Option.some.inj H
            go_enter Try.func14, Try.ntmps14
            go_wp2_with (first | ((with_reducible refine gate_callee (f := 18) rfl ?_); refine goesL_ (some 2) rfl rfl Try.func18 (by kernel_rfl) rfl #[] rfl (by (try simp only [List.map_toArray, List.map_cons, List.map_nil]); first | done | rfl | (simp only [List.length_drop, List.length_take]; rfl)) ?_; (with_reducible refine (table_Registrar.calls  t125 _ A1.out).mono ?_); rintro e w24 ⟨v126, rfl, ho0, hb⟩; refine ⟨_, rfl, ?_⟩; have n0_ := Aside0.mk (Kd.N_lower (Kd.N_mono (ok' := fun k_ => True) ho0 (fun k_ hk_ => trivial)) (below_size (by repeat (first | (with_reducible first | exact HB.out | apply below_alloc | apply pw_below_drewN | apply below_drew1) | exact HB.out)))); have n1_ := Aside0.mk (below_step (by repeat (first | (with_reducible first | exact HB.out | apply below_alloc | apply pw_below_drewN | apply below_drew1) | exact HB.out)) hb); clear HB; have HO127 := n0_; have HB := n1_; clear n0_ n1_; (try clear hb); (try clear hb2); (try clear hk); (try clear hi); (try clear ho0)) | ((with_reducible refine gate_dst (N := 3) rfl ?_); refine Kd.R_lit (Kd.int .i64) _ 3 ?hg (N := 3) ?hd (xs := ([0, 1, 3] : List Int)) (inner := [.int .i64 0, .int .i64 1, .int .i64 3]) (ok := fun _ => True) (okp := fun _ => True) ?hr ?hp (fun _ hk => hk) trivial (Below.refl _ _) (Nat.le_refl _) (by simp) ?_; (case hd => rfl); (case hg => rfl); (case hr => first | (go_simp; done) | (go_simp; rfl)); (case hp => exact (Reps.one (show Kd.M (Kd.int .i64) _ _ _ 0 [.int .i64 0] from rfl) (Reps.one (show Kd.M (Kd.int .i64) _ _ _ 1 [.int .i64 1] from rfl) (Reps.one (show Kd.M (Kd.int .i64) _ _ _ 3 [.int .i64 3] from rfl) (Reps.none _ _))))); intro v129 w25 ho26 hb hg_ hnew_; clear hg_ hnew_; (first | rw [← Ny128.out] at ho26 | (simp only [Int.reduceToNat] at ho26; rw [← Ny128.out] at ho26)); have n0_ := Aside0.mk (Kd.N_elder' (by (with_reducible repeat (first | apply Kd.N_alloc | apply Kd.N_drewN | apply Kd.N_drew)); exact HO127.out) (Kd.R_base ho26) hb); have n1_ := Aside0.mk (Kd.R_lower ho26 (below_size (by repeat (first | (with_reducible first | exact HB.out | apply below_alloc | apply pw_below_drewN | apply below_drew1) | exact HB.out)))); have n2_ := Aside0.mk (below_step (by repeat (first | (with_reducible first | exact HB.out | apply below_alloc | apply pw_below_drewN | apply below_drew1) | exact HB.out)) hb); clear HO127; clear HB; have HO127 := n0_; have HO130 := n1_; have HB := n2_; clear n0_ n1_ n2_; clear hb ho26; obtain ⟨Ao27, co27, eo27⟩ := Kd.N_slice HO127.out; subst eo27; obtain ⟨Ao28, co28, eo28⟩ := Kd.R_slice HO130.out; subst eo28) | ((with_reducible refine gate_callee (f := 16) rfl ?_); refine goesL_ (some 4) rfl rfl Try.func16 (by kernel_rfl) rfl #[.slice Ao27 t125.length co27, .int .i64 0, .slice Ao28 y128.length co28] rfl (by (try simp only [List.map_toArray, List.map_cons, List.map_nil]); first | done | rfl | (simp only [List.length_drop, List.length_take]; rfl)) ?_; (with_reducible refine (table_Run.calls k _ _ t125 0 _ _ y128 t131 _ ?side1 ?side2 ?side3 ?side4 A2.out).mono ?_); (case side1 => repeat (first | exact (Kd.N_reads' HO127.out).2.2 | (with_reducible refine Kd.C_alloc ?_ _) | (with_reducible refine Kd.C_drewN ?_ _) | (with_reducible refine Kd.C_drew ?_))); (case side2 => exact (Kd.N_reads' HO127.out).2.1); (case side3 => repeat (first | exact (Kd.R_reads' HO130.out).2.2 | (with_reducible refine Kd.C_alloc ?_ _) | (with_reducible refine Kd.C_drewN ?_ _) | (with_reducible refine Kd.C_drew ?_))); (case side4 => exact (Kd.R_reads' HO130.out).2.1); rintro e w29 ⟨v132, rfl, ho0, hb⟩; refine ⟨_, rfl, ?_⟩; have n0_ := Aside0.mk (Kd.N_elder' (by (with_reducible repeat (first | apply Kd.N_alloc | apply Kd.N_drewN | apply Kd.N_drew)); exact HO127.out) (Kd.R_base ho0) hb); have n1_ := Aside0.mk (Kd.R_below (by (with_reducible repeat (first | apply Kd.R_alloc | apply Kd.R_drewN | apply Kd.R_drew)); exact HO130.out) hb); have n2_ := Aside0.mk (Kd.R_lower ho0 (below_size (by repeat (first | (with_reducible first | exact HB.out | apply below_alloc | apply pw_below_drewN | apply below_drew1) | exact HB.out)))); have n3_ := Aside0.mk (below_step (by repeat (first | (with_reducible first | exact HB.out | apply below_alloc | apply pw_below_drewN | apply below_drew1) | exact HB.out)) hb); clear HO127; clear HO130; clear HB; have HO127 := n0_; have HO130 := n1_; have HO133 := n2_; have HB := n3_; clear n0_ n1_ n2_ n3_; (try clear hb); (try clear hb2); (try clear hk); (try clear hi); (try clear ho0); obtain ⟨Ao30, co30, eo30⟩ := Kd.R_slice HO133.out; subst eo30; have p134 : 0 ≤ (0 : Int) := (by omega); have q134 : 0 < (t131.length : Int) := of_decide_eq_true (by first | (with_reducible assumption) | assumption); obtain ⟨ad134, e134, hx134_0, hx134_1⟩ := at_T30 (Kd.R_reads' HO133.out).2.2 0 p134 q134; cases e134; have qi134 : (0 < t131.length) = True := eq_true (by omega); (try rw [show ((0 : Int)).toNat = 0 from rfl] at hx134_0); (try rw [show 0 * 2 = 0 from rfl] at hx134_0); (try rw [Addr.add_zero'] at hx134_0); (try rw [show ((0 : Int)).toNat = 0 from rfl] at hx134_1); (try rw [show 0 * 2 = 0 from rfl] at hx134_1); (try rw [Addr.add_zero'] at hx134_1); replace p134 := eq_true p134; replace q134 := eq_true q134; have p135 : 0 ≤ (1 : Int) := (by omega); have q135 : 1 < (t131.length : Int) := of_decide_eq_true (by first | (with_reducible assumption) | assumption); obtain ⟨ad135, e135, hx135_0, hx135_1⟩ := at_T30 (Kd.R_reads' HO133.out).2.2 1 p135 q135; obtain rfl : ad134 = ad135 := (by injection e135); (try simp only [show (1 : Int).toNat = 1 from rfl, Nat.reduceMul, Nat.reduceEqDiff, Go.Addr.add, ↓reduceIte] at hx135_0); (try simp only [show (1 : Int).toNat = 1 from rfl, Nat.reduceMul, Nat.reduceEqDiff, Go.Addr.add, ↓reduceIte] at hx135_1); have qi135 : (1 < t131.length) = True := eq_true (by omega); (try rw [show ((1 : Int)).toNat = 1 from rfl] at hx135_0); (try rw [show 1 * 2 = 2 from rfl] at hx135_0); (try rw [show ((1 : Int)).toNat = 1 from rfl] at hx135_1); (try rw [show 1 * 2 = 2 from rfl] at hx135_1); replace p135 := eq_true p135; replace q135 := eq_true q135))
            go_ret
            exact ⟨by first | rfl | (simp [errW_none, errW_some] <;> rfl) | (simp [*, errW_none, errW_some] <;> rfl), by repeat (first | (with_reducible first | exact HB.out | apply below_alloc | apply pw_below_drewN | apply below_drew1) | exact HB.out)⟩
        · rw [if_neg c6] at H
          exact absurd H (by simp)
      · rw [if_neg c5] at H
        have c5b0 : (((rd_T30 t131 0).f0) == 2) = false := beq_eq_false_iff_ne.mpr c5
        have c5b1 : (((rd_T30 t131 0).f0) != 2) = true := bne_iff_ne.mpr c5
        obtain rfl := Option.some.inj H
        go_enter Try.func14, Try.ntmps14
        go_wp2_with (first | ((with_reducible refine gate_callee (f := 18) rfl ?_); refine goesL_ (some 2) rfl rfl Try.func18 (by kernel_rfl) rfl #[] rfl (by (try simp only [List.map_toArray, List.map_cons, List.map_nil]); first | done | rfl | (simp only [List.length_drop, List.length_take]; rfl)) ?_; (with_reducible refine (table_Registrar.calls  t125 _ A1.out).mono ?_); rintro e w31 ⟨v126, rfl, ho0, hb⟩; refine ⟨_, rfl, ?_⟩; have n0_ := Aside0.mk (Kd.N_lower (Kd.N_mono (ok' := fun k_ => True) ho0 (fun k_ hk_ => trivial)) (below_size (by repeat (first | (with_reducible first | exact HB.out | apply below_alloc | apply pw_below_drewN | apply below_drew1) | exact HB.out)))); have n1_ := Aside0.mk (below_step (by repeat (first | (with_reducible first | exact HB.out | apply below_alloc | apply pw_below_drewN | apply below_drew1) | exact HB.out)) hb); clear HB; have HO127 := n0_; have HB := n1_; clear n0_ n1_; (try clear hb); (try clear hb2); (try clear hk); (try clear hi); (try clear ho0)) | ((with_reducible refine gate_dst (N := 3) rfl ?_); refine Kd.R_lit (Kd.int .i64) _ 3 ?hg (N := 3) ?hd (xs := ([0, 1, 3] : List Int)) (inner := [.int .i64 0, .int .i64 1, .int .i64 3]) (ok := fun _ => True) (okp := fun _ => True) ?hr ?hp (fun _ hk => hk) trivial (Below.refl _ _) (Nat.le_refl _) (by simp) ?_; (case hd => rfl); (case hg => rfl); (case hr => first | (go_simp; done) | (go_simp; rfl)); (case hp => exact (Reps.one (show Kd.M (Kd.int .i64) _ _ _ 0 [.int .i64 0] from rfl) (Reps.one (show Kd.M (Kd.int .i64) _ _ _ 1 [.int .i64 1] from rfl) (Reps.one (show Kd.M (Kd.int .i64) _ _ _ 3 [.int .i64 3] from rfl) (Reps.none _ _))))); intro v129 w32 ho33 hb hg_ hnew_; clear hg_ hnew_; (first | rw [← Ny128.out] at ho33 | (simp only [Int.reduceToNat] at ho33; rw [← Ny128.out] at ho33)); have n0_ := Aside0.mk (Kd.N_elder' (by (with_reducible repeat (first | apply Kd.N_alloc | apply Kd.N_drewN | apply Kd.N_drew)); exact HO127.out) (Kd.R_base ho33) hb); have n1_ := Aside0.mk (Kd.R_lower ho33 (below_size (by repeat (first | (with_reducible first | exact HB.out | apply below_alloc | apply pw_below_drewN | apply below_drew1) | exact HB.out)))); have n2_ := Aside0.mk (below_step (by repeat (first | (with_reducible first | exact HB.out | apply below_alloc | apply pw_below_drewN | apply below_drew1) | exact HB.out)) hb); clear HO127; clear HB; have HO127 := n0_; have HO130 := n1_; have HB := n2_; clear n0_ n1_ n2_; clear hb ho33; obtain ⟨Ao34, co34, eo34⟩ := Kd.N_slice HO127.out; subst eo34; obtain ⟨Ao35, co35, eo35⟩ := Kd.R_slice HO130.out; subst eo35) | ((with_reducible refine gate_callee (f := 16) rfl ?_); refine goesL_ (some 4) rfl rfl Try.func16 (by kernel_rfl) rfl #[.slice Ao34 t125.length co34, .int .i64 0, .slice Ao35 y128.length co35] rfl (by (try simp only [List.map_toArray, List.map_cons, List.map_nil]); first | done | rfl | (simp only [List.length_drop, List.length_take]; rfl)) ?_; (with_reducible refine (table_Run.calls k _ _ t125 0 _ _ y128 t131 _ ?side1 ?side2 ?side3 ?side4 A2.out).mono ?_); (case side1 => repeat (first | exact (Kd.N_reads' HO127.out).2.2 | (with_reducible refine Kd.C_alloc ?_ _) | (with_reducible refine Kd.C_drewN ?_ _) | (with_reducible refine Kd.C_drew ?_))); (case side2 => exact (Kd.N_reads' HO127.out).2.1); (case side3 => repeat (first | exact (Kd.R_reads' HO130.out).2.2 | (with_reducible refine Kd.C_alloc ?_ _) | (with_reducible refine Kd.C_drewN ?_ _) | (with_reducible refine Kd.C_drew ?_))); (case side4 => exact (Kd.R_reads' HO130.out).2.1); rintro e w36 ⟨v132, rfl, ho0, hb⟩; refine ⟨_, rfl, ?_⟩; have n0_ := Aside0.mk (Kd.N_elder' (by (with_reducible repeat (first | apply Kd.N_alloc | apply Kd.N_drewN | apply Kd.N_drew)); exact HO127.out) (Kd.R_base ho0) hb); have n1_ := Aside0.mk (Kd.R_below (by (with_reducible repeat (first | apply Kd.R_alloc | apply Kd.R_drewN | apply Kd.R_drew)); exact HO130.out) hb); have n2_ := Aside0.mk (Kd.R_lower ho0 (below_size (by repeat (first | (with_reducible first | exact HB.out | apply below_alloc | apply pw_below_drewN | apply below_drew1) | exact HB.out)))); have n3_ := Aside0.mk (below_step (by repeat (first | (with_reducible first | exact HB.out | apply below_alloc | apply pw_below_drewN | apply below_drew1) | exact HB.out)) hb); clear HO127; clear HO130; clear HB; have HO127 := n0_; have HO130 := n1_; have HO133 := n2_; have HB := n3_; clear n0_ n1_ n2_ n3_; (try clear hb); (try clear hb2); (try clear hk); (try clear hi); (try clear ho0); obtain ⟨Ao37, co37, eo37⟩ := Kd.R_slice HO133.out; subst eo37; have p134 : 0 ≤ (0 : Int) := (by omega); have q134 : 0 < (t131.length : Int) := of_decide_eq_true (by first | (with_reducible assumption) | assumption); obtain ⟨ad134, e134, hx134_0, hx134_1⟩ := at_T30 (Kd.R_reads' HO133.out).2.2 0 p134 q134; cases e134; have qi134 : (0 < t131.length) = True := eq_true (by omega); (try rw [show ((0 : Int)).toNat = 0 from rfl] at hx134_0); (try rw [show 0 * 2 = 0 from rfl] at hx134_0); (try rw [Addr.add_zero'] at hx134_0); (try rw [show ((0 : Int)).toNat = 0 from rfl] at hx134_1); (try rw [show 0 * 2 = 0 from rfl] at hx134_1); (try rw [Addr.add_zero'] at hx134_1); replace p134 := eq_true p134; replace q134 := eq_true q134))
        go_ret
        exact ⟨by first | rfl | (simp [errW_none, errW_some] <;> rfl) | (simp [*, errW_none, errW_some] <;> rfl), by repeat (first | (with_reducible first | exact HB.out | apply below_alloc | apply pw_below_drewN | apply below_drew1) | exact HB.out)⟩
    · rw [if_neg c4] at H
      exact absurd H (by simp)
  · rw [if_neg c3] at H
    have c3b0 : ((t131.length : Int) == 3) = false := beq_eq_false_iff_ne.mpr c3
    have c3b1 : ((t131.length : Int) != 3) = true := bne_iff_ne.mpr c3
    obtain rfl := Option.some.inj H
    go_enter Try.func14, Try.ntmps14
    go_wp2_with (first | ((with_reducible refine gate_callee (f := 18) rfl ?_); refine goesL_ (some 2) rfl rfl Try.func18 (by kernel_rfl) rfl #[] rfl (by (try simp only [List.map_toArray, List.map_cons, List.map_nil]); first | done | rfl | (simp only [List.length_drop, List.length_take]; rfl)) ?_; (with_reducible refine (table_Registrar.calls  t125 _ A1.out).mono ?_); rintro e w38 ⟨v126, rfl, ho0, hb⟩; refine ⟨_, rfl, ?_⟩; have n0_ := Aside0.mk (Kd.N_lower (Kd.N_mono (ok' := fun k_ => True) ho0 (fun k_ hk_ => trivial)) (below_size (by repeat (first | (with_reducible first | exact HB.out | apply below_alloc | apply pw_below_drewN | apply below_drew1) | exact HB.out)))); have n1_ := Aside0.mk (below_step (by repeat (first | (with_reducible first | exact HB.out | apply below_alloc | apply pw_below_drewN | apply below_drew1) | exact HB.out)) hb); clear HB; have HO127 := n0_; have HB := n1_; clear n0_ n1_; (try clear hb); (try clear hb2); (try clear hk); (try clear hi); (try clear ho0)) | ((with_reducible refine gate_dst (N := 3) rfl ?_); refine Kd.R_lit (Kd.int .i64) _ 3 ?hg (N := 3) ?hd (xs := ([0, 1, 3] : List Int)) (inner := [.int .i64 0, .int .i64 1, .int .i64 3]) (ok := fun _ => True) (okp := fun _ => True) ?hr ?hp (fun _ hk => hk) trivial (Below.refl _ _) (Nat.le_refl _) (by simp) ?_; (case hd => rfl); (case hg => rfl); (case hr => first | (go_simp; done) | (go_simp; rfl)); (case hp => exact (Reps.one (show Kd.M (Kd.int .i64) _ _ _ 0 [.int .i64 0] from rfl) (Reps.one (show Kd.M (Kd.int .i64) _ _ _ 1 [.int .i64 1] from rfl) (Reps.one (show Kd.M (Kd.int .i64) _ _ _ 3 [.int .i64 3] from rfl) (Reps.none _ _))))); intro v129 w39 ho40 hb hg_ hnew_; clear hg_ hnew_; (first | rw [← Ny128.out] at ho40 | (simp only [Int.reduceToNat] at ho40; rw [← Ny128.out] at ho40)); have n0_ := Aside0.mk (Kd.N_elder' (by (with_reducible repeat (first | apply Kd.N_alloc | apply Kd.N_drewN | apply Kd.N_drew)); exact HO127.out) (Kd.R_base ho40) hb); have n1_ := Aside0.mk (Kd.R_lower ho40 (below_size (by repeat (first | (with_reducible first | exact HB.out | apply below_alloc | apply pw_below_drewN | apply below_drew1) | exact HB.out)))); have n2_ := Aside0.mk (below_step (by repeat (first | (with_reducible first | exact HB.out | apply below_alloc | apply pw_below_drewN | apply below_drew1) | exact HB.out)) hb); clear HO127; clear HB; have HO127 := n0_; have HO130 := n1_; have HB := n2_; clear n0_ n1_ n2_; clear hb ho40; obtain ⟨Ao41, co41, eo41⟩ := Kd.N_slice HO127.out; subst eo41; obtain ⟨Ao42, co42, eo42⟩ := Kd.R_slice HO130.out; subst eo42) | ((with_reducible refine gate_callee (f := 16) rfl ?_); refine goesL_ (some 4) rfl rfl Try.func16 (by kernel_rfl) rfl #[.slice Ao41 t125.length co41, .int .i64 0, .slice Ao42 y128.length co42] rfl (by (try simp only [List.map_toArray, List.map_cons, List.map_nil]); first | done | rfl | (simp only [List.length_drop, List.length_take]; rfl)) ?_; (with_reducible refine (table_Run.calls k _ _ t125 0 _ _ y128 t131 _ ?side1 ?side2 ?side3 ?side4 A2.out).mono ?_); (case side1 => repeat (first | exact (Kd.N_reads' HO127.out).2.2 | (with_reducible refine Kd.C_alloc ?_ _) | (with_reducible refine Kd.C_drewN ?_ _) | (with_reducible refine Kd.C_drew ?_))); (case side2 => exact (Kd.N_reads' HO127.out).2.1); (case side3 => repeat (first | exact (Kd.R_reads' HO130.out).2.2 | (with_reducible refine Kd.C_alloc ?_ _) | (with_reducible refine Kd.C_drewN ?_ _) | (with_reducible refine Kd.C_drew ?_))); (case side4 => exact (Kd.R_reads' HO130.out).2.1); rintro e w43 ⟨v132, rfl, ho0, hb⟩; refine ⟨_, rfl, ?_⟩; have n0_ := Aside0.mk (Kd.N_elder' (by (with_reducible repeat (first | apply Kd.N_alloc | apply Kd.N_drewN | apply Kd.N_drew)); exact HO127.out) (Kd.R_base ho0) hb); have n1_ := Aside0.mk (Kd.R_below (by (with_reducible repeat (first | apply Kd.R_alloc | apply Kd.R_drewN | apply Kd.R_drew)); exact HO130.out) hb); have n2_ := Aside0.mk (Kd.R_lower ho0 (below_size (by repeat (first | (with_reducible first | exact HB.out | apply below_alloc | apply pw_below_drewN | apply below_drew1) | exact HB.out)))); have n3_ := Aside0.mk (below_step (by repeat (first | (with_reducible first | exact HB.out | apply below_alloc | apply pw_below_drewN | apply below_drew1) | exact HB.out)) hb); clear HO127; clear HO130; clear HB; have HO127 := n0_; have HO130 := n1_; have HO133 := n2_; have HB := n3_; clear n0_ n1_ n2_ n3_; (try clear hb); (try clear hb2); (try clear hk); (try clear hi); (try clear ho0); obtain ⟨Ao44, co44, eo44⟩ := Kd.R_slice HO133.out; subst eo44))
    go_ret
    exact ⟨by first | rfl | (simp [errW_none, errW_some] <;> rfl) | (simp [*, errW_none, errW_some] <;> rfl), by repeat (first | (with_reducible first | exact HB.out | apply below_alloc | apply pw_below_drewN | apply below_drew1) | exact HB.out)⟩
def kissgatelaw13_great.l0 : Nat → List (List (S30)) → List (List (S30)) → Int → Int → Option (Bool)
  | 0, _, _, _, _ => none
  | k + 1, x0, x5, x6, x7 => if x7 < x6 then (if 0 ≤ x7 then (if x7 < (x5.length : Int) then (if ((rd_L2 x5 x7).length : Int) > 20 then (some true) else (kissgatelaw13_great.l0 k x0 x5 x6 (wrap64 (x7 + 1)))) else (none)) else (none)) else (some (decide ((x0.length : Int) > 20)))
def kissgatelaw13_great.f (k : Nat) (l0 : List (List (S30))) : Option (Bool) := kissgatelaw13_great.l0 k l0 l0 (l0.length : Int) 0
set_option maxHeartbeats 8000000 in
set_option maxRecDepth 100000 in
theorem kissgatelaw13_great.calls (k : Nat) (A0 : Option Addr) (c0 : Nat) (l0 : List (List (S30))) (r : Bool) (w : World) (hr0 : Kd.C (Kd.slice 30 k30) w A0 l0.length l0) (hc0 : l0.length ≤ c0) (h : kissgatelaw13_great.f k l0 = some r) :
    Calls Try.prog 15 #[.slice A0 l0.length c0] w fun e w' => e = .returned (.bool r) ∧ Drawn0 w w' := by
  have HR0 := Aside0.mk hr0
  have HC0 := Aside0.mk hc0
  clear hr0 hc0
  have H : (kissgatelaw13_great.l0 k l0 l0 (l0.length : Int) 0) = some r := h
  clear h
  have H' := Aside0.mk H
  clear H
  go_enter Try.func15, Try.ntmps15
  go_wp2
  go_loopg [7] k (fun kq v7 w' => ∃ (x7_1 : Int), v7 = .int .i64 x7_1 ∧ Aside0 (kissgatelaw13_great.l0 kq l0 l0 (l0.length : Int) x7_1 = some r) ∧ Aside0 (kq ≤ k) ∧ Drawn0 w w')
  case atStart => exact ⟨(0), (by first | rfl | (simp; done) | (simp [*]; done)), H', ⟨Nat.le_refl _⟩, by repeat (first | exact Drawn0.refl _ | apply Drawn0.step)⟩
  case round =>
    clear H'
    try clear c1
    obtain ⟨x7_1, rfl, HA, HK1, ⟨m1, rfl⟩⟩ := hrel
    cases gk with
    | zero => exact absurd HA.out (by simp [kissgatelaw13_great.l0])
    | succ k1 =>
      have H := HA.out
      clear HA
      simp only [kissgatelaw13_great.l0] at H
      by_cases c2 : x7_1 < (l0.length : Int)
      · rw [if_pos c2] at H
        have c2b0 : decide (x7_1 < (l0.length : Int)) = true := decide_eq_true c2
        clear c2
        by_cases c3 : 0 ≤ x7_1
        · rw [if_pos c3] at H
          have c3b0 : decide (0 ≤ x7_1) = true := decide_eq_true c3
          clear c3
          by_cases c4 : x7_1 < (l0.length : Int)
          · rw [if_pos c4] at H
            have c4b0 : decide (x7_1 < (l0.length : Int)) = true := decide_eq_true c4
            clear c4
            by_cases c5 : ((rd_L2 l0 x7_1).length : Int) > 20
            · rw [if_pos c5] at H
              have c5b0 : decide (20 < ((rd_L2 l0 x7_1).length : Int)) = true := decide_eq_true c5
              have c5b1 : decide (20 < (rd_L2 l0 x7_1).length) = true := decide_eq_true (by omega)
              clear c5
              obtain rfl := Option.some.inj H
              have p138 : 0 ≤ (x7_1 : Int) := of_decide_eq_true (by first | (with_reducible assumption) | assumption)
              have q138 : x7_1 < (l0.length : Int) := of_decide_eq_true (by first | (with_reducible assumption) | assumption)
              obtain ⟨ad138, A138_0, c138_0, e138, hx138_0, hl138_0, hi138_0⟩ := at_L2 HR0.out x7_1 p138 q138
              cases e138
              have HR138_0 := Aside0.mk hi138_0
              have HC138_0 := Aside0.mk hl138_0
              clear hi138_0 hl138_0
              replace p138 := eq_true p138
              replace q138 := eq_true q138
              go_wp2
              go_ret
              exact ⟨by first | rfl | (simp; done) | (simp [*]; done), by repeat (first | exact Drawn0.refl _ | apply Drawn0.step)⟩
            · rw [if_neg c5] at H
              have c5b0 : decide (20 < ((rd_L2 l0 x7_1).length : Int)) = false := decide_eq_false c5
              have c5b1 : decide (20 < (rd_L2 l0 x7_1).length) = false := decide_eq_false (by omega)
              clear c5
              have H' := Aside0.mk H
              clear H
              have p138 : 0 ≤ (x7_1 : Int) := of_decide_eq_true (by first | (with_reducible assumption) | assumption)
              have q138 : x7_1 < (l0.length : Int) := of_decide_eq_true (by first | (with_reducible assumption) | assumption)
              obtain ⟨ad138, A138_0, c138_0, e138, hx138_0, hl138_0, hi138_0⟩ := at_L2 HR0.out x7_1 p138 q138
              cases e138
              have HR138_0 := Aside0.mk hi138_0
              have HC138_0 := Aside0.mk hl138_0
              clear hi138_0 hl138_0
              replace p138 := eq_true p138
              replace q138 := eq_true q138
              go_wp2
              go_roundg k1
              case measure => have := HK1.out; omega
              case rel => exact ⟨(wrap64 (x7_1 + 1)), (by first | rfl | (simp; done) | (simp [*]; done)), H', ⟨by have := HK1.out; omega⟩, by repeat (first | exact Drawn0.refl _ | apply Drawn0.step)⟩
          · rw [if_neg c4] at H
            exact absurd H (by simp)
        · rw [if_neg c3] at H
          exact absurd H (by simp)
      · rw [if_neg c2] at H
        have c2b0 : decide (x7_1 < (l0.length : Int)) = false := decide_eq_false c2
        clear c2
        obtain rfl := Option.some.inj H
        go_wp2
        go_ret
        exact ⟨by first | rfl | (simp; done) | (simp [*]; done), by repeat (first | exact Drawn0.refl _ | apply Drawn0.step)⟩
def kissgateref06_Same.l0 : Nat → List Int → List Int → Int → Int → Option (Bool)
  | 0, _, _, _, _ => none
  | k + 1, x0, x1, x12, x13 => if x13 < x12 then (if 0 ≤ x13 then (if x13 < (x0.length : Int) then (if x13 < (x1.length : Int) then (if (rd x0 x13) = (rd x1 x13) then (kissgateref06_Same.l0 k x0 x1 x12 (wrap64 (x13 + 1))) else (some false)) else (none)) else (none)) else (none)) else (some true)
def kissgateref06_Same.f (k : Nat) (l0 : List Int) (l1 : List Int) : Option (Bool) := if (l0.length : Int) = (l1.length : Int) then (kissgateref06_Same.l0 k l0 l1 (l0.length : Int) 0) else (some false)
set_option maxHeartbeats 8000000 in
set_option maxRecDepth 100000 in
theorem kissgateref06_Same.calls (k : Nat) (A0 : Option Addr) (c0 : Nat) (l0 : List Int) (A1 : Option Addr) (c1 : Nat) (l1 : List Int) (r : Bool) (w : World) (hr0 : Kd.C (Kd.int .i64) w A0 l0.length l0) (hc0 : l0.length ≤ c0) (hr1 : Kd.C (Kd.int .i64) w A1 l1.length l1) (hc1 : l1.length ≤ c1) (h : kissgateref06_Same.f k l0 l1 = some r) :
    Calls Try.prog 24 #[.slice A0 l0.length c0, .slice A1 l1.length c1] w fun e w' => e = .returned (.bool r) ∧ Drawn0 w w' := by
  have HR0 := Aside0.mk hr0
  have HC0 := Aside0.mk hc0
  clear hr0 hc0
  have HR1 := Aside0.mk hr1
  have HC1 := Aside0.mk hc1
  clear hr1 hc1
  have H : (if (l0.length : Int) = (l1.length : Int) then (kissgateref06_Same.l0 k l0 l1 (l0.length : Int) 0) else (some false)) = some r := h
  clear h
  by_cases c3 : (l0.length : Int) = (l1.length : Int)
  · rw [if_pos c3] at H
    have c3b0 : ((l0.length : Int) == (l1.length : Int)) = true := beq_iff_eq.mpr c3
    have c3b1 : ((l0.length : Int) != (l1.length : Int)) = false := bne_eq_false_iff_eq.mpr c3
    have c3b2 : (l0.length == l1.length) = true := by first | simpa using c3 | (simp at c3 ⊢; omega)
    clear c3
    have H' := Aside0.mk H
    clear H
    go_enter Try.func24, Try.ntmps24
    go_wp2
    repeat (go_quiet (fail); try go_wp2)
    go_loopg [13] k (fun kq v13 w' => ∃ (x13_1 : Int), v13 = .int .i64 x13_1 ∧ Aside0 (kissgateref06_Same.l0 kq l0 l1 (l0.length : Int) x13_1 = some r) ∧ Aside0 (kq ≤ k) ∧ Drawn0 w w')
    case atStart => exact ⟨(0), (by first | rfl | (simp; done) | (simp [*]; done)), H', ⟨Nat.le_refl _⟩, by repeat (first | exact Drawn0.refl _ | apply Drawn0.step)⟩
    case round =>
      clear H'
      try clear c1
      try clear c2
      try clear p2
      try clear c3
      try clear c3b0
      try clear c3b1
      try clear c3b2
      obtain ⟨x13_1, rfl, HA, HK1, ⟨m1, rfl⟩⟩ := hrel
      cases gk with
      | zero => exact absurd HA.out (by simp [kissgateref06_Same.l0])
      | succ k1 =>
        have H := HA.out
        clear HA
        simp only [kissgateref06_Same.l0] at H
        by_cases c4 : x13_1 < (l0.length : Int)
        · rw [if_pos c4] at H
          have c4b0 : decide (x13_1 < (l0.length : Int)) = true := decide_eq_true c4
          clear c4
          by_cases c5 : 0 ≤ x13_1
          · rw [if_pos c5] at H
            have c5b0 : decide (0 ≤ x13_1) = true := decide_eq_true c5
            clear c5
            by_cases c6 : x13_1 < (l0.length : Int)
            · rw [if_pos c6] at H
              have c6b0 : decide (x13_1 < (l0.length : Int)) = true := decide_eq_true c6
              clear c6
              by_cases c7 : x13_1 < (l1.length : Int)
              · rw [if_pos c7] at H
                have c7b0 : decide (x13_1 < (l1.length : Int)) = true := decide_eq_true c7
                clear c7
                by_cases c8 : (rd l0 x13_1) = (rd l1 x13_1)
                · rw [if_pos c8] at H
                  have c8b0 : ((rd l0 x13_1) == (rd l1 x13_1)) = true := beq_iff_eq.mpr c8
                  have c8b1 : ((rd l0 x13_1) != (rd l1 x13_1)) = false := bne_eq_false_iff_eq.mpr c8
                  clear c8
                  have H' := Aside0.mk H
                  clear H
                  have p139 : 0 ≤ (x13_1 : Int) := of_decide_eq_true (by first | (with_reducible assumption) | assumption)
                  have q139 : x13_1 < (l0.length : Int) := of_decide_eq_true (by first | (with_reducible assumption) | assumption)
                  obtain ⟨ad139, e139, hx139_0⟩ := Kd.at_int HR0.out x13_1 p139 q139
                  cases e139
                  replace p139 := eq_true p139
                  replace q139 := eq_true q139
                  have p140 : 0 ≤ (x13_1 : Int) := of_decide_eq_true (by first | (with_reducible assumption) | assumption)
                  have q140 : x13_1 < (l1.length : Int) := of_decide_eq_true (by first | (with_reducible assumption) | assumption)
                  obtain ⟨ad140, e140, hx140_0⟩ := Kd.at_int HR1.out x13_1 p140 q140
                  cases e140
                  replace p140 := eq_true p140
                  replace q140 := eq_true q140
                  go_wp2
                  repeat (go_quiet (fail); try go_wp2)
                  go_roundg k1
                  case measure => have := HK1.out; omega
                  case rel => exact ⟨(wrap64 (x13_1 + 1)), (by first | rfl | (simp; done) | (simp [*]; done)), H', ⟨by have := HK1.out; omega⟩, by repeat (first | exact Drawn0.refl _ | apply Drawn0.step)⟩
                · rw [if_neg c8] at H
                  have c8b0 : ((rd l0 x13_1) == (rd l1 x13_1)) = false := beq_eq_false_iff_ne.mpr c8
                  have c8b1 : ((rd l0 x13_1) != (rd l1 x13_1)) = true := bne_iff_ne.mpr c8
                  obtain rfl := Option.some.inj H
                  have p139 : 0 ≤ (x13_1 : Int) := of_decide_eq_true (by first | (with_reducible assumption) | assumption)
                  have q139 : x13_1 < (l0.length : Int) := of_decide_eq_true (by first | (with_reducible assumption) | assumption)
                  obtain ⟨ad139, e139, hx139_0⟩ := Kd.at_int HR0.out x13_1 p139 q139
                  cases e139
                  replace p139 := eq_true p139
                  replace q139 := eq_true q139
                  have p140 : 0 ≤ (x13_1 : Int) := of_decide_eq_true (by first | (with_reducible assumption) | assumption)
                  have q140 : x13_1 < (l1.length : Int) := of_decide_eq_true (by first | (with_reducible assumption) | assumption)
                  obtain ⟨ad140, e140, hx140_0⟩ := Kd.at_int HR1.out x13_1 p140 q140
                  cases e140
                  replace p140 := eq_true p140
                  replace q140 := eq_true q140
                  go_wp2
                  repeat (go_quiet (fail); try go_wp2)
                  go_ret
                  exact ⟨by first | rfl | (simp; done) | (simp [*]; done), by repeat (first | exact Drawn0.refl _ | apply Drawn0.step)⟩
              · rw [if_neg c7] at H
                exact absurd H (by simp)
            · rw [if_neg c6] at H
              exact absurd H (by simp)
          · rw [if_neg c5] at H
            exact absurd H (by simp)
        · rw [if_neg c4] at H
          have c4b0 : decide (x13_1 < (l0.length : Int)) = false := decide_eq_false c4
          clear c4
          obtain rfl := Option.some.inj H
          go_wp2
          repeat (go_quiet (fail); try go_wp2)
          go_ret
          exact ⟨by first | rfl | (simp; done) | (simp [*]; done), by repeat (first | exact Drawn0.refl _ | apply Drawn0.step)⟩
  · rw [if_neg c3] at H
    have c3b0 : ((l0.length : Int) == (l1.length : Int)) = false := beq_eq_false_iff_ne.mpr c3
    have c3b1 : ((l0.length : Int) != (l1.length : Int)) = true := bne_iff_ne.mpr c3
    have c3b2 : (l0.length == l1.length) = false := by first | simpa using c3 | (simp at c3 ⊢; omega)
    obtain rfl := Option.some.inj H
    go_enter Try.func24, Try.ntmps24
    go_wp2
    repeat (go_quiet (fail); try go_wp2)
    go_ret
    exact ⟨by first | rfl | (simp; done) | (simp [*]; done), by repeat (first | exact Drawn0.refl _ | apply Drawn0.step)⟩
def table_Applicant.f  : Option ((List (List (S30)))) := some (([(([(⟨1, 0⟩ : S30), (⟨0, 0⟩ : S30), (⟨0, 0⟩ : S30), (⟨0, 0⟩ : S30), (⟨0, 0⟩ : S30), (⟨1, 0⟩ : S30)] : List (S30))), (([(⟨1, 0⟩ : S30), (⟨4, 0⟩ : S30), (⟨1, 0⟩ : S30), (⟨1, 0⟩ : S30), (⟨2, 1⟩ : S30), (⟨1, 0⟩ : S30)] : List (S30))), (([(⟨2, 0⟩ : S30), (⟨4, 0⟩ : S30), (⟨2, 0⟩ : S30), (⟨2, 0⟩ : S30), (⟨3, 2⟩ : S30), (⟨1, 0⟩ : S30)] : List (S30))), (([(⟨3, 0⟩ : S30), (⟨4, 0⟩ : S30), (⟨2, 0⟩ : S30), (⟨2, 0⟩ : S30), (⟨3, 0⟩ : S30), (⟨1, 0⟩ : S30)] : List (S30))), (([(⟨2, 0⟩ : S30), (⟨4, 0⟩ : S30), (⟨4, 0⟩ : S30), (⟨4, 0⟩ : S30), (⟨0, 3⟩ : S30), (⟨1, 0⟩ : S30)] : List (S30)))] : List (List (S30))))
set_option maxHeartbeats 8000000 in
set_option maxRecDepth 100000 in
theorem table_Applicant.calls  (r : List (List (S30))) (w : World) (h : table_Applicant.f  = some r) :
    Calls Try.prog 25 #[] w fun e w' => ∃ v0_ : Value, e = .returned (v0_) ∧ Kd.N (Kd.slice 30 k30) 27 w' w.heap.size (fun k_ => (w.heap.size ≤ k_)) v0_ r ∧ Below w.heap.size w w' := by
  have hu30 := Try.underlying30
  have HB := Aside0.mk (Below.refl w.heap.size w)
  have H : (some (([(([(⟨1, 0⟩ : S30), (⟨0, 0⟩ : S30), (⟨0, 0⟩ : S30), (⟨0, 0⟩ : S30), (⟨0, 0⟩ : S30), (⟨1, 0⟩ : S30)] : List (S30))), (([(⟨1, 0⟩ : S30), (⟨4, 0⟩ : S30), (⟨1, 0⟩ : S30), (⟨1, 0⟩ : S30), (⟨2, 1⟩ : S30), (⟨1, 0⟩ : S30)] : List (S30))), (([(⟨2, 0⟩ : S30), (⟨4, 0⟩ : S30), (⟨2, 0⟩ : S30), (⟨2, 0⟩ : S30), (⟨3, 2⟩ : S30), (⟨1, 0⟩ : S30)] : List (S30))), (([(⟨3, 0⟩ : S30), (⟨4, 0⟩ : S30), (⟨2, 0⟩ : S30), (⟨2, 0⟩ : S30), (⟨3, 0⟩ : S30), (⟨1, 0⟩ : S30)] : List (S30))), (([(⟨2, 0⟩ : S30), (⟨4, 0⟩ : S30), (⟨4, 0⟩ : S30), (⟨4, 0⟩ : S30), (⟨0, 3⟩ : S30), (⟨1, 0⟩ : S30)] : List (S30)))] : List (List (S30))))) = some r := h
  clear h
  obtain ⟨y141, hy141⟩ : ∃ y_ : List (S30), y_ = (([(⟨1, 0⟩ : S30), (⟨0, 0⟩ : S30), (⟨0, 0⟩ : S30), (⟨0, 0⟩ : S30), (⟨0, 0⟩ : S30), (⟨1, 0⟩ : S30)] : List (S30))) := ⟨_, rfl⟩
  replace H : (some (([y141, (([(⟨1, 0⟩ : S30), (⟨4, 0⟩ : S30), (⟨1, 0⟩ : S30), (⟨1, 0⟩ : S30), (⟨2, 1⟩ : S30), (⟨1, 0⟩ : S30)] : List (S30))), (([(⟨2, 0⟩ : S30), (⟨4, 0⟩ : S30), (⟨2, 0⟩ : S30), (⟨2, 0⟩ : S30), (⟨3, 2⟩ : S30), (⟨1, 0⟩ : S30)] : List (S30))), (([(⟨3, 0⟩ : S30), (⟨4, 0⟩ : S30), (⟨2, 0⟩ : S30), (⟨2, 0⟩ : S30), (⟨3, 0⟩ : S30), (⟨1, 0⟩ : S30)] : List (S30))), (([(⟨2, 0⟩ : S30), (⟨4, 0⟩ : S30), (⟨4, 0⟩ : S30), (⟨4, 0⟩ : S30), (⟨0, 3⟩ : S30), (⟨1, 0⟩ : S30)] : List (S30)))] : List (List (S30))))) = some r := by first | (rw [hy141]; with_reducible exact H) | (have H2_ := (Option.bind_some _ _).symm.trans H; rw [hy141]; with_reducible exact H2_) | (have H2_ := (Option.bind_some _ _).symm.trans H; with_reducible exact H2_) | with_reducible exact H | (rw [hy141]; exact H) | exact H
  have Ny141 := Aside0.mk hy141
  clear hy141
  obtain ⟨y144, hy144⟩ : ∃ y_ : List (S30), y_ = (([(⟨1, 0⟩ : S30), (⟨4, 0⟩ : S30), (⟨1, 0⟩ : S30), (⟨1, 0⟩ : S30), (⟨2, 1⟩ : S30), (⟨1, 0⟩ : S30)] : List (S30))) := ⟨_, rfl⟩
  replace H : (some (([y141, y144, (([(⟨2, 0⟩ : S30), (⟨4, 0⟩ : S30), (⟨2, 0⟩ : S30), (⟨2, 0⟩ : S30), (⟨3, 2⟩ : S30), (⟨1, 0⟩ : S30)] : List (S30))), (([(⟨3, 0⟩ : S30), (⟨4, 0⟩ : S30), (⟨2, 0⟩ : S30), (⟨2, 0⟩ : S30), (⟨3, 0⟩ : S30), (⟨1, 0⟩ : S30)] : List (S30))), (([(⟨2, 0⟩ : S30), (⟨4, 0⟩ : S30), (⟨4, 0⟩ : S30), (⟨4, 0⟩ : S30), (⟨0, 3⟩ : S30), (⟨1, 0⟩ : S30)] : List (S30)))] : List (List (S30))))) = some r := by first | (rw [hy144]; with_reducible exact H) | (have H2_ := (Option.bind_some _ _).symm.trans H; rw [hy144]; with_reducible exact H2_) | (have H2_ := (Option.bind_some _ _).symm.trans H; with_reducible exact H2_) | with_reducible exact H | (rw [hy144]; exact H) | exact H
  have Ny144 := Aside0.mk hy144
  clear hy144
  obtain ⟨y147, hy147⟩ : ∃ y_ : List (S30), y_ = (([(⟨2, 0⟩ : S30), (⟨4, 0⟩ : S30), (⟨2, 0⟩ : S30), (⟨2, 0⟩ : S30), (⟨3, 2⟩ : S30), (⟨1, 0⟩ : S30)] : List (S30))) := ⟨_, rfl⟩
  replace H : (some (([y141, y144, y147, (([(⟨3, 0⟩ : S30), (⟨4, 0⟩ : S30), (⟨2, 0⟩ : S30), (⟨2, 0⟩ : S30), (⟨3, 0⟩ : S30), (⟨1, 0⟩ : S30)] : List (S30))), (([(⟨2, 0⟩ : S30), (⟨4, 0⟩ : S30), (⟨4, 0⟩ : S30), (⟨4, 0⟩ : S30), (⟨0, 3⟩ : S30), (⟨1, 0⟩ : S30)] : List (S30)))] : List (List (S30))))) = some r := by first | (rw [hy147]; with_reducible exact H) | (have H2_ := (Option.bind_some _ _).symm.trans H; rw [hy147]; with_reducible exact H2_) | (have H2_ := (Option.bind_some _ _).symm.trans H; with_reducible exact H2_) | with_reducible exact H | (rw [hy147]; exact H) | exact H
  have Ny147 := Aside0.mk hy147
  clear hy147
  obtain ⟨y150, hy150⟩ : ∃ y_ : List (S30), y_ = (([(⟨3, 0⟩ : S30), (⟨4, 0⟩ : S30), (⟨2, 0⟩ : S30), (⟨2, 0⟩ : S30), (⟨3, 0⟩ : S30), (⟨1, 0⟩ : S30)] : List (S30))) := ⟨_, rfl⟩
  replace H : (some (([y141, y144, y147, y150, (([(⟨2, 0⟩ : S30), (⟨4, 0⟩ : S30), (⟨4, 0⟩ : S30), (⟨4, 0⟩ : S30), (⟨0, 3⟩ : S30), (⟨1, 0⟩ : S30)] : List (S30)))] : List (List (S30))))) = some r := by first | (rw [hy150]; with_reducible exact H) | (have H2_ := (Option.bind_some _ _).symm.trans H; rw [hy150]; with_reducible exact H2_) | (have H2_ := (Option.bind_some _ _).symm.trans H; with_reducible exact H2_) | with_reducible exact H | (rw [hy150]; exact H) | exact H
  have Ny150 := Aside0.mk hy150
  clear hy150
  obtain ⟨y153, hy153⟩ : ∃ y_ : List (S30), y_ = (([(⟨2, 0⟩ : S30), (⟨4, 0⟩ : S30), (⟨4, 0⟩ : S30), (⟨4, 0⟩ : S30), (⟨0, 3⟩ : S30), (⟨1, 0⟩ : S30)] : List (S30))) := ⟨_, rfl⟩
  replace H : (some (([y141, y144, y147, y150, y153] : List (List (S30))))) = some r := by first | (rw [hy153]; with_reducible exact H) | (have H2_ := (Option.bind_some _ _).symm.trans H; rw [hy153]; with_reducible exact H2_) | (have H2_ := (Option.bind_some _ _).symm.trans H; with_reducible exact H2_) | with_reducible exact H | (rw [hy153]; exact H) | exact H
  have Ny153 := Aside0.mk hy153
  clear hy153
  obtain ⟨y156, hy156⟩ : ∃ y_ : List (List (S30)), y_ = (([y141, y144, y147, y150, y153] : List (List (S30)))) := ⟨_, rfl⟩
  replace H : (some y156) = some r := by first | (rw [hy156]; with_reducible exact H) | (have H2_ := (Option.bind_some _ _).symm.trans H; rw [hy156]; with_reducible exact H2_) | (have H2_ := (Option.bind_some _ _).symm.trans H; with_reducible exact H2_) | with_reducible exact H | (rw [hy156]; exact H) | exact H
  have Ny156 := Aside0.mk hy156
  clear hy156
  obtain rfl := Option.some.inj H
  go_enter Try.func25, Try.ntmps25
  go_wp2_with (first | ((with_reducible refine gate_dst (N := 7) rfl ?_); refine Kd.R_lit k30 _ 30 ?hg (N := 7) ?hd (xs := ([(⟨1, 0⟩ : S30), (⟨0, 0⟩ : S30), (⟨0, 0⟩ : S30), (⟨0, 0⟩ : S30), (⟨0, 0⟩ : S30), (⟨1, 0⟩ : S30)] : List (S30))) (inner := [.int .i64 1, .int .i64 0, .int .i64 0, .int .i64 0, .int .i64 0, .int .i64 0, .int .i64 0, .int .i64 0, .int .i64 0, .int .i64 0, .int .i64 1, .int .i64 0]) (ok := fun _ => True) (okp := fun _ => True) ?hr ?hp (fun _ hk => hk) trivial (Below.refl _ _) (Nat.le_refl _) (by simp) ?_; (case hd => rfl); (case hg => rfl); (case hr => first | (go_simp; done) | (go_simp; rfl)); (case hp => exact (Reps.c2 (show Kd.M k30 _ _ _ (⟨1, 0⟩ : S30) [.int .i64 1, .int .i64 0] from (k30_mkM _ _ _ (⟨1, 0⟩ : S30) )) (Reps.c2 (show Kd.M k30 _ _ _ (⟨0, 0⟩ : S30) [.int .i64 0, .int .i64 0] from (k30_mkM _ _ _ (⟨0, 0⟩ : S30) )) (Reps.c2 (show Kd.M k30 _ _ _ (⟨0, 0⟩ : S30) [.int .i64 0, .int .i64 0] from (k30_mkM _ _ _ (⟨0, 0⟩ : S30) )) (Reps.c2 (show Kd.M k30 _ _ _ (⟨0, 0⟩ : S30) [.int .i64 0, .int .i64 0] from (k30_mkM _ _ _ (⟨0, 0⟩ : S30) )) (Reps.c2 (show Kd.M k30 _ _ _ (⟨0, 0⟩ : S30) [.int .i64 0, .int .i64 0] from (k30_mkM _ _ _ (⟨0, 0⟩ : S30) )) (Reps.c2 (show Kd.M k30 _ _ _ (⟨1, 0⟩ : S30) [.int .i64 1, .int .i64 0] from (k30_mkM _ _ _ (⟨1, 0⟩ : S30) )) (Reps.none _ _)))))))); intro v142 w1 ho2 hb hg_ hnew_; clear hg_ hnew_; (first | rw [← Ny141.out] at ho2 | (simp only [Int.reduceToNat] at ho2; rw [← Ny141.out] at ho2)); have n0_ := Aside0.mk (Kd.R_lower (Kd.R_newM (M := fun k_ => (w.heap.size ≤ k_)) ho2 (below_size (by repeat (first | (with_reducible first | exact HB.out | apply below_alloc | apply pw_below_drewN | apply below_drew1) | exact HB.out))) (fun k_ h_ => h_)) (below_size (by repeat (first | (with_reducible first | exact HB.out | apply below_alloc | apply pw_below_drewN | apply below_drew1) | exact HB.out)))); have n1_ := Aside0.mk (below_step (by repeat (first | (with_reducible first | exact HB.out | apply below_alloc | apply pw_below_drewN | apply below_drew1) | exact HB.out)) hb); clear HB; have HO143 := n0_; have HB := n1_; clear n0_ n1_; clear hb ho2) | ((with_reducible refine gate_dst (N := 14) rfl ?_); refine Kd.R_lit k30 _ 30 ?hg (N := 14) ?hd (xs := ([(⟨1, 0⟩ : S30), (⟨4, 0⟩ : S30), (⟨1, 0⟩ : S30), (⟨1, 0⟩ : S30), (⟨2, 1⟩ : S30), (⟨1, 0⟩ : S30)] : List (S30))) (inner := [.int .i64 1, .int .i64 0, .int .i64 4, .int .i64 0, .int .i64 1, .int .i64 0, .int .i64 1, .int .i64 0, .int .i64 2, .int .i64 1, .int .i64 1, .int .i64 0]) (ok := fun _ => True) (okp := fun _ => True) ?hr ?hp (fun _ hk => hk) trivial (Below.refl _ _) (Nat.le_refl _) (by simp) ?_; (case hd => rfl); (case hg => rfl); (case hr => first | (go_simp; done) | (go_simp; rfl)); (case hp => exact (Reps.c2 (show Kd.M k30 _ _ _ (⟨1, 0⟩ : S30) [.int .i64 1, .int .i64 0] from (k30_mkM _ _ _ (⟨1, 0⟩ : S30) )) (Reps.c2 (show Kd.M k30 _ _ _ (⟨4, 0⟩ : S30) [.int .i64 4, .int .i64 0] from (k30_mkM _ _ _ (⟨4, 0⟩ : S30) )) (Reps.c2 (show Kd.M k30 _ _ _ (⟨1, 0⟩ : S30) [.int .i64 1, .int .i64 0] from (k30_mkM _ _ _ (⟨1, 0⟩ : S30) )) (Reps.c2 (show Kd.M k30 _ _ _ (⟨1, 0⟩ : S30) [.int .i64 1, .int .i64 0] from (k30_mkM _ _ _ (⟨1, 0⟩ : S30) )) (Reps.c2 (show Kd.M k30 _ _ _ (⟨2, 1⟩ : S30) [.int .i64 2, .int .i64 1] from (k30_mkM _ _ _ (⟨2, 1⟩ : S30) )) (Reps.c2 (show Kd.M k30 _ _ _ (⟨1, 0⟩ : S30) [.int .i64 1, .int .i64 0] from (k30_mkM _ _ _ (⟨1, 0⟩ : S30) )) (Reps.none _ _)))))))); intro v145 w3 ho4 hb hg_ hnew_; clear hg_ hnew_; (first | rw [← Ny144.out] at ho4 | (simp only [Int.reduceToNat] at ho4; rw [← Ny144.out] at ho4)); have n0_ := Aside0.mk (Kd.R_elder' (by (with_reducible repeat (first | apply Kd.R_alloc | apply Kd.R_drewN | apply Kd.R_drew)); exact HO143.out) (Kd.R_base ho4) hb); have n1_ := Aside0.mk (Kd.R_lower (Kd.R_new' (Kd.R_newM (M := fun k_ => (w.heap.size ≤ k_)) ho4 (below_size (by repeat (first | (with_reducible first | exact HB.out | apply below_alloc | apply pw_below_drewN | apply below_drew1) | exact HB.out))) (fun k_ h_ => h_)) (Kd.R_lt (by (with_reducible repeat (first | apply Kd.R_alloc | apply Kd.R_drewN | apply Kd.R_drew)); exact HO143.out))) (below_size (by repeat (first | (with_reducible first | exact HB.out | apply below_alloc | apply pw_below_drewN | apply below_drew1) | exact HB.out)))); have n2_ := Aside0.mk (below_step (by repeat (first | (with_reducible first | exact HB.out | apply below_alloc | apply pw_below_drewN | apply below_drew1) | exact HB.out)) hb); clear HO143; clear HB; have HO143 := n0_; have HO146 := n1_; have HB := n2_; clear n0_ n1_ n2_; clear hb ho4) | ((with_reducible refine gate_dst (N := 21) rfl ?_); refine Kd.R_lit k30 _ 30 ?hg (N := 21) ?hd (xs := ([(⟨2, 0⟩ : S30), (⟨4, 0⟩ : S30), (⟨2, 0⟩ : S30), (⟨2, 0⟩ : S30), (⟨3, 2⟩ : S30), (⟨1, 0⟩ : S30)] : List (S30))) (inner := [.int .i64 2, .int .i64 0, .int .i64 4, .int .i64 0, .int .i64 2, .int .i64 0, .int .i64 2, .int .i64 0, .int .i64 3, .int .i64 2, .int .i64 1, .int .i64 0]) (ok := fun _ => True) (okp := fun _ => True) ?hr ?hp (fun _ hk => hk) trivial (Below.refl _ _) (Nat.le_refl _) (by simp) ?_; (case hd => rfl); (case hg => rfl); (case hr => first | (go_simp; done) | (go_simp; rfl)); (case hp => exact (Reps.c2 (show Kd.M k30 _ _ _ (⟨2, 0⟩ : S30) [.int .i64 2, .int .i64 0] from (k30_mkM _ _ _ (⟨2, 0⟩ : S30) )) (Reps.c2 (show Kd.M k30 _ _ _ (⟨4, 0⟩ : S30) [.int .i64 4, .int .i64 0] from (k30_mkM _ _ _ (⟨4, 0⟩ : S30) )) (Reps.c2 (show Kd.M k30 _ _ _ (⟨2, 0⟩ : S30) [.int .i64 2, .int .i64 0] from (k30_mkM _ _ _ (⟨2, 0⟩ : S30) )) (Reps.c2 (show Kd.M k30 _ _ _ (⟨2, 0⟩ : S30) [.int .i64 2, .int .i64 0] from (k30_mkM _ _ _ (⟨2, 0⟩ : S30) )) (Reps.c2 (show Kd.M k30 _ _ _ (⟨3, 2⟩ : S30) [.int .i64 3, .int .i64 2] from (k30_mkM _ _ _ (⟨3, 2⟩ : S30) )) (Reps.c2 (show Kd.M k30 _ _ _ (⟨1, 0⟩ : S30) [.int .i64 1, .int .i64 0] from (k30_mkM _ _ _ (⟨1, 0⟩ : S30) )) (Reps.none _ _)))))))); intro v148 w5 ho6 hb hg_ hnew_; clear hg_ hnew_; (first | rw [← Ny147.out] at ho6 | (simp only [Int.reduceToNat] at ho6; rw [← Ny147.out] at ho6)); have n0_ := Aside0.mk (Kd.R_elder' (by (with_reducible repeat (first | apply Kd.R_alloc | apply Kd.R_drewN | apply Kd.R_drew)); exact HO143.out) (Kd.R_base ho6) hb); have n1_ := Aside0.mk (Kd.R_elder' (by (with_reducible repeat (first | apply Kd.R_alloc | apply Kd.R_drewN | apply Kd.R_drew)); exact HO146.out) (Kd.R_base ho6) hb); have n2_ := Aside0.mk (Kd.R_lower (Kd.R_new' (Kd.R_new' (Kd.R_newM (M := fun k_ => (w.heap.size ≤ k_)) ho6 (below_size (by repeat (first | (with_reducible first | exact HB.out | apply below_alloc | apply pw_below_drewN | apply below_drew1) | exact HB.out))) (fun k_ h_ => h_)) (Kd.R_lt (by (with_reducible repeat (first | apply Kd.R_alloc | apply Kd.R_drewN | apply Kd.R_drew)); exact HO143.out))) (Kd.R_lt (by (with_reducible repeat (first | apply Kd.R_alloc | apply Kd.R_drewN | apply Kd.R_drew)); exact HO146.out))) (below_size (by repeat (first | (with_reducible first | exact HB.out | apply below_alloc | apply pw_below_drewN | apply below_drew1) | exact HB.out)))); have n3_ := Aside0.mk (below_step (by repeat (first | (with_reducible first | exact HB.out | apply below_alloc | apply pw_below_drewN | apply below_drew1) | exact HB.out)) hb); clear HO143; clear HO146; clear HB; have HO143 := n0_; have HO146 := n1_; have HO149 := n2_; have HB := n3_; clear n0_ n1_ n2_ n3_; clear hb ho6) | ((with_reducible refine gate_dst (N := 28) rfl ?_); refine Kd.R_lit k30 _ 30 ?hg (N := 28) ?hd (xs := ([(⟨3, 0⟩ : S30), (⟨4, 0⟩ : S30), (⟨2, 0⟩ : S30), (⟨2, 0⟩ : S30), (⟨3, 0⟩ : S30), (⟨1, 0⟩ : S30)] : List (S30))) (inner := [.int .i64 3, .int .i64 0, .int .i64 4, .int .i64 0, .int .i64 2, .int .i64 0, .int .i64 2, .int .i64 0, .int .i64 3, .int .i64 0, .int .i64 1, .int .i64 0]) (ok := fun _ => True) (okp := fun _ => True) ?hr ?hp (fun _ hk => hk) trivial (Below.refl _ _) (Nat.le_refl _) (by simp) ?_; (case hd => rfl); (case hg => rfl); (case hr => first | (go_simp; done) | (go_simp; rfl)); (case hp => exact (Reps.c2 (show Kd.M k30 _ _ _ (⟨3, 0⟩ : S30) [.int .i64 3, .int .i64 0] from (k30_mkM _ _ _ (⟨3, 0⟩ : S30) )) (Reps.c2 (show Kd.M k30 _ _ _ (⟨4, 0⟩ : S30) [.int .i64 4, .int .i64 0] from (k30_mkM _ _ _ (⟨4, 0⟩ : S30) )) (Reps.c2 (show Kd.M k30 _ _ _ (⟨2, 0⟩ : S30) [.int .i64 2, .int .i64 0] from (k30_mkM _ _ _ (⟨2, 0⟩ : S30) )) (Reps.c2 (show Kd.M k30 _ _ _ (⟨2, 0⟩ : S30) [.int .i64 2, .int .i64 0] from (k30_mkM _ _ _ (⟨2, 0⟩ : S30) )) (Reps.c2 (show Kd.M k30 _ _ _ (⟨3, 0⟩ : S30) [.int .i64 3, .int .i64 0] from (k30_mkM _ _ _ (⟨3, 0⟩ : S30) )) (Reps.c2 (show Kd.M k30 _ _ _ (⟨1, 0⟩ : S30) [.int .i64 1, .int .i64 0] from (k30_mkM _ _ _ (⟨1, 0⟩ : S30) )) (Reps.none _ _)))))))); intro v151 w7 ho8 hb hg_ hnew_; clear hg_ hnew_; (first | rw [← Ny150.out] at ho8 | (simp only [Int.reduceToNat] at ho8; rw [← Ny150.out] at ho8)); have n0_ := Aside0.mk (Kd.R_elder' (by (with_reducible repeat (first | apply Kd.R_alloc | apply Kd.R_drewN | apply Kd.R_drew)); exact HO143.out) (Kd.R_base ho8) hb); have n1_ := Aside0.mk (Kd.R_elder' (by (with_reducible repeat (first | apply Kd.R_alloc | apply Kd.R_drewN | apply Kd.R_drew)); exact HO146.out) (Kd.R_base ho8) hb); have n2_ := Aside0.mk (Kd.R_elder' (by (with_reducible repeat (first | apply Kd.R_alloc | apply Kd.R_drewN | apply Kd.R_drew)); exact HO149.out) (Kd.R_base ho8) hb); have n3_ := Aside0.mk (Kd.R_lower (Kd.R_new' (Kd.R_new' (Kd.R_new' (Kd.R_newM (M := fun k_ => (w.heap.size ≤ k_)) ho8 (below_size (by repeat (first | (with_reducible first | exact HB.out | apply below_alloc | apply pw_below_drewN | apply below_drew1) | exact HB.out))) (fun k_ h_ => h_)) (Kd.R_lt (by (with_reducible repeat (first | apply Kd.R_alloc | apply Kd.R_drewN | apply Kd.R_drew)); exact HO143.out))) (Kd.R_lt (by (with_reducible repeat (first | apply Kd.R_alloc | apply Kd.R_drewN | apply Kd.R_drew)); exact HO146.out))) (Kd.R_lt (by (with_reducible repeat (first | apply Kd.R_alloc | apply Kd.R_drewN | apply Kd.R_drew)); exact HO149.out))) (below_size (by repeat (first | (with_reducible first | exact HB.out | apply below_alloc | apply pw_below_drewN | apply below_drew1) | exact HB.out)))); have n4_ := Aside0.mk (below_step (by repeat (first | (with_reducible first | exact HB.out | apply below_alloc | apply pw_below_drewN | apply below_drew1) | exact HB.out)) hb); clear HO143; clear HO146; clear HO149; clear HB; have HO143 := n0_; have HO146 := n1_; have HO149 := n2_; have HO152 := n3_; have HB := n4_; clear n0_ n1_ n2_ n3_ n4_; clear hb ho8) | ((with_reducible refine gate_dst (N := 35) rfl ?_); refine Kd.R_lit k30 _ 30 ?hg (N := 35) ?hd (xs := ([(⟨2, 0⟩ : S30), (⟨4, 0⟩ : S30), (⟨4, 0⟩ : S30), (⟨4, 0⟩ : S30), (⟨0, 3⟩ : S30), (⟨1, 0⟩ : S30)] : List (S30))) (inner := [.int .i64 2, .int .i64 0, .int .i64 4, .int .i64 0, .int .i64 4, .int .i64 0, .int .i64 4, .int .i64 0, .int .i64 0, .int .i64 3, .int .i64 1, .int .i64 0]) (ok := fun _ => True) (okp := fun _ => True) ?hr ?hp (fun _ hk => hk) trivial (Below.refl _ _) (Nat.le_refl _) (by simp) ?_; (case hd => rfl); (case hg => rfl); (case hr => first | (go_simp; done) | (go_simp; rfl)); (case hp => exact (Reps.c2 (show Kd.M k30 _ _ _ (⟨2, 0⟩ : S30) [.int .i64 2, .int .i64 0] from (k30_mkM _ _ _ (⟨2, 0⟩ : S30) )) (Reps.c2 (show Kd.M k30 _ _ _ (⟨4, 0⟩ : S30) [.int .i64 4, .int .i64 0] from (k30_mkM _ _ _ (⟨4, 0⟩ : S30) )) (Reps.c2 (show Kd.M k30 _ _ _ (⟨4, 0⟩ : S30) [.int .i64 4, .int .i64 0] from (k30_mkM _ _ _ (⟨4, 0⟩ : S30) )) (Reps.c2 (show Kd.M k30 _ _ _ (⟨4, 0⟩ : S30) [.int .i64 4, .int .i64 0] from (k30_mkM _ _ _ (⟨4, 0⟩ : S30) )) (Reps.c2 (show Kd.M k30 _ _ _ (⟨0, 3⟩ : S30) [.int .i64 0, .int .i64 3] from (k30_mkM _ _ _ (⟨0, 3⟩ : S30) )) (Reps.c2 (show Kd.M k30 _ _ _ (⟨1, 0⟩ : S30) [.int .i64 1, .int .i64 0] from (k30_mkM _ _ _ (⟨1, 0⟩ : S30) )) (Reps.none _ _)))))))); intro v154 w9 ho10 hb hg_ hnew_; clear hg_ hnew_; (first | rw [← Ny153.out] at ho10 | (simp only [Int.reduceToNat] at ho10; rw [← Ny153.out] at ho10)); have n0_ := Aside0.mk (Kd.R_elder' (by (with_reducible repeat (first | apply Kd.R_alloc | apply Kd.R_drewN | apply Kd.R_drew)); exact HO143.out) (Kd.R_base ho10) hb); have n1_ := Aside0.mk (Kd.R_elder' (by (with_reducible repeat (first | apply Kd.R_alloc | apply Kd.R_drewN | apply Kd.R_drew)); exact HO146.out) (Kd.R_base ho10) hb); have n2_ := Aside0.mk (Kd.R_elder' (by (with_reducible repeat (first | apply Kd.R_alloc | apply Kd.R_drewN | apply Kd.R_drew)); exact HO149.out) (Kd.R_base ho10) hb); have n3_ := Aside0.mk (Kd.R_elder' (by (with_reducible repeat (first | apply Kd.R_alloc | apply Kd.R_drewN | apply Kd.R_drew)); exact HO152.out) (Kd.R_base ho10) hb); have n4_ := Aside0.mk (Kd.R_lower (Kd.R_new' (Kd.R_new' (Kd.R_new' (Kd.R_new' (Kd.R_newM (M := fun k_ => (w.heap.size ≤ k_)) ho10 (below_size (by repeat (first | (with_reducible first | exact HB.out | apply below_alloc | apply pw_below_drewN | apply below_drew1) | exact HB.out))) (fun k_ h_ => h_)) (Kd.R_lt (by (with_reducible repeat (first | apply Kd.R_alloc | apply Kd.R_drewN | apply Kd.R_drew)); exact HO143.out))) (Kd.R_lt (by (with_reducible repeat (first | apply Kd.R_alloc | apply Kd.R_drewN | apply Kd.R_drew)); exact HO146.out))) (Kd.R_lt (by (with_reducible repeat (first | apply Kd.R_alloc | apply Kd.R_drewN | apply Kd.R_drew)); exact HO149.out))) (Kd.R_lt (by (with_reducible repeat (first | apply Kd.R_alloc | apply Kd.R_drewN | apply Kd.R_drew)); exact HO152.out))) (below_size (by repeat (first | (with_reducible first | exact HB.out | apply below_alloc | apply pw_below_drewN | apply below_drew1) | exact HB.out)))); have n5_ := Aside0.mk (below_step (by repeat (first | (with_reducible first | exact HB.out | apply below_alloc | apply pw_below_drewN | apply below_drew1) | exact HB.out)) hb); clear HO143; clear HO146; clear HO149; clear HO152; clear HB; have HO143 := n0_; have HO146 := n1_; have HO149 := n2_; have HO152 := n3_; have HO155 := n4_; have HB := n5_; clear n0_ n1_ n2_ n3_ n4_ n5_; clear hb ho10; obtain ⟨Ao11, co11, eo11⟩ := Kd.R_slice HO143.out; subst eo11; obtain ⟨Ao12, co12, eo12⟩ := Kd.R_slice HO146.out; subst eo12; obtain ⟨Ao13, co13, eo13⟩ := Kd.R_slice HO149.out; subst eo13; obtain ⟨Ao14, co14, eo14⟩ := Kd.R_slice HO152.out; subst eo14; obtain ⟨Ao15, co15, eo15⟩ := Kd.R_slice HO155.out; subst eo15) | ((with_reducible refine gate_dst (N := 36) rfl ?_); refine Kd.N_lit (Kd.slice 30 k30) _ 27 ?hg (N' := 36) ?hd (xs := ([y141, y144, y147, y150, y153] : List (List (S30)))) (inner := [.slice Ao11 y141.length co11, .slice Ao12 y144.length co12, .slice Ao13 y147.length co13, .slice Ao14 y150.length co14, .slice Ao15 y153.length co15]) (ok := (fun k_ => (w.heap.size ≤ k_))) (okp := (fun k_ => (w.heap.size ≤ k_))) ?hr ?hp (fun _ hk => hk) ((show ∀ k_, w9.heap.size ≤ k_ → (fun k_ => (w.heap.size ≤ k_)) k_ from fun k_ hk => (Nat.le_trans (below_size (by repeat (first | (with_reducible first | exact HB.out | apply below_alloc | apply pw_below_drewN | apply below_drew1) | exact HB.out))) hk)) _ (Nat.le_refl _)) (Below.refl _ _) (Nat.le_refl _) (by simp) ?_; (case hd => rfl); (case hg => rfl); (case hr => first | (go_simp; done) | (go_simp; rfl)); (case hp => exact (Reps.one (show Kd.FK (Kd.slice 30 k30) _ _ y141 [.slice Ao11 y141.length co11] from (Kd.FK_slice_mk (Kd.R_reads' (Kd.R_mono (ok' := (fun k_ => (w.heap.size ≤ k_))) (HO143.out) (fun k_ hk => hk.1.1.1.1.1))).2.1 (Kd.R_F (Kd.R_mono (ok' := (fun k_ => (w.heap.size ≤ k_))) (HO143.out) (fun k_ hk => hk.1.1.1.1.1))))) (Reps.one (show Kd.FK (Kd.slice 30 k30) _ _ y144 [.slice Ao12 y144.length co12] from (Kd.FK_slice_mk (Kd.R_reads' (Kd.R_mono (ok' := (fun k_ => (w.heap.size ≤ k_))) (HO146.out) (fun k_ hk => hk.1.1.1.1.1))).2.1 (Kd.R_F (Kd.R_mono (ok' := (fun k_ => (w.heap.size ≤ k_))) (HO146.out) (fun k_ hk => hk.1.1.1.1.1))))) (Reps.one (show Kd.FK (Kd.slice 30 k30) _ _ y147 [.slice Ao13 y147.length co13] from (Kd.FK_slice_mk (Kd.R_reads' (Kd.R_mono (ok' := (fun k_ => (w.heap.size ≤ k_))) (HO149.out) (fun k_ hk => hk.1.1.1.1.1))).2.1 (Kd.R_F (Kd.R_mono (ok' := (fun k_ => (w.heap.size ≤ k_))) (HO149.out) (fun k_ hk => hk.1.1.1.1.1))))) (Reps.one (show Kd.FK (Kd.slice 30 k30) _ _ y150 [.slice Ao14 y150.length co14] from (Kd.FK_slice_mk (Kd.R_reads' (Kd.R_mono (ok' := (fun k_ => (w.heap.size ≤ k_))) (HO152.out) (fun k_ hk => hk.1.1.1.1.1))).2.1 (Kd.R_F (Kd.R_mono (ok' := (fun k_ => (w.heap.size ≤ k_))) (HO152.out) (fun k_ hk => hk.1.1.1.1.1))))) (Reps.one (show Kd.FK (Kd.slice 30 k30) _ _ y153 [.slice Ao15 y153.length co15] from (Kd.FK_slice_mk (Kd.R_reads' (Kd.R_mono (ok' := (fun k_ => (w.heap.size ≤ k_))) (HO155.out) (fun k_ hk => hk.1.1.1.1.1))).2.1 (Kd.R_F (Kd.R_mono (ok' := (fun k_ => (w.heap.size ≤ k_))) (HO155.out) (fun k_ hk => hk.1.1.1.1.1))))) (Reps.none _ _))))))); intro v157 w16 ho17 hb hg_ hnew_; clear hg_ hnew_; (first | rw [← Ny156.out] at ho17 | (simp only [Int.reduceToNat] at ho17; rw [← Ny156.out] at ho17)); have n0_ := Aside0.mk (Kd.N_lower ho17 (below_size (by repeat (first | (with_reducible first | exact HB.out | apply below_alloc | apply pw_below_drewN | apply below_drew1) | exact HB.out)))); have n1_ := Aside0.mk (below_step (by repeat (first | (with_reducible first | exact HB.out | apply below_alloc | apply pw_below_drewN | apply below_drew1) | exact HB.out)) hb); clear HB; clear HO143; clear HO146; clear HO149; clear HO152; clear HO155; have HO158 := n0_; have HB := n1_; clear n0_ n1_; clear hb ho17))
  go_ret
  exact ⟨_, by first | rfl | (simp [errW_none, errW_some] <;> rfl) | (simp [*, errW_none, errW_some] <;> rfl), by (with_reducible repeat (first | apply Kd.N_alloc | apply Kd.N_drewN | apply Kd.N_drew)); exact HO158.out, by repeat (first | (with_reducible first | exact HB.out | apply below_alloc | apply pw_below_drewN | apply below_drew1) | exact HB.out)⟩
end Go.Proofs.Ytbcngajkokjfjaa.QRea
namespace Go.Proofs.Ytbcngajkokjfjaa.QRea
open Go.RowKit Go.Proofs.YtbcngajkokjfjaaW.PrintWords Go.Proofs.YtbcngajkokjfjaaW.PrintLast Go.Proofs.YtbcngajkokjfjaaW.PrintMore
set_option linter.unusedVariables false
set_option linter.unusedSimpArgs false
def lays189_ren : Go.Shelf.Ren := ⟨fun | 189 => 38 | 125 => 46 | 257 => 45 | 128 => 59 | 129 => 60 | 294 => 50 | 295 => 51 | 296 => 52 | 297 => 53 | 298 => 54 | 299 => 55 | 216 => 56 | 300 => 57 | 301 => 58 | 328 => 70 | 329 => 71 | 330 => 72 | 331 => 73 | 332 => 74 | 215 => 69 | 343 => 78 | n => n, fun | 28 => 24 | 3 => 3 | 46 => 77 | 0 => 0 | 51 => 91 | 53 => 93 | 4 => 4 | 183 => 83 | 182 => 82 | 131 => 88 | 5 => 5 | 9 => 9 | 218 => 100 | 222 => 104 | 228 => 108 | 229 => 109 | n => n, fun | n => n⟩
theorem lays189 : Go.Proofs.Lays.n189 Try.prog lays189_ren := {
  mixed := by kernel_rfl
  f125 := Try.func46.trans (congrArg some (by kernel_rfl))
  f128 := Try.func59.trans (congrArg some (by kernel_rfl))
  f129 := Try.func60.trans (congrArg some (by kernel_rfl))
  f189 := Try.func38.trans (congrArg some (by kernel_rfl))
  f215 := Try.func69.trans (congrArg some (by kernel_rfl))
  f216 := Try.func56.trans (congrArg some (by kernel_rfl))
  f257 := Try.func45.trans (congrArg some (by kernel_rfl))
  f294 := Try.func50.trans (congrArg some (by kernel_rfl))
  f295 := Try.func51.trans (congrArg some (by kernel_rfl))
  f296 := Try.func52.trans (congrArg some (by kernel_rfl))
  f297 := Try.func53.trans (congrArg some (by kernel_rfl))
  f298 := Try.func54.trans (congrArg some (by kernel_rfl))
  f299 := Try.func55.trans (congrArg some (by kernel_rfl))
  f300 := Try.func57.trans (congrArg some (by kernel_rfl))
  f301 := Try.func58.trans (congrArg some (by kernel_rfl))
  f328 := Try.func70.trans (congrArg some (by kernel_rfl))
  f329 := Try.func71.trans (congrArg some (by kernel_rfl))
  f330 := Try.func72.trans (congrArg some (by kernel_rfl))
  f331 := Try.func73.trans (congrArg some (by kernel_rfl))
  f332 := Try.func74.trans (congrArg some (by kernel_rfl))
  f343 := Try.func78.trans (congrArg some (by kernel_rfl))
  t0 := Try.underlying0
  a0 := Try.isAgg0
  z0 := Try.sizeOf0
  v0 := Try.zeroValue0
  t3 := Try.underlying3
  a3 := Try.isAgg3
  z3 := Try.sizeOf3
  v3 := Try.zeroValue3
  t4 := Try.underlying4
  a4 := Try.isAgg4
  z4 := Try.sizeOf4
  v4 := Try.zeroValue4
  t5 := Try.underlying5
  a5 := Try.isAgg5
  z5 := Try.sizeOf5
  v5 := Try.zeroValue5
  t9 := Try.underlying9
  a9 := Try.isAgg9
  z9 := Try.sizeOf9
  v9 := Try.zeroValue9
  t28 := Try.underlying24
  a28 := Try.isAgg24
  z28 := Try.sizeOf24
  v28 := Try.zeroValue24
  t46 := Try.underlying77
  a46 := Try.isAgg77
  z46 := Try.sizeOf77
  v46 := Try.zeroValue77
  t51 := Try.underlying91
  a51 := Try.isAgg91
  z51 := Try.sizeOf91
  v51 := Try.zeroValue91
  t53 := Try.underlying93
  a53 := Try.isAgg93
  z53 := Try.sizeOf93
  v53 := Try.zeroValue93
  t131 := Try.underlying88
  a131 := Try.isAgg88
  z131 := Try.sizeOf88
  v131 := Try.zeroValue88
  t182 := Try.underlying82
  a182 := Try.isAgg82
  z182 := Try.sizeOf82
  v182 := Try.zeroValue82
  t183 := Try.underlying83
  a183 := Try.isAgg83
  z183 := Try.sizeOf83
  v183 := Try.zeroValue83
  t218 := Try.underlying100
  a218 := Try.isAgg100
  z218 := Try.sizeOf100
  v218 := Try.zeroValue100
  t222 := Try.underlying104
  a222 := Try.isAgg104
  z222 := Try.sizeOf104
  v222 := Try.zeroValue104
  t228 := Try.underlying108
  a228 := Try.isAgg108
  z228 := Try.sizeOf108
  v228 := Try.zeroValue108
  t229 := Try.underlying109
  a229 := Try.isAgg109
  z229 := Try.sizeOf109
  v229 := Try.zeroValue109 }
def slices_Sort_int_int.f (l : List Int) : Option (List Int) := if l.length < 4611686018427387904 then some (l.mergeSort fun x y => decide (x ≤ y)) else none
theorem slices_Sort_int_int.calls (P0_ : Nat → Prop) (u9000_ : Value) (l0 : List Int) (r : List Int) (w0 w : World) (hB : Below w0.heap.size w0 w) (ho0 : Kd.R (Kd.int .i64) 3 w w0.heap.size P0_ u9000_ l0) (h : slices_Sort_int_int.f l0 = some r) : Calls Try.prog 38 #[u9000_] w fun e w' => e = .returned (.tuple #[]) ∧ Kd.R (Kd.int .i64) 3 w' w0.heap.size (fun k_ => (P0_ k_ ∨ w.heap.size ≤ k_)) u9000_ r ∧ Below w0.heap.size w0 w' ∧ Kept w w' (fun k_ => P0_ k_) := by
  unfold slices_Sort_int_int.f at h
  split at h
  case isFalse => cases h
  rename_i hbig
  obtain rfl := Option.some.inj h
  have ho := Kd.own_of_R ho0
  have hok := ho0.1
  have hlen : (l0.mergeSort fun x y => decide (x ≤ y)).length = l0.length := List.length_mergeSort _
  rcases ho.2 with ⟨he, hx⟩ | ⟨g, cap, cur, hv, hg, hb, h1, h2, h3, h4⟩
  · obtain rfl : l0 = [] := List.length_eq_zero_iff.1 (by simpa using hx)
    subst he
    refine (Any.slices_Sort_int_none lays189 none 0 w).mono ?_
    rintro e w' ⟨rfl, rfl⟩
    exact ⟨rfl, by simpa using Kd.R_mono ho0 (fun k hk => .inl hk), hB, Kept.refl _ _⟩
  · subst hv
    rw [Nat.mul_one] at h4
    have hH : Go.Sort.Holds (Value.int .i64) w g 0 l0.toArray := holds_of_blockI hb h4
    have hgw : g < w.heap.size := (Array.getElem?_eq_some_iff.1 hb).1
    refine (Any.slices_Sort_int lays189 g 0 cap l0 w hH hgw hbig).mono ?_
    rintro e w' ⟨rfl, n, os, rfl⟩
    have hP : P0_ g := hok g rfl
    refine ⟨rfl, ?_, ?_, ?_⟩
    · refine Kd.R_of_own (enc := Value.int .i64) ?_ (fun k hk => .inl (hok k hk))
      rw [hlen]
      exact ownsRow_sortedI hlen hg hb h1 h2 h3
    · exact Below.grown hB (grownBy_sortedI _) hB.size (fun k hk => by cases hk; exact hg)
    · exact Kept.of_grown (grownBy_sortedI _) (Kept.refl _ _) (fun k hk => .inl (by cases hk; exact hP))
end Go.Proofs.Ytbcngajkokjfjaa.QRea
namespace Go.Proofs.Ytbcngajkokjfjaa.QRea
open Go.RowKit Go.Proofs.YtbcngajkokjfjaaW.PrintWords Go.Proofs.YtbcngajkokjfjaaW.PrintLast Go.Proofs.YtbcngajkokjfjaaW.PrintMore
attribute [local go_sem] max2_int min2_int max_two min_two max_three min_three max_four min_four
set_option linter.unusedVariables false
set_option linter.unusedSimpArgs false
mutual
def table_Reach.j0 : Nat → List (List (S30)) → Int → Bool → Option (List Int)
  | 0, _, _, _ => none
  | k + 1, x0, x1, x18 => if x18 = true then (some ([] : List Int)) else (if 0 ≤ (x0.length : Int) then (if ((x0.length : Int) : Int).toNat ≤ 281474976710656 then ((some (List.replicate ((x0.length : Int) : Int).toNat false : List Bool)).bind fun y159 => (if 0 ≤ x1 then (if x1 < (y159.length : Int) then (table_Reach.l0 k x0 (y159.set (x1 : Int).toNat true) ([] : List Int) (([x1] : List Int))) else (none)) else (none))) else (none)) else (none))
def table_Reach.l0 : Nat → List (List (S30)) → List Bool → List Int → List Int → Option (List Int)
  | 0, _, _, _, _ => none
  | k + 1, x0, x5, x6, x7 => if (x7.length : Int) > 0 then (if 0 < (x7.length : Int) then (if 1 ≤ (x7.length : Int) then (if x6.length < 17592186044416 then (if 0 ≤ (rd x7 0) then (if (rd x7 0) < (x0.length : Int) then (table_Reach.l1 k x0 x5 (x6 ++ [rd x7 0]) (x7.drop (1 : Int).toNat) (rd_L2 x0 (rd x7 0)) ((rd_L2 x0 (rd x7 0)).length : Int) 0) else (none)) else (none)) else (none)) else (none)) else (none)) else ((slices_Sort_int_int.f x6).bind fun t166 => (some t166))
def table_Reach.l1 : Nat → List (List (S30)) → List Bool → List Int → List Int → List (S30) → Int → Int → Option (List Int)
  | 0, _, _, _, _, _, _, _ => none
  | k + 1, x0, x5, x6, x7, x42, x43, x44 => if x44 < x43 then (if 0 ≤ x44 then (if x44 < (x42.length : Int) then (if ((rd_T30 x42 x44).f0) ≥ 0 then (if ((rd_T30 x42 x44).f0) < (x0.length : Int) then (if 0 ≤ ((rd_T30 x42 x44).f0) then (if ((rd_T30 x42 x44).f0) < (x5.length : Int) then (if (rdOf false x5 ((rd_T30 x42 x44).f0) = true) then (table_Reach.l1 k x0 x5 x6 x7 x42 x43 (wrap64 (x44 + 1))) else (if x7.length < 17592186044416 then (table_Reach.l1 k x0 (x5.set (((rd_T30 x42 x44).f0) : Int).toNat true) x6 (x7 ++ [(rd_T30 x42 x44).f0]) x42 x43 (wrap64 (x44 + 1))) else (none))) else (none)) else (none)) else (table_Reach.l1 k x0 x5 x6 x7 x42 x43 (wrap64 (x44 + 1)))) else (table_Reach.l1 k x0 x5 x6 x7 x42 x43 (wrap64 (x44 + 1)))) else (none)) else (none)) else (table_Reach.l0 k x0 x5 x6 x7)
end
def table_Reach.f (k : Nat) (l0 : List (List (S30))) (a1 : Int) : Option (List Int) := if a1 < 0 then (table_Reach.j0 k l0 a1 true) else (table_Reach.j0 k l0 a1 (decide (a1 ≥ (l0.length : Int))))
set_option maxHeartbeats 8000000 in
set_option maxRecDepth 100000 in
theorem table_Reach.calls (k : Nat) (A0 : Option Addr) (c0 : Nat) (l0 : List (List (S30))) (a1 : Int) (r : List Int) (w : World) (hr0 : Kd.C (Kd.slice 30 k30) w A0 l0.length l0) (hc0 : l0.length ≤ c0) (h : table_Reach.f k l0 a1 = some r) :
    Calls Try.prog 32 #[.slice A0 l0.length c0, .int .i64 a1] w fun e w' => ∃ v0_ : Value, e = .returned (v0_) ∧ Kd.R (Kd.int .i64) 3 w' w.heap.size (fun _ => True) v0_ r ∧ Below w.heap.size w w' := by
  have hu30 := Try.underlying30
  have HR0 := Aside0.mk hr0
  have HC0 := Aside0.mk hc0
  clear hr0 hc0
  have HB := Aside0.mk (Below.refl w.heap.size w)
  have H : (if a1 < 0 then (table_Reach.j0 k l0 a1 true) else (table_Reach.j0 k l0 a1 (decide (a1 ≥ (l0.length : Int))))) = some r := h
  clear h
  have HC3 := Aside0.mk H
  clear H
  go_enter Try.func32, Try.ntmps32
  go_upto_region 1 with (fail)
  go_cut [18] (fun v18 wc => ∃ (kq : Nat) (x18_2 : Bool), v18 = .bool x18_2 ∧ Aside0 (table_Reach.j0 kq l0 a1 x18_2 = some r) ∧ Aside0 (kq ≤ k) ∧ Aside0 (Below w.heap.size w wc))
  case first =>
    have H := HC3.out
    clear HC3
    by_cases c4 : a1 < 0
    · rw [if_pos c4] at H
      have c4b0 : decide (a1 < 0) = true := decide_eq_true c4
      clear c4
      (first | rw [c4b0] | (simp only [i64_w, i32_w]; rw [c4b0]) | skip)
      have H' := Aside0.mk H
      clear H
      go_wp2
      go_meet
      case rel => exact ⟨_, (true), (by first | rfl | (simp; done) | (simp [*]; done)), H', ⟨by first | omega | exact Nat.le_refl _⟩, ⟨by repeat (first | (with_reducible first | exact HB.out | apply below_alloc | apply pw_below_drewN | apply below_drew1) | exact HB.out)⟩⟩
    · rw [if_neg c4] at H
      have c4b0 : decide (a1 < 0) = false := decide_eq_false c4
      clear c4
      (first | rw [c4b0] | (simp only [i64_w, i32_w]; rw [c4b0]) | skip)
      have H' := Aside0.mk H
      clear H
      go_wp2
      go_meet
      case rel => exact ⟨_, (decide (a1 ≥ (l0.length : Int))), (by first | rfl | (simp; done) | (simp [*]; done)), H', ⟨by first | omega | exact Nat.le_refl _⟩, ⟨by repeat (first | (with_reducible first | exact HB.out | apply below_alloc | apply pw_below_drewN | apply below_drew1) | exact HB.out)⟩⟩
  case rest =>
    clear HC3
    try clear p2
    try clear c3
    try clear c4
    try clear c4b0
    obtain ⟨kq, x18_2, rfl, HA, HJ2, HB⟩ := hcut
    cases kq with
    | zero => exact absurd HA.out (by simp [table_Reach.j0])
    | succ kj2 =>
      have H := HA.out
      clear HA
      simp only [table_Reach.j0] at H
      by_cases c5 : x18_2 = true
      · subst c5
        have H1 : (some ([] : List Int)) = some r := by rw [if_pos rfl] at H; exact H
        clear H
        have H := H1
        clear H1
        obtain rfl := Option.some.inj H
        go_wp2
        go_ret
        exact ⟨_, by first | rfl | (simp [errW_none, errW_some] <;> rfl) | (simp [*, errW_none, errW_some] <;> rfl), by first | exact Kd.R_nil _ _ _ _ _ | exact Kd.N_nil _ _ _ _ _ | exact Kd.V_nil _ _ _ _ _ | exact Kd.Q_nil _ _ _ _ _ | exact Kd.S_nil _ _ _ _ _, by repeat (first | (with_reducible first | exact HB.out | apply below_alloc | apply pw_below_drewN | apply below_drew1) | exact HB.out)⟩
      · replace c5 := Bool.eq_false_iff.mpr c5
        subst c5
        have H1 : (if 0 ≤ (l0.length : Int) then (if ((l0.length : Int) : Int).toNat ≤ 281474976710656 then ((some (List.replicate ((l0.length : Int) : Int).toNat false : List Bool)).bind fun y159 => (if 0 ≤ a1 then (if a1 < (y159.length : Int) then (table_Reach.l0 kj2 l0 (y159.set (a1 : Int).toNat true) ([] : List Int) (([a1] : List Int))) else (none)) else (none))) else (none)) else (none)) = some r := by rw [if_neg (show ¬ (false = true) by decide)] at H; exact H
        clear H
        have H := H1
        clear H1
        by_cases c6 : 0 ≤ (l0.length : Int)
        · rw [if_pos c6] at H
          have c6b0 := eq_true c6
          have c6b1 : decide (0 ≤ (l0.length : Int)) = true := decide_eq_true c6
          clear c6
          by_cases c7 : ((l0.length : Int) : Int).toNat ≤ 281474976710656
          · rw [if_pos c7] at H
            have c7b0 := eq_true c7
            have c7b1 : decide (((l0.length : Int) : Int).toNat ≤ 281474976710656) = true := decide_eq_true c7
            clear c7
            obtain ⟨y159, hy159⟩ : ∃ y_ : List Bool, y_ = (List.replicate ((l0.length : Int) : Int).toNat false) := ⟨_, rfl⟩
            replace H : (if 0 ≤ a1 then (if a1 < (y159.length : Int) then (table_Reach.l0 kj2 l0 (y159.set (a1 : Int).toNat true) ([] : List Int) (([a1] : List Int))) else (none)) else (none)) = some r := by first | (rw [hy159]; with_reducible exact H) | (have H2_ := (Option.bind_some _ _).symm.trans H; rw [hy159]; with_reducible exact H2_) | (have H2_ := (Option.bind_some _ _).symm.trans H; with_reducible exact H2_) | with_reducible exact H | (rw [hy159]; exact H) | exact H
            have Ny159 := Aside0.mk hy159
            clear hy159
            by_cases c8 : 0 ≤ a1
            · rw [if_pos c8] at H
              have c8b0 : decide (0 ≤ a1) = true := decide_eq_true c8
              clear c8
              by_cases c9 : a1 < (y159.length : Int)
              · rw [if_pos c9] at H
                have c9b0 : decide (a1 < (y159.length : Int)) = true := decide_eq_true c9
                clear c9
                obtain ⟨y162, hy162⟩ : ∃ y_ : List Bool, y_ = (y159.set (a1 : Int).toNat true) := ⟨_, rfl⟩
                replace H : (table_Reach.l0 kj2 l0 y162 ([] : List Int) (([a1] : List Int))) = some r := by first | (rw [hy162]; with_reducible exact H) | (have H2_ := (Option.bind_some _ _).symm.trans H; rw [hy162]; with_reducible exact H2_) | (have H2_ := (Option.bind_some _ _).symm.trans H; with_reducible exact H2_) | with_reducible exact H | (rw [hy162]; exact H) | exact H
                have Ny162 := Aside0.mk hy162
                clear hy162
                obtain ⟨y163, hy163⟩ : ∃ y_ : List Int, y_ = (([a1] : List Int)) := ⟨_, rfl⟩
                replace H : (table_Reach.l0 kj2 l0 y162 ([] : List Int) y163) = some r := by first | (rw [hy163]; with_reducible exact H) | (have H2_ := (Option.bind_some _ _).symm.trans H; rw [hy163]; with_reducible exact H2_) | (have H2_ := (Option.bind_some _ _).symm.trans H; with_reducible exact H2_) | with_reducible exact H | (rw [hy163]; exact H) | exact H
                have Ny163 := Aside0.mk hy163
                clear hy163
                have H' := Aside0.mk H
                clear H
                go_wp2_with (first | ((with_reducible refine gate_dst (N := 21) rfl ?_); (try (refine gate_guard (by rfl) ?_; dsimp only)); refine Kd.R_make Kd.bool _ 4 rfl (N := 21) rfl 59 _ _ rfl (l0.length : Int) rfl rfl Try.underlying59 (.bool false) 1 info4 rfl (by decide) (by omega) false (ok := fun _ => True) (okp := fun _ => True) rfl (fun _ hk => hk) trivial (of_decide_eq_true (by first | (with_reducible assumption) | assumption)) (Nat.le_trans (Nat.mul_le_mul_right _ (of_decide_eq_true (by first | (with_reducible assumption) | assumption) : (l0.length : Int).toNat ≤ 281474976710656)) (by omega)) (Below.refl _ _) (Nat.le_refl _) ?_; intro v160 w11 ho12 hb hg_ hnew_; clear hg_ hnew_; (first | rw [← Ny159.out] at ho12 | (simp only [Int.reduceToNat] at ho12; rw [← Ny159.out] at ho12)); have n0_ := Aside0.mk (Kd.R_lower ho12 (below_size (by repeat (first | (with_reducible first | exact HB.out | apply below_alloc | apply pw_below_drewN | apply below_drew1) | exact HB.out)))); have n1_ := Aside0.mk (below_step (by repeat (first | (with_reducible first | exact HB.out | apply below_alloc | apply pw_below_drewN | apply below_drew1) | exact HB.out)) hb); clear HB; have HO161 := n0_; have HB := n1_; clear n0_ n1_; clear hb ho12; have p10 : 0 ≤ (a1 : Int) := of_decide_eq_true (by first | (with_reducible assumption) | assumption); have q10 : (a1 : Int) < ((y159.length : Int) : Int) := of_decide_eq_true (by first | (with_reducible assumption) | assumption); obtain ⟨go10, co10, eo10, gb10, gl10, cl10, HG10⟩ := Kd.R_form HO161.out (by omega); (first | cases eo10 | (injection eo10 with ea_ en_ ec_; (first | subst ea_ | (injection ea_ with ea_; subst ea_)); subst ec_; clear en_)); have GB10 := Aside0.mk gb10; have GG10 := Aside0.mk HG10; clear gb10 gl10 HG10; obtain ⟨hx10_0, hf10_0⟩ := Kd.R_celln false HO161.out (a1 : Int) p10 q10; replace p10 := eq_true p10; replace q10 := eq_true q10; obtain ⟨hy13_, hz13_⟩ := Kd.R_celln false HO161.out (a1 : Int) (of_decide_eq_true (by first | (with_reducible assumption) | assumption)) (of_decide_eq_true (by first | (with_reducible assumption) | assumption)); have HP13 := Kd.R_putg HO161.out (a1 : Int) true) | ((with_reducible refine gate_store (t := 4) (p := 24) rfl ?_); refine store_event (t := 4) (p := 24) (v := ?vo_w14) (w1 := (w11.setCell ⟨go10, (a1 : Int).toNat, none⟩ (.bool true))) ?hg ?ho ?hn ?hr ?_; (case ho => rfl); (case hg => rfl); (case hn => rfl); (case hr => first | (go_simp; done) | (go_simp; rfl)); intro w14 hw; have hg : w11.grownBy w14 (some go10) := (by rw [hw]; exact HP13.2); have hp_ : Kd.R Kd.bool 4 w14 w.heap.size (fun _ => True) (.slice (some ⟨go10, 0, none⟩) y159.length co10) y162 := (by rw [hw, Ny162.out]; exact HP13.1); clear HP13; have n0_ := Aside0.mk (hp_); have n1_ := Aside0.mk ((by rw [hw]; exact below_set (HB.out) GB10.out : Below w.heap.size w w14)); clear HO161; clear HB; have HO161 := n0_; have HB := n1_; clear n0_ n1_; clear hg hw hp_) | ((with_reducible refine gate_dst (N := 26) rfl ?_); (try (refine gate_guard (by rfl) ?_; dsimp only)); refine Kd.R_lit (Kd.int .i64) _ 3 ?hg (N := 26) ?hd (xs := ([a1] : List Int)) (inner := [.int .i64 a1]) (ok := fun _ => True) (okp := fun _ => True) ?hr ?hp (fun _ hk => hk) trivial (Below.refl _ _) (Nat.le_refl _) (by simp) ?_; (case hd => rfl); (case hg => rfl); (case hr => first | (go_simp; done) | (go_simp; rfl)); (case hp => exact (Reps.one (show Kd.M (Kd.int .i64) _ _ _ a1 [.int .i64 a1] from rfl) (Reps.none _ _))); intro v164 w15 ho16 hb hg_ hnew_; clear hg_ hnew_; (first | rw [← Ny163.out] at ho16 | (simp only [Int.reduceToNat] at ho16; rw [← Ny163.out] at ho16)); have n0_ := Aside0.mk (Kd.R_below (by (with_reducible repeat (first | apply Kd.R_alloc | apply Kd.R_drewN | apply Kd.R_drew)); exact HO161.out) hb); have n1_ := Aside0.mk (Kd.R_lower ho16 (below_size (by repeat (first | (with_reducible first | exact HB.out | apply below_alloc | apply pw_below_drewN | apply below_drew1) | exact HB.out)))); have n2_ := Aside0.mk (below_step (by repeat (first | (with_reducible first | exact HB.out | apply below_alloc | apply pw_below_drewN | apply below_drew1) | exact HB.out)) hb); clear HO161; clear HB; have HO161 := n0_; have HO165 := n1_; have HB := n2_; clear n0_ n1_ n2_; clear hb ho16))
                go_loopg [6, 7] kj2 (fun kq v6 v7 w' => ∃ (x5_2 : List Bool) (x6_2 : List Int) (x7_2 : List Int), Aside0 (table_Reach.l0 kq l0 x5_2 x6_2 x7_2 = some r) ∧ Aside0 (kq ≤ kj2) ∧ Aside0 (Kd.R Kd.bool 4 w' w.heap.size (fun _ => True) (.slice (some ⟨go10, 0, none⟩) y159.length co10) x5_2) ∧ Aside0 (Kd.R (Kd.int .i64) 3 w' w.heap.size (fun k_ => some k_ ≠ (v7 : Value).ownBlock) v6 x6_2) ∧ Aside0 (Kd.Q (Kd.int .i64) 3 w' w.heap.size (fun k_ => some k_ ≠ (v6 : Value).ownBlock) v7 x7_2) ∧ Aside0 (Below w.heap.size w w'))
                case atStart => exact ⟨(y162), (([] : List Int)), (y163), H', ⟨Nat.le_refl _⟩, ⟨by (with_reducible repeat (first | apply Kd.R_alloc | apply Kd.R_drewN | apply Kd.R_drew)); exact HO161.out⟩, ⟨by first | exact Kd.R_nil _ _ _ _ _ | exact Kd.N_nil _ _ _ _ _ | exact Kd.V_nil _ _ _ _ _ | exact Kd.Q_nil _ _ _ _ _ | exact Kd.S_nil _ _ _ _ _⟩, ⟨Kd.Q_of_R (by (with_reducible repeat (first | apply Kd.R_alloc | apply Kd.R_drewN | apply Kd.R_drew)); exact Kd.R_mono HO165.out (fun _ hk => (by simp [Value.ownBlock])))⟩, ⟨by repeat (first | (with_reducible first | exact HB.out | apply below_alloc | apply pw_below_drewN | apply below_drew1) | exact HB.out)⟩⟩
                case round =>
                  clear H'
                  try clear p1
                  try clear q1
                  try clear hx1
                  try clear p2
                  try clear c3
                  try clear c4
                  try clear c4b0
                  try clear c5
                  try clear c6
                  try clear c6b0
                  try clear c6b1
                  try clear c7
                  try clear c7b0
                  try clear c7b1
                  try clear c8
                  try clear c8b0
                  try clear c9
                  try clear c9b0
                  try clear p10
                  try clear q10
                  try clear hx10
                  try clear hf10
                  try clear hx10_0
                  try clear p10
                  try clear p2
                  try clear q10
                  obtain ⟨x5_2, x6_2, x7_2, HA, HK2, HO_5, HO_6, HO_7, HB⟩ := hrel
                  have hl5_2 := (Kd.R_reads' HO_5.out).1
                  rw [hl5_2] at HO_5
                  (try simp only [hl5_2])
                  (try simp only [hl5_2] at HO_6)
                  (try simp only [hl5_2] at HO_7)
                  cases gk with
                  | zero => exact absurd HA.out (by simp [table_Reach.l0])
                  | succ k2 =>
                    have H := HA.out
                    clear HA
                    simp only [table_Reach.l0] at H
                    by_cases c17 : (x7_2.length : Int) > 0
                    · rw [if_pos c17] at H
                      have c17b0 : decide (0 < (x7_2.length : Int)) = true := decide_eq_true c17
                      have c17b1 : decide (0 < x7_2.length) = true := decide_eq_true (by omega)
                      clear c17
                      by_cases c18 : 0 < (x7_2.length : Int)
                      · rw [if_pos c18] at H
                        have c18b0 : decide (0 < (x7_2.length : Int)) = true := decide_eq_true c18
                        have c18b1 : decide (0 < x7_2.length) = true := decide_eq_true (by omega)
                        clear c18
                        by_cases c19 : 1 ≤ (x7_2.length : Int)
                        · rw [if_pos c19] at H
                          have c19b0 := eq_true c19
                          have c19b1 : decide (1 ≤ (x7_2.length : Int)) = true := decide_eq_true c19
                          clear c19
                          obtain ⟨y168, hy168⟩ : ∃ y_ : List Int, y_ = (x7_2.drop (1 : Int).toNat) := ⟨_, rfl⟩
                          replace H : (if x6_2.length < 17592186044416 then (if 0 ≤ (rd x7_2 0) then (if (rd x7_2 0) < (l0.length : Int) then (table_Reach.l1 k2 l0 x5_2 (x6_2 ++ [rd x7_2 0]) y168 (rd_L2 l0 (rd x7_2 0)) ((rd_L2 l0 (rd x7_2 0)).length : Int) 0) else (none)) else (none)) else (none)) = some r := by first | (rw [hy168]; with_reducible exact H) | (have H2_ := (Option.bind_some _ _).symm.trans H; rw [hy168]; with_reducible exact H2_) | (have H2_ := (Option.bind_some _ _).symm.trans H; with_reducible exact H2_) | with_reducible exact H | (rw [hy168]; exact H) | exact H
                          have Ny168 := Aside0.mk hy168
                          clear hy168
                          by_cases c20 : x6_2.length < 17592186044416
                          · rw [if_pos c20] at H
                            have LMc20 := Aside0.mk c20
                            clear c20
                            obtain ⟨y171, hy171⟩ : ∃ y_ : List Int, y_ = (x6_2 ++ [rd x7_2 0]) := ⟨_, rfl⟩
                            replace H : (if 0 ≤ (rd x7_2 0) then (if (rd x7_2 0) < (l0.length : Int) then (table_Reach.l1 k2 l0 x5_2 y171 y168 (rd_L2 l0 (rd x7_2 0)) ((rd_L2 l0 (rd x7_2 0)).length : Int) 0) else (none)) else (none)) = some r := by first | (rw [hy171]; with_reducible exact H) | (have H2_ := (Option.bind_some _ _).symm.trans H; rw [hy171]; with_reducible exact H2_) | (have H2_ := (Option.bind_some _ _).symm.trans H; with_reducible exact H2_) | with_reducible exact H | (rw [hy171]; exact H) | exact H
                            have Ny171 := Aside0.mk hy171
                            clear hy171
                            by_cases c21 : 0 ≤ (rd x7_2 0)
                            · rw [if_pos c21] at H
                              have c21b0 : decide (0 ≤ (rd x7_2 0)) = true := decide_eq_true c21
                              clear c21
                              by_cases c22 : (rd x7_2 0) < (l0.length : Int)
                              · rw [if_pos c22] at H
                                have c22b0 : decide ((rd x7_2 0) < (l0.length : Int)) = true := decide_eq_true c22
                                clear c22
                                have H' := Aside0.mk H
                                clear H
                                obtain ⟨Ao23, co23, eo23, _⟩ := Kd.Q_slice HO_7.out
                                subst eo23
                                have p167 : 0 ≤ (0 : Int) := (by omega)
                                have q167 : 0 < (x7_2.length : Int) := of_decide_eq_true (by first | (with_reducible assumption) | assumption)
                                obtain ⟨ad167, e167, hx167_0⟩ := Kd.at_int (Kd.Q_reads' HO_7.out).2.2 0 p167 q167
                                cases e167
                                have qi167 : (0 < x7_2.length) = True := eq_true (by omega)
                                (try rw [show ((0 : Int)).toNat = 0 from rfl] at hx167_0)
                                (try rw [Addr.add_zero'] at hx167_0)
                                replace p167 := eq_true p167
                                replace q167 := eq_true q167
                                have q24 : (1 : Int) ≤ ((x7_2.length : Int) : Int) := of_decide_eq_true (by first | (with_reducible assumption) | assumption)
                                obtain ⟨i024, hi024, _, hsz24, _⟩ := info_parts info3
                                have hcut24 := cut_from (P := Try.prog) 24 3 .i64 Try.underlying24 hi024 1 hsz24 (some ad167) x7_2.length co23 1 (by omega) q24
                                have hr24 := Kd.Q_drop (k := (1 : Int).toNat) HO_7.out (by omega)
                                obtain ⟨A24, hA24⟩ : ∃ A1, A1 = (if co23 = (1 : Int).toNat then (some ad167) else ((some ad167) : Option Addr).map (·.add ((1 : Int).toNat * 1))) := ⟨_, rfl⟩
                                obtain ⟨c24, hc24⟩ : ∃ c1, c1 = co23 - (1 : Int).toNat := ⟨_, rfl⟩
                                have hy24 : y168.length = x7_2.length - (1 : Int).toNat := (by rw [Ny168.out, List.length_drop])
                                rw [← Ny168.out] at hr24
                                rw [← hy24, ← hA24, ← hc24] at hcut24
                                replace hr24 : Kd.Q (Kd.int .i64) 3 wr w.heap.size (fun k_ => some k_ ≠ (u6 : Value).ownBlock) (.slice A24 y168.length c24) y168 := (by rw [hA24, hc24, hy24]; exact hr24)
                                have HE24 : Aside0 ((Value.slice A24 y168.length c24).ownBlock = (.slice (some ad167) x7_2.length co23 : Value).ownBlock) := ⟨by rw [hA24]; split <;> (cases ((some ad167) : Option Addr) <;> rfl)⟩
                                clear hy24 hi024 hsz24 HO_7 hA24 hc24
                                have HO170 := Aside0.mk hr24
                                clear hr24
                                replace q24 := eq_true q24
                                have n_ := Aside0.mk (Kd.R_mono (ok' := fun k_ => some k_ ≠ (.slice A24 y168.length c24 : Value).ownBlock) HO_6.out (fun k_ hk => (by rw [HE24.out]; exact hk)))
                                clear HO_6
                                have HO_6 := n_
                                clear n_
                                go_wp2_with (first | ((with_reducible refine gate_builtin (b := .append) (xs := #[.tmp 35, .tmp 37]) rfl ?_); (try (refine gate_guard (by rfl) ?_; dsimp only)); at_builtin; refine Kd.R_append (Kd.int .i64) (w0 := w) w.heap.size rfl (.tmp 35) (.tmp 37) 24 3 (.int .i64 0) 8 rfl Try.underlying24 info3 rfl (by decide) (by omega) u6 x6_2 (rd x7_2 0) [.int .i64 (rd x7_2 0)] (fun k_ => some k_ ≠ (.slice A24 y168.length c24 : Value).ownBlock) (fun _ => False) rfl rfl ?aP (fun _ hk => hk.elim) ?aF ?aO ?aB ?aS ?aL ?_; (case aP => exact rfl); (case aB => exact (by repeat (first | (with_reducible first | exact HB.out | apply below_alloc | apply pw_below_drewN | apply below_drew1) | exact HB.out))); (case aF => exact (fun k_ hk => Kd.fresh' (Kd.Q_lt (by (with_reducible repeat (first | apply Kd.Q_alloc | apply Kd.Q_drewN | apply Kd.Q_drew)); exact HO170.out)) k_ hk)); (case aO => exact (by (with_reducible repeat (first | apply Kd.R_alloc | apply Kd.R_drewN | apply Kd.R_drew)); exact HO_6.out)); (case aS => exact (below_size (by repeat (first | (with_reducible first | exact HB.out | apply below_alloc | apply pw_below_drewN | apply below_drew1) | exact HB.out)))); (case aL => have := LMc20.out; omega); intro v172 w25 ho hb hg hat; rw [← Ny171.out] at ho; have n0_ := Aside0.mk (Kd.R_over' (by (with_reducible repeat (first | apply Kd.R_alloc | apply Kd.R_drewN | apply Kd.R_drew)); exact HO_5.out) (Kd.R_typed (by (with_reducible repeat (first | apply Kd.R_alloc | apply Kd.R_drewN | apply Kd.R_drew)); exact HO_6.out)) (by decide) hg); have n1_ := Aside0.mk (Kd.Q_after (ok := (fun _ => True)) (by (with_reducible repeat (first | apply Kd.Q_alloc | apply Kd.Q_drewN | apply Kd.Q_drew)); exact Kd.Q_mono HO170.out (fun _ hk => ⟨trivial, hk⟩)) hg hat); have n2_ := Aside0.mk (hb); have n3_ := Aside0.mk (ho); clear HO_5; clear HO170; clear HB; clear HO_6; have HO_5 := n0_; have HO170 := n1_; have HB := n2_; have HO173 := n3_; clear n0_ n1_ n2_ n3_; clear ho hb hg hat; have p174 : 0 ≤ ((rd x7_2 0) : Int) := of_decide_eq_true (by first | (with_reducible assumption) | assumption); have q174 : (rd x7_2 0) < (l0.length : Int) := of_decide_eq_true (by first | (with_reducible assumption) | assumption); obtain ⟨ad174, A174_0, c174_0, e174, hx174_0, hl174_0, hi174_0⟩ := at_L2 HR0.out (rd x7_2 0) p174 q174; cases e174; replace hx174_0 := (HB.out.cell (World.block_lt_of_cell? w _ hx174_0)).trans hx174_0; have HR174_0 := Aside0.mk hi174_0; have HC174_0 := Aside0.mk hl174_0; clear hi174_0 hl174_0; replace p174 := eq_true p174; replace q174 := eq_true q174))
                                go_loopg [7, 44] k2 (fun kq v7 v44 w' => ∃ (x5_3 : List Bool) (x7_3 : List Int) (x44_3 : Int), v44 = .int .i64 x44_3 ∧ Aside0 (table_Reach.l1 kq l0 x5_3 y171 x7_3 (rd_L2 l0 (rd x7_2 0)) ((rd_L2 l0 (rd x7_2 0)).length : Int) x44_3 = some r) ∧ Aside0 (kq ≤ k2) ∧ Aside0 (Kd.R Kd.bool 4 w' w.heap.size (fun _ => True) (.slice (some ⟨go10, 0, none⟩) x5_2.length co10) x5_3) ∧ Aside0 (Kd.R (Kd.int .i64) 3 w' w.heap.size (fun k_ => some k_ ≠ (v7 : Value).ownBlock) v172 y171) ∧ Aside0 (Kd.Q (Kd.int .i64) 3 w' w.heap.size (fun k_ => some k_ ≠ (v172 : Value).ownBlock) v7 x7_3) ∧ Aside0 (Below w.heap.size w w'))
                                case atStart => exact ⟨(x5_2), (y168), (0), (by first | rfl | (simp; done) | (simp [*]; done)), H', ⟨Nat.le_refl _⟩, ⟨by (try simp only [hl5_2]); (with_reducible repeat (first | apply Kd.R_alloc | apply Kd.R_drewN | apply Kd.R_drew)); exact HO_5.out⟩, ⟨by (try simp only [hl5_2]); (with_reducible repeat (first | apply Kd.R_alloc | apply Kd.R_drewN | apply Kd.R_drew)); exact HO173.out⟩, ⟨by (try simp only [hl5_2]); (with_reducible repeat (first | apply Kd.Q_alloc | apply Kd.Q_drewN | apply Kd.Q_drew)); exact Kd.Q_mono HO170.out (fun _ hk => hk.2)⟩, ⟨by repeat (first | (with_reducible first | exact HB.out | apply below_alloc | apply pw_below_drewN | apply below_drew1) | exact HB.out)⟩⟩
                                case round =>
                                  clear H'
                                  try clear c1
                                  try clear p1
                                  try clear q1
                                  try clear hx1
                                  try clear qi1
                                  try clear c2
                                  try clear p2
                                  try clear q2
                                  try clear c3
                                  try clear c4
                                  try clear c4b0
                                  try clear c5
                                  try clear c6
                                  try clear c6b0
                                  try clear c6b1
                                  try clear c7
                                  try clear c7b0
                                  try clear c7b1
                                  try clear c8
                                  try clear c8b0
                                  try clear c9
                                  try clear c9b0
                                  try clear p10
                                  try clear q10
                                  try clear hx10
                                  try clear hf10
                                  try clear p16
                                  try clear q16
                                  try clear hx16
                                  try clear qi16
                                  try clear c17
                                  try clear c17b0
                                  try clear c17b1
                                  try clear p17
                                  try clear q17
                                  try clear hx17
                                  try clear c18
                                  try clear c18b0
                                  try clear c18b1
                                  try clear c19
                                  try clear c19b0
                                  try clear c19b1
                                  try clear c20
                                  try clear c21
                                  try clear c21b0
                                  try clear c22
                                  try clear c22b0
                                  try clear c24
                                  try clear q24
                                  try clear hx10_0
                                  try clear hx167_0
                                  try clear hx174_0
                                  try clear p1
                                  try clear p10
                                  try clear p167
                                  try clear p174
                                  try clear p2
                                  try clear q1
                                  try clear q10
                                  try clear q167
                                  try clear q174
                                  try clear q24
                                  obtain ⟨x5_3, x7_3, x44_3, rfl, HA, HK3, HO_5, HO_6, HO_7, HB⟩ := hrel
                                  have hl5_3 := (Kd.R_reads' HO_5.out).1
                                  rw [hl5_3] at HO_5
                                  (try simp only [hl5_3])
                                  (try simp only [hl5_3] at HO_6)
                                  (try simp only [hl5_3] at HO_7)
                                  cases gk with
                                  | zero => exact absurd HA.out (by simp [table_Reach.l1])
                                  | succ k3 =>
                                    have H := HA.out
                                    clear HA
                                    simp only [table_Reach.l1] at H
                                    by_cases c26 : x44_3 < ((rd_L2 l0 (rd x7_2 0)).length : Int)
                                    · rw [if_pos c26] at H
                                      have c26b0 : decide (x44_3 < ((rd_L2 l0 (rd x7_2 0)).length : Int)) = true := decide_eq_true c26
                                      clear c26
                                      by_cases c27 : 0 ≤ x44_3
                                      · rw [if_pos c27] at H
                                        have c27b0 : decide (0 ≤ x44_3) = true := decide_eq_true c27
                                        clear c27
                                        by_cases c28 : x44_3 < ((rd_L2 l0 (rd x7_2 0)).length : Int)
                                        · rw [if_pos c28] at H
                                          have c28b0 : decide (x44_3 < ((rd_L2 l0 (rd x7_2 0)).length : Int)) = true := decide_eq_true c28
                                          clear c28
                                          by_cases c29 : ((rd_T30 (rd_L2 l0 (rd x7_2 0)) x44_3).f0) ≥ 0
                                          · rw [if_pos c29] at H
                                            have c29b0 : decide (0 ≤ ((rd_T30 (rd_L2 l0 (rd x7_2 0)) x44_3).f0)) = true := decide_eq_true c29
                                            clear c29
                                            by_cases c30 : ((rd_T30 (rd_L2 l0 (rd x7_2 0)) x44_3).f0) < (l0.length : Int)
                                            · rw [if_pos c30] at H
                                              have c30b0 : decide (((rd_T30 (rd_L2 l0 (rd x7_2 0)) x44_3).f0) < (l0.length : Int)) = true := decide_eq_true c30
                                              clear c30
                                              by_cases c31 : 0 ≤ ((rd_T30 (rd_L2 l0 (rd x7_2 0)) x44_3).f0)
                                              · rw [if_pos c31] at H
                                                have c31b0 : decide (0 ≤ ((rd_T30 (rd_L2 l0 (rd x7_2 0)) x44_3).f0)) = true := decide_eq_true c31
                                                clear c31
                                                by_cases c32 : ((rd_T30 (rd_L2 l0 (rd x7_2 0)) x44_3).f0) < (x5_3.length : Int)
                                                · rw [if_pos c32] at H
                                                  have c32b0 : decide (((rd_T30 (rd_L2 l0 (rd x7_2 0)) x44_3).f0) < (x5_3.length : Int)) = true := decide_eq_true c32
                                                  clear c32
                                                  obtain ⟨bq33, hbq33⟩ : ∃ b_ : Bool, b_ = (rdOf false x5_3 ((rd_T30 (rd_L2 l0 (rd x7_2 0)) x44_3).f0)) := ⟨_, rfl⟩
                                                  replace H : (if (bq33 = true) then (table_Reach.l1 k3 l0 x5_3 y171 x7_3 (rd_L2 l0 (rd x7_2 0)) ((rd_L2 l0 (rd x7_2 0)).length : Int) (wrap64 (x44_3 + 1))) else (if x7_3.length < 17592186044416 then (table_Reach.l1 k3 l0 (x5_3.set (((rd_T30 (rd_L2 l0 (rd x7_2 0)) x44_3).f0) : Int).toNat true) y171 (x7_3 ++ [(rd_T30 (rd_L2 l0 (rd x7_2 0)) x44_3).f0]) (rd_L2 l0 (rd x7_2 0)) ((rd_L2 l0 (rd x7_2 0)).length : Int) (wrap64 (x44_3 + 1))) else (none))) = some r := by rw [← hbq33] at H; exact H
                                                  have Nbq33 := Aside0.mk hbq33
                                                  clear hbq33
                                                  by_cases c34 : (bq33 = true)
                                                  · subst c34
                                                    have H1 : (table_Reach.l1 k3 l0 x5_3 y171 x7_3 (rd_L2 l0 (rd x7_2 0)) ((rd_L2 l0 (rd x7_2 0)).length : Int) (wrap64 (x44_3 + 1))) = some r := by rw [if_pos rfl] at H; exact H
                                                    clear H
                                                    have H := H1
                                                    clear H1
                                                    have H' := Aside0.mk H
                                                    clear H
                                                    have p175 : 0 ≤ (x44_3 : Int) := of_decide_eq_true (by first | (with_reducible assumption) | assumption)
                                                    have q175 : x44_3 < ((rd_L2 l0 (rd x7_2 0)).length : Int) := of_decide_eq_true (by first | (with_reducible assumption) | assumption)
                                                    obtain ⟨ad175, e175, hx175_0, hx175_1⟩ := at_T30 HR174_0.out x44_3 p175 q175
                                                    cases e175
                                                    replace hx175_0 := (HB.out.cell (World.block_lt_of_cell? w _ hx175_0)).trans hx175_0
                                                    replace hx175_1 := (HB.out.cell (World.block_lt_of_cell? w _ hx175_1)).trans hx175_1
                                                    replace p175 := eq_true p175
                                                    replace q175 := eq_true q175
                                                    go_wp2_with (first | ((with_reducible refine gate_dst (N := 10) rfl ?_); (try (refine gate_guard (by rfl) ?_; dsimp only)); refine box_event ?hg (N := 10) ?hd (cs := #[.int .i64 0, .int .i64 0]) (t := 30) ?hr ?_; (case hd => rfl); (case hg => rfl); (case hr => first | (go_simp; done) | (go_simp; rfl)); intro gb176 hg w35 hbox hb; have n0_ := Aside0.mk (Kd.R_below (by (with_reducible repeat (first | apply Kd.R_alloc | apply Kd.R_drewN | apply Kd.R_drew)); exact HO_5.out) hb); have n1_ := Aside0.mk (Kd.R_below (by (with_reducible repeat (first | apply Kd.R_alloc | apply Kd.R_drewN | apply Kd.R_drew)); exact HO_6.out) hb); have n2_ := Aside0.mk (Kd.Q_below (by (with_reducible repeat (first | apply Kd.Q_alloc | apply Kd.Q_drewN | apply Kd.Q_drew)); exact HO_7.out) hb); have n3_ := Aside0.mk (below_step (by repeat (first | (with_reducible first | exact HB.out | apply below_alloc | apply pw_below_drewN | apply below_drew1) | exact HB.out)) hb); have n4_ := Aside0.mk (hbox); have n5_ := Aside0.mk ((by rw [hg]; exact (below_size (by repeat (first | (with_reducible first | exact HB.out | apply below_alloc | apply pw_below_drewN | apply below_drew1) | exact HB.out))) : w.heap.size ≤ gb176)); have n6_ := Aside0.mk ((by rw [hg]; exact (below_size (by repeat (first | (with_reducible first | exact HB.out | apply below_alloc | apply pw_below_drewN | apply below_drew1) | exact HB.out))) : w.heap.size ≤ gb176)); clear HO_5; clear HO_6; clear HO_7; clear HB; have HO_5 := n0_; have HO_6 := n1_; have HO_7 := n2_; have HB := n3_; have BK176 := n4_; have GW176 := n5_; have GE176 := n6_; clear n0_ n1_ n2_ n3_ n4_ n5_ n6_; clear hb hbox hg; have hcz36_0 : w35.cell? ⟨gb176, 0, none⟩ = some (.int .i64 0) := (blk_cell BK176.out 0).trans rfl; have hcz36_1 : w35.cell? ⟨gb176, 1, none⟩ = some (.int .i64 0) := (blk_cell BK176.out 1).trans rfl; have hfz36_0 := blk_frozen BK176.out 0; have hfz36_1 := blk_frozen BK176.out 1; have p177 : 0 ≤ (((rd_T30 (rd_L2 l0 (rd x7_2 0)) x44_3).f0) : Int) := of_decide_eq_true (by first | (with_reducible assumption) | assumption); have q177 : ((rd_T30 (rd_L2 l0 (rd x7_2 0)) x44_3).f0) < (x5_3.length : Int) := of_decide_eq_true (by first | (with_reducible assumption) | assumption); obtain ⟨ad177, e177, hx177_0⟩ := Kd.at_bool (Kd.R_reads' HO_5.out).2.2 ((rd_T30 (rd_L2 l0 (rd x7_2 0)) x44_3).f0) p177 q177; (try rw [← Nbq33.out] at hx177_0); obtain rfl : (⟨go10, 0, none⟩ : Addr) = ad177 := (by injection e177); (first | simp only [add_plain] at hx177_0 | simp only [add_at] at hx177_0 | simp only [Addr.add, Nat.zero_add] at hx177_0 | skip); have hn177_0 : (⟨go10, 0, none⟩ : Addr).block ≠ gb176 := Kd.own_blk (Kd.R_ne HO_5.out BK176.out (by decide)); have hn177_1 : (⟨go10, 0, none⟩ : Addr).block ≠ gb176 := Kd.own_blk (Kd.R_ne HO_5.out BK176.out (by decide)); replace hx177_0 := (cell_far (p := ⟨gb176, 0, none⟩) (by first | (rw [add_block]; exact hn177_0) | (show (Addr.add _ _).block ≠ _; rw [add_block]; exact hn177_0) | exact hn177_0) (.int .i64 ((rd_T30 (rd_L2 l0 (rd x7_2 0)) x44_3).f0))).trans hx177_0; replace hx177_0 := (cell_far (p := ⟨gb176, 1, none⟩) (by first | (rw [add_block]; exact hn177_1) | (show (Addr.add _ _).block ≠ _; rw [add_block]; exact hn177_1) | exact hn177_1) (.int .i64 ((rd_T30 (rd_L2 l0 (rd x7_2 0)) x44_3).f1))).trans hx177_0; clear hn177_0; clear hn177_1; replace p177 := eq_true p177; replace q177 := eq_true q177))
                                                    (try simp only [← hl5_3])
                                                    go_roundg k3
                                                    case measure => have := HJ2.out; have := HK2.out; have := HK3.out; omega
                                                    case rel => exact ⟨(x5_3), (x7_3), (wrap64 (x44_3 + 1)), (by first | rfl | (simp; done) | (simp [*]; done)), H', ⟨by have := HJ2.out; have := HK2.out; have := HK3.out; omega⟩, ⟨by (try simp only [hl5_2]); (try simp only [hl5_3]); (with_reducible repeat (first | apply Kd.R_alloc | apply Kd.R_drewN | apply Kd.R_drew)); exact Kd.R_mono (Kd.R_far (p := ⟨gb176, 1, none⟩) (Kd.R_far (p := ⟨gb176, 0, none⟩) (Kd.R_types HO_5.out BK176.out (by decide)) (fun _ hk => hk.2) (.int .i64 ((rd_T30 (rd_L2 l0 (rd x7_2 0)) x44_3).f0))) (fun _ hk => hk.2) (.int .i64 ((rd_T30 (rd_L2 l0 (rd x7_2 0)) x44_3).f1))) (fun _ hk => trivial)⟩, ⟨by (try simp only [hl5_2]); (try simp only [hl5_3]); (with_reducible repeat (first | apply Kd.R_alloc | apply Kd.R_drewN | apply Kd.R_drew)); exact Kd.R_mono (Kd.R_far (p := ⟨gb176, 1, none⟩) (Kd.R_far (p := ⟨gb176, 0, none⟩) (Kd.R_types HO_6.out BK176.out (by decide)) (fun _ hk => hk.2) (.int .i64 ((rd_T30 (rd_L2 l0 (rd x7_2 0)) x44_3).f0))) (fun _ hk => hk.2) (.int .i64 ((rd_T30 (rd_L2 l0 (rd x7_2 0)) x44_3).f1))) (fun _ hk => hk.1)⟩, ⟨by (try simp only [hl5_2]); (try simp only [hl5_3]); (with_reducible repeat (first | apply Kd.Q_alloc | apply Kd.Q_drewN | apply Kd.Q_drew)); exact Kd.Q_mono (Kd.Q_far (p := ⟨gb176, 1, none⟩) (Kd.Q_far (p := ⟨gb176, 0, none⟩) (Kd.Q_types HO_7.out BK176.out (by decide)) (fun _ hk => hk.2) (.int .i64 ((rd_T30 (rd_L2 l0 (rd x7_2 0)) x44_3).f0))) (fun _ hk => hk.2) (.int .i64 ((rd_T30 (rd_L2 l0 (rd x7_2 0)) x44_3).f1))) (fun _ hk => hk.1)⟩, ⟨by repeat (first | (with_reducible first | exact HB.out | apply below_alloc | apply pw_below_drewN | apply below_drew1 | refine below_set ?_ GE176.out) | exact HB.out)⟩⟩
                                                  · replace c34 := Bool.eq_false_iff.mpr c34
                                                    subst c34
                                                    have H1 : (if x7_3.length < 17592186044416 then (table_Reach.l1 k3 l0 (x5_3.set (((rd_T30 (rd_L2 l0 (rd x7_2 0)) x44_3).f0) : Int).toNat true) y171 (x7_3 ++ [(rd_T30 (rd_L2 l0 (rd x7_2 0)) x44_3).f0]) (rd_L2 l0 (rd x7_2 0)) ((rd_L2 l0 (rd x7_2 0)).length : Int) (wrap64 (x44_3 + 1))) else (none)) = some r := by rw [if_neg (show ¬ (false = true) by decide)] at H; exact H
                                                    clear H
                                                    have H := H1
                                                    clear H1
                                                    obtain ⟨y178, hy178⟩ : ∃ y_ : List Bool, y_ = (x5_3.set (((rd_T30 (rd_L2 l0 (rd x7_2 0)) x44_3).f0) : Int).toNat true) := ⟨_, rfl⟩
                                                    replace H : (if x7_3.length < 17592186044416 then (table_Reach.l1 k3 l0 y178 y171 (x7_3 ++ [(rd_T30 (rd_L2 l0 (rd x7_2 0)) x44_3).f0]) (rd_L2 l0 (rd x7_2 0)) ((rd_L2 l0 (rd x7_2 0)).length : Int) (wrap64 (x44_3 + 1))) else (none)) = some r := by first | (rw [hy178]; with_reducible exact H) | (have H2_ := (Option.bind_some _ _).symm.trans H; rw [hy178]; with_reducible exact H2_) | (have H2_ := (Option.bind_some _ _).symm.trans H; with_reducible exact H2_) | with_reducible exact H | (rw [hy178]; exact H) | exact H
                                                    have Ny178 := Aside0.mk hy178
                                                    clear hy178
                                                    by_cases c38 : x7_3.length < 17592186044416
                                                    · rw [if_pos c38] at H
                                                      have LMc38 := Aside0.mk c38
                                                      clear c38
                                                      obtain ⟨y179, hy179⟩ : ∃ y_ : List Int, y_ = (x7_3 ++ [(rd_T30 (rd_L2 l0 (rd x7_2 0)) x44_3).f0]) := ⟨_, rfl⟩
                                                      replace H : (table_Reach.l1 k3 l0 y178 y171 y179 (rd_L2 l0 (rd x7_2 0)) ((rd_L2 l0 (rd x7_2 0)).length : Int) (wrap64 (x44_3 + 1))) = some r := by first | (rw [hy179]; with_reducible exact H) | (have H2_ := (Option.bind_some _ _).symm.trans H; rw [hy179]; with_reducible exact H2_) | (have H2_ := (Option.bind_some _ _).symm.trans H; with_reducible exact H2_) | with_reducible exact H | (rw [hy179]; exact H) | exact H
                                                      have Ny179 := Aside0.mk hy179
                                                      clear hy179
                                                      have H' := Aside0.mk H
                                                      clear H
                                                      have p175 : 0 ≤ (x44_3 : Int) := of_decide_eq_true (by first | (with_reducible assumption) | assumption)
                                                      have q175 : x44_3 < ((rd_L2 l0 (rd x7_2 0)).length : Int) := of_decide_eq_true (by first | (with_reducible assumption) | assumption)
                                                      obtain ⟨ad175, e175, hx175_0, hx175_1⟩ := at_T30 HR174_0.out x44_3 p175 q175
                                                      cases e175
                                                      replace hx175_0 := (HB.out.cell (World.block_lt_of_cell? w _ hx175_0)).trans hx175_0
                                                      replace hx175_1 := (HB.out.cell (World.block_lt_of_cell? w _ hx175_1)).trans hx175_1
                                                      replace p175 := eq_true p175
                                                      replace q175 := eq_true q175
                                                      go_wp2_with (first | ((with_reducible refine gate_dst (N := 10) rfl ?_); (try (refine gate_guard (by rfl) ?_; dsimp only)); refine box_event ?hg (N := 10) ?hd (cs := #[.int .i64 0, .int .i64 0]) (t := 30) ?hr ?_; (case hd => rfl); (case hg => rfl); (case hr => first | (go_simp; done) | (go_simp; rfl)); intro gb176 hg w39 hbox hb; have n0_ := Aside0.mk (Kd.R_below (by (with_reducible repeat (first | apply Kd.R_alloc | apply Kd.R_drewN | apply Kd.R_drew)); exact HO_5.out) hb); have n1_ := Aside0.mk (Kd.R_below (by (with_reducible repeat (first | apply Kd.R_alloc | apply Kd.R_drewN | apply Kd.R_drew)); exact HO_6.out) hb); have n2_ := Aside0.mk (Kd.Q_below (by (with_reducible repeat (first | apply Kd.Q_alloc | apply Kd.Q_drewN | apply Kd.Q_drew)); exact HO_7.out) hb); have n3_ := Aside0.mk (below_step (by repeat (first | (with_reducible first | exact HB.out | apply below_alloc | apply pw_below_drewN | apply below_drew1) | exact HB.out)) hb); have n4_ := Aside0.mk (hbox); have n5_ := Aside0.mk ((by rw [hg]; exact (below_size (by repeat (first | (with_reducible first | exact HB.out | apply below_alloc | apply pw_below_drewN | apply below_drew1) | exact HB.out))) : w.heap.size ≤ gb176)); have n6_ := Aside0.mk ((by rw [hg]; exact (below_size (by repeat (first | (with_reducible first | exact HB.out | apply below_alloc | apply pw_below_drewN | apply below_drew1) | exact HB.out))) : w.heap.size ≤ gb176)); clear HO_5; clear HO_6; clear HO_7; clear HB; have HO_5 := n0_; have HO_6 := n1_; have HO_7 := n2_; have HB := n3_; have BK176 := n4_; have GW176 := n5_; have GE176 := n6_; clear n0_ n1_ n2_ n3_ n4_ n5_ n6_; clear hb hbox hg; have hcz40_0 : w39.cell? ⟨gb176, 0, none⟩ = some (.int .i64 0) := (blk_cell BK176.out 0).trans rfl; have hcz40_1 : w39.cell? ⟨gb176, 1, none⟩ = some (.int .i64 0) := (blk_cell BK176.out 1).trans rfl; have hfz40_0 := blk_frozen BK176.out 0; have hfz40_1 := blk_frozen BK176.out 1) | ((with_reducible refine gate_store (t := 30) (p := 10) rfl ?_); refine store_event (t := 30) (p := 10) (v := ?vo_w41) (w1 := ((w39.setCell ⟨gb176, 0, none⟩ (.int .i64 ((rd_T30 (rd_L2 l0 (rd x7_2 0)) x44_3).f0))).setCell ⟨gb176, 1, none⟩ (.int .i64 ((rd_T30 (rd_L2 l0 (rd x7_2 0)) x44_3).f1)))) ?hg ?ho ?hn ?hr ?_; (case ho => rfl); (case hg => rfl); (case hn => rfl); (case hr => first | (go_simp; done) | (go_simp; rfl)); intro w41 hw; have n0_ : Aside0 (Kd.R Kd.bool 4 w41 w.heap.size (fun _ => True) (.slice (some ⟨go10, 0, none⟩) x5_3.length co10) x5_3) := ⟨(by rw [hw]; exact (by (with_reducible repeat (first | apply Kd.R_alloc | apply Kd.R_drewN | apply Kd.R_drew)); exact Kd.R_mono (Kd.R_far (p := ⟨gb176, 1, none⟩) (Kd.R_far (p := ⟨gb176, 0, none⟩) (Kd.R_types HO_5.out BK176.out (by decide)) (fun _ hk => hk.2) (.int .i64 ((rd_T30 (rd_L2 l0 (rd x7_2 0)) x44_3).f0))) (fun _ hk => hk.2) (.int .i64 ((rd_T30 (rd_L2 l0 (rd x7_2 0)) x44_3).f1))) (fun _ hk => trivial)))⟩; have n1_ : Aside0 (Kd.R (Kd.int .i64) 3 w41 w.heap.size (fun k_ => some k_ ≠ (u7 : Value).ownBlock) v172 y171) := ⟨(by rw [hw]; exact (by (with_reducible repeat (first | apply Kd.R_alloc | apply Kd.R_drewN | apply Kd.R_drew)); exact Kd.R_mono (Kd.R_far (p := ⟨gb176, 1, none⟩) (Kd.R_far (p := ⟨gb176, 0, none⟩) (Kd.R_types HO_6.out BK176.out (by decide)) (fun _ hk => hk.2) (.int .i64 ((rd_T30 (rd_L2 l0 (rd x7_2 0)) x44_3).f0))) (fun _ hk => hk.2) (.int .i64 ((rd_T30 (rd_L2 l0 (rd x7_2 0)) x44_3).f1))) (fun _ hk => hk.1)))⟩; have n2_ : Aside0 (Kd.Q (Kd.int .i64) 3 w41 w.heap.size (fun k_ => some k_ ≠ (v172 : Value).ownBlock) u7 x7_3) := ⟨(by rw [hw]; exact (by (with_reducible repeat (first | apply Kd.Q_alloc | apply Kd.Q_drewN | apply Kd.Q_drew)); exact Kd.Q_mono (Kd.Q_far (p := ⟨gb176, 1, none⟩) (Kd.Q_far (p := ⟨gb176, 0, none⟩) (Kd.Q_types HO_7.out BK176.out (by decide)) (fun _ hk => hk.2) (.int .i64 ((rd_T30 (rd_L2 l0 (rd x7_2 0)) x44_3).f0))) (fun _ hk => hk.2) (.int .i64 ((rd_T30 (rd_L2 l0 (rd x7_2 0)) x44_3).f1))) (fun _ hk => hk.1)))⟩; have n3_ : Aside0 (w41.heap[gb176]? = some (.cells #[.int .i64 ((rd_T30 (rd_L2 l0 (rd x7_2 0)) x44_3).f0), .int .i64 ((rd_T30 (rd_L2 l0 (rd x7_2 0)) x44_3).f1)] 30 (0, 0))) := ⟨(by rw [hw]; exact (by (with_reducible repeat (first | refine blk_drewN ?_ _ | refine blk_drew ?_ | refine blk_alloc ?_ _)); refine blk_put (cs := #[.int .i64 ((rd_T30 (rd_L2 l0 (rd x7_2 0)) x44_3).f0), .int .i64 0]) ?_ 1 _ rfl; (with_reducible repeat (first | refine blk_drewN ?_ _ | refine blk_drew ?_ | refine blk_alloc ?_ _)); refine blk_put (cs := #[.int .i64 0, .int .i64 0]) ?_ 0 _ rfl; (with_reducible repeat (first | refine blk_drewN ?_ _ | refine blk_drew ?_ | refine blk_alloc ?_ _)); exact BK176.out))⟩; have n4_ : Aside0 (Below w.heap.size w w41) := ⟨(by rw [hw]; exact (by repeat (first | (with_reducible first | exact HB.out | apply below_alloc | apply pw_below_drewN | apply below_drew1 | refine below_set ?_ GE176.out) | exact HB.out)))⟩; clear hw; clear HO_5; clear HO_6; clear HO_7; clear BK176; clear HB; have HO_5 := n0_; have HO_6 := n1_; have HO_7 := n2_; have BK176 := n3_; have HB := n4_; clear n0_ n1_ n2_ n3_ n4_; have hcz42_0 : w41.cell? ⟨gb176, 0, none⟩ = some (.int .i64 ((rd_T30 (rd_L2 l0 (rd x7_2 0)) x44_3).f0)) := (blk_cell BK176.out 0).trans rfl; have hcz42_1 : w41.cell? ⟨gb176, 1, none⟩ = some (.int .i64 ((rd_T30 (rd_L2 l0 (rd x7_2 0)) x44_3).f1)) := (blk_cell BK176.out 1).trans rfl; have hfz42_0 := blk_frozen BK176.out 0; have hfz42_1 := blk_frozen BK176.out 1; have p177 : 0 ≤ (((rd_T30 (rd_L2 l0 (rd x7_2 0)) x44_3).f0) : Int) := of_decide_eq_true (by first | (with_reducible assumption) | assumption); have q177 : ((rd_T30 (rd_L2 l0 (rd x7_2 0)) x44_3).f0) < (x5_3.length : Int) := of_decide_eq_true (by first | (with_reducible assumption) | assumption); obtain ⟨ad177, e177, hx177_0⟩ := Kd.at_bool (Kd.R_reads' HO_5.out).2.2 ((rd_T30 (rd_L2 l0 (rd x7_2 0)) x44_3).f0) p177 q177; (try rw [← Nbq33.out] at hx177_0); obtain rfl : (⟨go10, 0, none⟩ : Addr) = ad177 := (by injection e177); (first | simp only [add_plain] at hx177_0 | simp only [add_at] at hx177_0 | simp only [Addr.add, Nat.zero_add] at hx177_0 | skip); replace p177 := eq_true p177; replace q177 := eq_true q177; have p37 : 0 ≤ (((rd_T30 (rd_L2 l0 (rd x7_2 0)) x44_3).f0) : Int) := of_decide_eq_true (by first | (with_reducible assumption) | assumption); have q37 : (((rd_T30 (rd_L2 l0 (rd x7_2 0)) x44_3).f0) : Int) < ((x5_3.length : Int) : Int) := of_decide_eq_true (by first | (with_reducible assumption) | assumption); obtain ⟨hx37_0, hf37_0⟩ := Kd.R_celln false HO_5.out (((rd_T30 (rd_L2 l0 (rd x7_2 0)) x44_3).f0) : Int) p37 q37; replace p37 := eq_true p37; replace q37 := eq_true q37; obtain ⟨hy43_, hz43_⟩ := Kd.R_celln false HO_5.out (((rd_T30 (rd_L2 l0 (rd x7_2 0)) x44_3).f0) : Int) (of_decide_eq_true (by first | (with_reducible assumption) | assumption)) (of_decide_eq_true (by first | (with_reducible assumption) | assumption)); have HP43 := Kd.R_putg HO_5.out (((rd_T30 (rd_L2 l0 (rd x7_2 0)) x44_3).f0) : Int) true) | ((with_reducible refine gate_store (t := 4) (p := 69) rfl ?_); refine store_event (t := 4) (p := 69) (v := ?vo_w44) (w1 := (w41.setCell ⟨go10, (((rd_T30 (rd_L2 l0 (rd x7_2 0)) x44_3).f0) : Int).toNat, none⟩ (.bool true))) ?hg ?ho ?hn ?hr ?_; (case ho => rfl); (case hg => rfl); (case hn => rfl); (case hr => first | (go_simp; done) | (go_simp; rfl)); intro w44 hw; have hg : w41.grownBy w44 (some go10) := (by rw [hw]; exact HP43.2); have hp_ : Kd.R Kd.bool 4 w44 w.heap.size (fun _ => True) (.slice (some ⟨go10, 0, none⟩) x5_3.length co10) y178 := (by rw [hw, Ny178.out]; exact HP43.1); clear HP43; have n0_ := Aside0.mk (hp_); have n1_ := Aside0.mk (Kd.R_over' (v := (.slice (some ⟨go10, 0, none⟩) x5_3.length co10)) (by (with_reducible repeat (first | apply Kd.R_alloc | apply Kd.R_drewN | apply Kd.R_drew)); exact HO_6.out) (Kd.R_typed HO_5.out) (by decide) hg); have n2_ := Aside0.mk (Kd.Q_over' (v := (.slice (some ⟨go10, 0, none⟩) x5_3.length co10)) (by (with_reducible repeat (first | apply Kd.Q_alloc | apply Kd.Q_drewN | apply Kd.Q_drew)); exact HO_7.out) (Kd.R_typed HO_5.out) (by decide) hg); have n3_ := Aside0.mk (blk_grown (g := gb176) (o := .cells #[.int .i64 ((rd_T30 (rd_L2 l0 (rd x7_2 0)) x44_3).f0), .int .i64 ((rd_T30 (rd_L2 l0 (rd x7_2 0)) x44_3).f1)] 30 (0, 0)) (by (with_reducible repeat (first | refine blk_drewN ?_ _ | refine blk_drew ?_ | refine blk_alloc ?_ _)); exact BK176.out) hg (Kd.R_ne HO_5.out BK176.out (by decide))); have n4_ := Aside0.mk ((by rw [hw]; exact below_set (HB.out) GB10.out : Below w.heap.size w w44)); clear HO_5; clear HO_6; clear HO_7; clear BK176; clear HB; have HO_5 := n0_; have HO_6 := n1_; have HO_7 := n2_; have BK176 := n3_; have HB := n4_; clear n0_ n1_ n2_ n3_ n4_; clear hg hw hp_; have hcz45_0 : w44.cell? ⟨gb176, 0, none⟩ = some (.int .i64 ((rd_T30 (rd_L2 l0 (rd x7_2 0)) x44_3).f0)) := (blk_cell BK176.out 0).trans rfl; have hcz45_1 : w44.cell? ⟨gb176, 1, none⟩ = some (.int .i64 ((rd_T30 (rd_L2 l0 (rd x7_2 0)) x44_3).f1)) := (blk_cell BK176.out 1).trans rfl; have hfz45_0 := blk_frozen BK176.out 0; have hfz45_1 := blk_frozen BK176.out 1) | ((with_reducible refine gate_builtin (b := .append) (xs := #[.tmp 70, .tmp 73]) rfl ?_); (try (refine gate_guard (by rfl) ?_; dsimp only)); at_builtin; refine Kd.Q_append (Kd.int .i64) (w0 := w) w.heap.size rfl (.tmp 70) (.tmp 73) 24 3 (.int .i64 0) 8 rfl Try.underlying24 info3 rfl (by decide) (by omega) u7 x7_3 ((rd_T30 (rd_L2 l0 (rd x7_2 0)) x44_3).f0) [.int .i64 ((rd_T30 (rd_L2 l0 (rd x7_2 0)) x44_3).f0)] (fun k_ => some k_ ≠ (v172 : Value).ownBlock) (fun _ => False) rfl rfl ?aP (fun _ hk => hk.elim) ?aF ?aO ?aB ?aS ?aL ?_; (case aP => exact rfl); (case aB => exact (by repeat (first | (with_reducible first | exact HB.out | apply below_alloc | apply pw_below_drewN | apply below_drew1 | refine below_set ?_ GE176.out) | exact HB.out))); (case aF => exact (fun k_ hk => Kd.fresh' (Kd.R_lt (by (with_reducible repeat (first | apply Kd.R_alloc | apply Kd.R_drewN | apply Kd.R_drew)); exact HO_6.out)) k_ hk)); (case aO => exact (by (with_reducible repeat (first | apply Kd.Q_alloc | apply Kd.Q_drewN | apply Kd.Q_drew)); exact HO_7.out)); (case aS => exact (below_size (by repeat (first | (with_reducible first | exact HB.out | apply below_alloc | apply pw_below_drewN | apply below_drew1 | refine below_set ?_ GE176.out) | exact HB.out)))); (case aL => have := LMc38.out; omega); intro v180 w46 ho hb hg hat; rw [← Ny179.out] at ho; have n0_ := Aside0.mk (Kd.R_over' (by (with_reducible repeat (first | apply Kd.R_alloc | apply Kd.R_drewN | apply Kd.R_drew)); exact HO_5.out) (Kd.Q_typed (by (with_reducible repeat (first | apply Kd.Q_alloc | apply Kd.Q_drewN | apply Kd.Q_drew)); exact HO_7.out)) (by decide) hg); have n1_ := Aside0.mk (Kd.R_after (ok := (fun _ => True)) (by (with_reducible repeat (first | apply Kd.R_alloc | apply Kd.R_drewN | apply Kd.R_drew)); exact Kd.R_mono HO_6.out (fun _ hk => ⟨trivial, hk⟩)) hg hat); have n2_ := Aside0.mk (blk_grown (g := gb176) (o := .cells #[.int .i64 ((rd_T30 (rd_L2 l0 (rd x7_2 0)) x44_3).f0), .int .i64 ((rd_T30 (rd_L2 l0 (rd x7_2 0)) x44_3).f1)] 30 (0, 0)) (by (with_reducible repeat (first | refine blk_drewN ?_ _ | refine blk_drew ?_ | refine blk_alloc ?_ _)); exact BK176.out) hg (Kd.Q_ne HO_7.out BK176.out (by decide))); have n3_ := Aside0.mk (hb); have n4_ := Aside0.mk (ho); clear HO_5; clear HO_6; clear BK176; clear HB; clear HO_7; have HO_5 := n0_; have HO_6 := n1_; have BK176 := n2_; have HB := n3_; have HO181 := n4_; clear n0_ n1_ n2_ n3_ n4_; clear ho hb hg hat))
                                                      (try simp only [← hl5_3])
                                                      go_roundg k3
                                                      case measure => have := HJ2.out; have := HK2.out; have := HK3.out; omega
                                                      case rel => exact ⟨(y178), (y179), (wrap64 (x44_3 + 1)), (by first | rfl | (simp; done) | (simp [*]; done)), H', ⟨by have := HJ2.out; have := HK2.out; have := HK3.out; omega⟩, ⟨by (try simp only [hl5_2]); (try simp only [hl5_3]); (with_reducible repeat (first | apply Kd.R_alloc | apply Kd.R_drewN | apply Kd.R_drew)); exact HO_5.out⟩, ⟨by (try simp only [hl5_2]); (try simp only [hl5_3]); (with_reducible repeat (first | apply Kd.R_alloc | apply Kd.R_drewN | apply Kd.R_drew)); exact Kd.R_mono HO_6.out (fun _ hk => hk.2)⟩, ⟨by (try simp only [hl5_2]); (try simp only [hl5_3]); (with_reducible repeat (first | apply Kd.Q_alloc | apply Kd.Q_drewN | apply Kd.Q_drew)); exact HO181.out⟩, ⟨by repeat (first | (with_reducible first | exact HB.out | apply below_alloc | apply pw_below_drewN | apply below_drew1 | refine below_set ?_ GE176.out) | exact HB.out)⟩⟩
                                                    · rw [if_neg c38] at H
                                                      exact absurd H (by simp)
                                                · rw [if_neg c32] at H
                                                  exact absurd H (by simp)
                                              · rw [if_neg c31] at H
                                                exact absurd H (by simp)
                                            · rw [if_neg c30] at H
                                              have c30b0 : decide (((rd_T30 (rd_L2 l0 (rd x7_2 0)) x44_3).f0) < (l0.length : Int)) = false := decide_eq_false c30
                                              clear c30
                                              have H' := Aside0.mk H
                                              clear H
                                              have p175 : 0 ≤ (x44_3 : Int) := of_decide_eq_true (by first | (with_reducible assumption) | assumption)
                                              have q175 : x44_3 < ((rd_L2 l0 (rd x7_2 0)).length : Int) := of_decide_eq_true (by first | (with_reducible assumption) | assumption)
                                              obtain ⟨ad175, e175, hx175_0, hx175_1⟩ := at_T30 HR174_0.out x44_3 p175 q175
                                              cases e175
                                              replace hx175_0 := (HB.out.cell (World.block_lt_of_cell? w _ hx175_0)).trans hx175_0
                                              replace hx175_1 := (HB.out.cell (World.block_lt_of_cell? w _ hx175_1)).trans hx175_1
                                              replace p175 := eq_true p175
                                              replace q175 := eq_true q175
                                              go_wp2_with (first | ((with_reducible refine gate_dst (N := 10) rfl ?_); (try (refine gate_guard (by rfl) ?_; dsimp only)); refine box_event ?hg (N := 10) ?hd (cs := #[.int .i64 0, .int .i64 0]) (t := 30) ?hr ?_; (case hd => rfl); (case hg => rfl); (case hr => first | (go_simp; done) | (go_simp; rfl)); intro gb176 hg w47 hbox hb; have n0_ := Aside0.mk (Kd.R_below (by (with_reducible repeat (first | apply Kd.R_alloc | apply Kd.R_drewN | apply Kd.R_drew)); exact HO_5.out) hb); have n1_ := Aside0.mk (Kd.R_below (by (with_reducible repeat (first | apply Kd.R_alloc | apply Kd.R_drewN | apply Kd.R_drew)); exact HO_6.out) hb); have n2_ := Aside0.mk (Kd.Q_below (by (with_reducible repeat (first | apply Kd.Q_alloc | apply Kd.Q_drewN | apply Kd.Q_drew)); exact HO_7.out) hb); have n3_ := Aside0.mk (below_step (by repeat (first | (with_reducible first | exact HB.out | apply below_alloc | apply pw_below_drewN | apply below_drew1) | exact HB.out)) hb); have n4_ := Aside0.mk (hbox); have n5_ := Aside0.mk ((by rw [hg]; exact (below_size (by repeat (first | (with_reducible first | exact HB.out | apply below_alloc | apply pw_below_drewN | apply below_drew1) | exact HB.out))) : w.heap.size ≤ gb176)); have n6_ := Aside0.mk ((by rw [hg]; exact (below_size (by repeat (first | (with_reducible first | exact HB.out | apply below_alloc | apply pw_below_drewN | apply below_drew1) | exact HB.out))) : w.heap.size ≤ gb176)); clear HO_5; clear HO_6; clear HO_7; clear HB; have HO_5 := n0_; have HO_6 := n1_; have HO_7 := n2_; have HB := n3_; have BK176 := n4_; have GW176 := n5_; have GE176 := n6_; clear n0_ n1_ n2_ n3_ n4_ n5_ n6_; clear hb hbox hg; have hcz48_0 : w47.cell? ⟨gb176, 0, none⟩ = some (.int .i64 0) := (blk_cell BK176.out 0).trans rfl; have hcz48_1 : w47.cell? ⟨gb176, 1, none⟩ = some (.int .i64 0) := (blk_cell BK176.out 1).trans rfl; have hfz48_0 := blk_frozen BK176.out 0; have hfz48_1 := blk_frozen BK176.out 1))
                                              (try simp only [← hl5_3])
                                              go_roundg k3
                                              case measure => have := HJ2.out; have := HK2.out; have := HK3.out; omega
                                              case rel => exact ⟨(x5_3), (x7_3), (wrap64 (x44_3 + 1)), (by first | rfl | (simp; done) | (simp [*]; done)), H', ⟨by have := HJ2.out; have := HK2.out; have := HK3.out; omega⟩, ⟨by (try simp only [hl5_2]); (try simp only [hl5_3]); (with_reducible repeat (first | apply Kd.R_alloc | apply Kd.R_drewN | apply Kd.R_drew)); exact Kd.R_mono (Kd.R_far (p := ⟨gb176, 1, none⟩) (Kd.R_far (p := ⟨gb176, 0, none⟩) (Kd.R_types HO_5.out BK176.out (by decide)) (fun _ hk => hk.2) (.int .i64 ((rd_T30 (rd_L2 l0 (rd x7_2 0)) x44_3).f0))) (fun _ hk => hk.2) (.int .i64 ((rd_T30 (rd_L2 l0 (rd x7_2 0)) x44_3).f1))) (fun _ hk => trivial)⟩, ⟨by (try simp only [hl5_2]); (try simp only [hl5_3]); (with_reducible repeat (first | apply Kd.R_alloc | apply Kd.R_drewN | apply Kd.R_drew)); exact Kd.R_mono (Kd.R_far (p := ⟨gb176, 1, none⟩) (Kd.R_far (p := ⟨gb176, 0, none⟩) (Kd.R_types HO_6.out BK176.out (by decide)) (fun _ hk => hk.2) (.int .i64 ((rd_T30 (rd_L2 l0 (rd x7_2 0)) x44_3).f0))) (fun _ hk => hk.2) (.int .i64 ((rd_T30 (rd_L2 l0 (rd x7_2 0)) x44_3).f1))) (fun _ hk => hk.1)⟩, ⟨by (try simp only [hl5_2]); (try simp only [hl5_3]); (with_reducible repeat (first | apply Kd.Q_alloc | apply Kd.Q_drewN | apply Kd.Q_drew)); exact Kd.Q_mono (Kd.Q_far (p := ⟨gb176, 1, none⟩) (Kd.Q_far (p := ⟨gb176, 0, none⟩) (Kd.Q_types HO_7.out BK176.out (by decide)) (fun _ hk => hk.2) (.int .i64 ((rd_T30 (rd_L2 l0 (rd x7_2 0)) x44_3).f0))) (fun _ hk => hk.2) (.int .i64 ((rd_T30 (rd_L2 l0 (rd x7_2 0)) x44_3).f1))) (fun _ hk => hk.1)⟩, ⟨by repeat (first | (with_reducible first | exact HB.out | apply below_alloc | apply pw_below_drewN | apply below_drew1 | refine below_set ?_ GE176.out) | exact HB.out)⟩⟩
                                          · rw [if_neg c29] at H
                                            have c29b0 : decide (0 ≤ ((rd_T30 (rd_L2 l0 (rd x7_2 0)) x44_3).f0)) = false := decide_eq_false c29
                                            clear c29
                                            have H' := Aside0.mk H
                                            clear H
                                            have p175 : 0 ≤ (x44_3 : Int) := of_decide_eq_true (by first | (with_reducible assumption) | assumption)
                                            have q175 : x44_3 < ((rd_L2 l0 (rd x7_2 0)).length : Int) := of_decide_eq_true (by first | (with_reducible assumption) | assumption)
                                            obtain ⟨ad175, e175, hx175_0, hx175_1⟩ := at_T30 HR174_0.out x44_3 p175 q175
                                            cases e175
                                            replace hx175_0 := (HB.out.cell (World.block_lt_of_cell? w _ hx175_0)).trans hx175_0
                                            replace hx175_1 := (HB.out.cell (World.block_lt_of_cell? w _ hx175_1)).trans hx175_1
                                            replace p175 := eq_true p175
                                            replace q175 := eq_true q175
                                            go_wp2_with (first | ((with_reducible refine gate_dst (N := 10) rfl ?_); (try (refine gate_guard (by rfl) ?_; dsimp only)); refine box_event ?hg (N := 10) ?hd (cs := #[.int .i64 0, .int .i64 0]) (t := 30) ?hr ?_; (case hd => rfl); (case hg => rfl); (case hr => first | (go_simp; done) | (go_simp; rfl)); intro gb176 hg w49 hbox hb; have n0_ := Aside0.mk (Kd.R_below (by (with_reducible repeat (first | apply Kd.R_alloc | apply Kd.R_drewN | apply Kd.R_drew)); exact HO_5.out) hb); have n1_ := Aside0.mk (Kd.R_below (by (with_reducible repeat (first | apply Kd.R_alloc | apply Kd.R_drewN | apply Kd.R_drew)); exact HO_6.out) hb); have n2_ := Aside0.mk (Kd.Q_below (by (with_reducible repeat (first | apply Kd.Q_alloc | apply Kd.Q_drewN | apply Kd.Q_drew)); exact HO_7.out) hb); have n3_ := Aside0.mk (below_step (by repeat (first | (with_reducible first | exact HB.out | apply below_alloc | apply pw_below_drewN | apply below_drew1) | exact HB.out)) hb); have n4_ := Aside0.mk (hbox); have n5_ := Aside0.mk ((by rw [hg]; exact (below_size (by repeat (first | (with_reducible first | exact HB.out | apply below_alloc | apply pw_below_drewN | apply below_drew1) | exact HB.out))) : w.heap.size ≤ gb176)); have n6_ := Aside0.mk ((by rw [hg]; exact (below_size (by repeat (first | (with_reducible first | exact HB.out | apply below_alloc | apply pw_below_drewN | apply below_drew1) | exact HB.out))) : w.heap.size ≤ gb176)); clear HO_5; clear HO_6; clear HO_7; clear HB; have HO_5 := n0_; have HO_6 := n1_; have HO_7 := n2_; have HB := n3_; have BK176 := n4_; have GW176 := n5_; have GE176 := n6_; clear n0_ n1_ n2_ n3_ n4_ n5_ n6_; clear hb hbox hg; have hcz50_0 : w49.cell? ⟨gb176, 0, none⟩ = some (.int .i64 0) := (blk_cell BK176.out 0).trans rfl; have hcz50_1 : w49.cell? ⟨gb176, 1, none⟩ = some (.int .i64 0) := (blk_cell BK176.out 1).trans rfl; have hfz50_0 := blk_frozen BK176.out 0; have hfz50_1 := blk_frozen BK176.out 1))
                                            (try simp only [← hl5_3])
                                            go_roundg k3
                                            case measure => have := HJ2.out; have := HK2.out; have := HK3.out; omega
                                            case rel => exact ⟨(x5_3), (x7_3), (wrap64 (x44_3 + 1)), (by first | rfl | (simp; done) | (simp [*]; done)), H', ⟨by have := HJ2.out; have := HK2.out; have := HK3.out; omega⟩, ⟨by (try simp only [hl5_2]); (try simp only [hl5_3]); (with_reducible repeat (first | apply Kd.R_alloc | apply Kd.R_drewN | apply Kd.R_drew)); exact Kd.R_mono (Kd.R_far (p := ⟨gb176, 1, none⟩) (Kd.R_far (p := ⟨gb176, 0, none⟩) (Kd.R_types HO_5.out BK176.out (by decide)) (fun _ hk => hk.2) (.int .i64 ((rd_T30 (rd_L2 l0 (rd x7_2 0)) x44_3).f0))) (fun _ hk => hk.2) (.int .i64 ((rd_T30 (rd_L2 l0 (rd x7_2 0)) x44_3).f1))) (fun _ hk => trivial)⟩, ⟨by (try simp only [hl5_2]); (try simp only [hl5_3]); (with_reducible repeat (first | apply Kd.R_alloc | apply Kd.R_drewN | apply Kd.R_drew)); exact Kd.R_mono (Kd.R_far (p := ⟨gb176, 1, none⟩) (Kd.R_far (p := ⟨gb176, 0, none⟩) (Kd.R_types HO_6.out BK176.out (by decide)) (fun _ hk => hk.2) (.int .i64 ((rd_T30 (rd_L2 l0 (rd x7_2 0)) x44_3).f0))) (fun _ hk => hk.2) (.int .i64 ((rd_T30 (rd_L2 l0 (rd x7_2 0)) x44_3).f1))) (fun _ hk => hk.1)⟩, ⟨by (try simp only [hl5_2]); (try simp only [hl5_3]); (with_reducible repeat (first | apply Kd.Q_alloc | apply Kd.Q_drewN | apply Kd.Q_drew)); exact Kd.Q_mono (Kd.Q_far (p := ⟨gb176, 1, none⟩) (Kd.Q_far (p := ⟨gb176, 0, none⟩) (Kd.Q_types HO_7.out BK176.out (by decide)) (fun _ hk => hk.2) (.int .i64 ((rd_T30 (rd_L2 l0 (rd x7_2 0)) x44_3).f0))) (fun _ hk => hk.2) (.int .i64 ((rd_T30 (rd_L2 l0 (rd x7_2 0)) x44_3).f1))) (fun _ hk => hk.1)⟩, ⟨by repeat (first | (with_reducible first | exact HB.out | apply below_alloc | apply pw_below_drewN | apply below_drew1 | refine below_set ?_ GE176.out) | exact HB.out)⟩⟩
                                        · rw [if_neg c28] at H
                                          exact absurd H (by simp)
                                      · rw [if_neg c27] at H
                                        exact absurd H (by simp)
                                    · rw [if_neg c26] at H
                                      have c26b0 : decide (x44_3 < ((rd_L2 l0 (rd x7_2 0)).length : Int)) = false := decide_eq_false c26
                                      clear c26
                                      have H' := Aside0.mk H
                                      clear H
                                      go_wp2
                                      (try simp only [← hl5_2, ← hl5_3])
                                      go_roundg k3
                                      case measure => have := HJ2.out; have := HK2.out; have := HK3.out; omega
                                      case rel => exact ⟨(x5_3), (y171), (x7_3), H', ⟨by have := HJ2.out; have := HK2.out; have := HK3.out; omega⟩, ⟨by (try simp only [hl5_2]); (try simp only [hl5_3]); (with_reducible repeat (first | apply Kd.R_alloc | apply Kd.R_drewN | apply Kd.R_drew)); exact HO_5.out⟩, ⟨by (try simp only [hl5_2]); (try simp only [hl5_3]); (with_reducible repeat (first | apply Kd.R_alloc | apply Kd.R_drewN | apply Kd.R_drew)); exact HO_6.out⟩, ⟨by (try simp only [hl5_2]); (try simp only [hl5_3]); (with_reducible repeat (first | apply Kd.Q_alloc | apply Kd.Q_drewN | apply Kd.Q_drew)); exact HO_7.out⟩, ⟨by repeat (first | (with_reducible first | exact HB.out | apply below_alloc | apply pw_below_drewN | apply below_drew1) | exact HB.out)⟩⟩
                              · rw [if_neg c22] at H
                                exact absurd H (by simp)
                            · rw [if_neg c21] at H
                              exact absurd H (by simp)
                          · rw [if_neg c20] at H
                            exact absurd H (by simp)
                        · rw [if_neg c19] at H
                          exact absurd H (by simp)
                      · rw [if_neg c18] at H
                        exact absurd H (by simp)
                    · rw [if_neg c17] at H
                      have c17b0 : decide (0 < (x7_2.length : Int)) = false := decide_eq_false c17
                      have c17b1 : decide (0 < x7_2.length) = false := decide_eq_false (by omega)
                      clear c17
                      replace H := Option.bind_eq_some_iff.mp H
                      obtain ⟨t166, A510, H⟩ := H
                      replace H : (some t166) = some r := H
                      have A51 := Aside0.mk A510
                      clear A510
                      obtain rfl := Option.some.inj H
                      obtain ⟨Ao52, co52, eo52, _⟩ := Kd.Q_slice HO_7.out
                      subst eo52
                      obtain ⟨Ao53, co53, eo53⟩ := Kd.R_slice HO_6.out
                      subst eo53
                      go_wp2_with (first | ((with_reducible refine gate_callee (f := 38) rfl ?_); refine goesL_ (some 77) rfl rfl Try.func38 (by kernel_rfl) rfl #[.slice Ao53 x6_2.length co53] rfl (by (try simp only [List.map_toArray, List.map_cons, List.map_nil]); first | done | rfl | (simp only [List.length_drop, List.length_take]; rfl)) ?_; (with_reducible refine (slices_Sort_int_int.calls (fun k_ => some k_ = (.slice Ao53 x6_2.length co53 : Value).ownBlock) (.slice Ao53 x6_2.length co53) x6_2 t166 w _ ?side1 ?side2 A51.out).mono ?_); (case side1 => repeat (first | (with_reducible first | exact HB.out | apply below_alloc | apply pw_below_drewN | apply below_drew1) | exact HB.out)); (case side2 => exact Kd.R_tight rfl HO_6.out); rintro e w54 ⟨rfl, hy0, hb, hkp⟩; refine ⟨_, rfl, ?_⟩; have n0_ := Aside0.mk (Kd.R_mono (ok' := fun k_ => True) (Kd.R_keptB ((Kd.R_apart' HO_5.out (Kd.R_typed HO_6.out) (by decide))) hkp (fun k_ hk_ hs_ => (hk_.2) hs_)) (fun k_ hk_ => trivial)); have n1_ := Aside0.mk (Kd.R_reok rfl hy0 (fun k_ e_ => HO_6.out.1 k_ e_)); have n2_ := Aside0.mk (Kd.Q_mono (ok' := fun k_ => some k_ ≠ (.slice Ao53 x6_2.length co53 : Value).ownBlock) (Kd.Q_keptB (HO_7.out) hkp (fun k_ hk_ hs_ => (hk_) hs_)) (fun k_ hk_ => hk_.1)); have n3_ := Aside0.mk (hb); clear HO_5; clear HO_6; clear HO_7; clear HB; have HO_5 := n0_; have HO_6 := n1_; have HO_7 := n2_; have HB := n3_; clear n0_ n1_ n2_ n3_; (try clear hb); (try clear hkp); (try clear hy0)))
                      go_ret
                      exact ⟨_, by first | rfl | (simp [errW_none, errW_some] <;> rfl) | (simp [*, errW_none, errW_some] <;> rfl), by (with_reducible repeat (first | apply Kd.R_alloc | apply Kd.R_drewN | apply Kd.R_drew)); exact Kd.R_mono HO_6.out (fun _ hk => trivial), by repeat (first | (with_reducible first | exact HB.out | apply below_alloc | apply pw_below_drewN | apply below_drew1) | exact HB.out)⟩
              · rw [if_neg c9] at H
                exact absurd H (by simp)
            · rw [if_neg c8] at H
              exact absurd H (by simp)
          · rw [if_neg c7] at H
            exact absurd H (by simp)
        · rw [if_neg c6] at H
          exact absurd H (by simp)
end Go.Proofs.Ytbcngajkokjfjaa.QRea
