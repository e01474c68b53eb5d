/- Functions of the program as plain Lean functions, what their calls do, and what follows of it. Conditions: each theorem's own. -/
import Derived.Test.YtjhkbmdblfdlnaaCRelayBounds1
namespace Go.Proofs.Ytjhkbmdblfdlnaa.QRlb
open Go.RowKit Go.Proofs.YtjhkbmdblfdlnaaW.PrintWords Go.Proofs.YtjhkbmdblfdlnaaW.PrintLast Go.Proofs.YtjhkbmdblfdlnaaW.PrintMore
attribute [local go_sem] max2_int min2_int max_two min_two max_three min_three max_four min_four
set_option linter.unusedVariables false
set_option linter.unusedSimpArgs false
def kissgatelaw19_alive.f (k : Nat)  : Option (Bool) := (some (([1] : List Int) : List Int)).bind fun y166 => ((fdb_New.f).bind fun t173 => ((relay_Relay.f k (([(⟨2, 1, false, y166⟩ : S54), (⟨2, 1, false, y166⟩ : S54), (⟨2, 1, false, y166⟩ : S54)] : List (S54))) 1 281474976710655 0 false 0 0 2048 (⟨#[]⟩ : ByteArray) t173).bind fun t176 => (if (t176.length : Int) = 2 then (if 0 < (t176.length : Int) then (if ((rd_T63 t176 0).f0) = 0 then (if 1 < (t176.length : Int) then (if ((rd_T63 t176 1).f0) = 2 then (some (((rd_T63 t176 0).f1.f3) == 1)) else (some false)) else (none)) else (some false)) else (none)) else (some false))))
theorem kissgatelaw19_alive.mono : ∀ k, LeO (kissgatelaw19_alive.f k ) (kissgatelaw19_alive.f (k + 1) ) := by
  intro  k
  unfold kissgatelaw19_alive.f
  repeat' first
      | (with_reducible exact relay_Relay.mono _ _ _ _ _ _ _ _ _ _ _)
      | (with_reducible exact LeO.refl _)
      | (with_reducible exact LeO.none _)
      | (with_reducible refine LeO.ite ?_ ?_)
      | (with_reducible refine LeO.bind ?_ (fun _ => ?_))
      | exact relay_Relay.mono _ _ _ _ _ _ _ _ _ _ _
      | exact LeO.none _
      | refine LeO.ite ?_ ?_
      | refine LeO.bind ?_ (fun _ => ?_)
def kissgatelaw19_alive.T2 : Bool × List (List Nat × List Nat) := (true, [([], []), ([], []), ([], []), ([0, 1, 2], [0, 1, 2]), ([], []), ([], []), ([3, 4, 5, 5], [3, 4, 5]), ([6, 6, 0, 1, 2, 3, 4, 5, 6], [6])])
def kissgatelaw19_alive.B2 : List Nat := [0, 0, 0, 7, 0, 0, 63, 127]
theorem kissgatelaw19_alive.tab2 : rtab .any (opsOf Try.f25 2) = kissgatelaw19_alive.T2 := by kernel_rfl
theorem kissgatelaw19_alive.bits2 : waitsOk kissgatelaw19_alive.T2.2 kissgatelaw19_alive.B2 = true := by kernel_rfl
set_option maxHeartbeats 8000000 in
set_option maxRecDepth 100000 in
theorem kissgatelaw19_alive.calls (k : Nat)  (r : Bool) (w : World) (h : kissgatelaw19_alive.f k  = some r) :
    Calls Try.prog 25 #[] w fun e w' => e = .returned (.bool r) ∧ Below w.heap.size w w' := by
  have hu54 := Try.underlying54
  have hu49 := Try.underlying49
  have HB := Aside0.mk (Below.refl w.heap.size w)
  have H : ((some (([1] : List Int) : List Int)).bind fun y166 => ((fdb_New.f).bind fun t173 => ((relay_Relay.f k (([(⟨2, 1, false, y166⟩ : S54), (⟨2, 1, false, y166⟩ : S54), (⟨2, 1, false, y166⟩ : S54)] : List (S54))) 1 281474976710655 0 false 0 0 2048 (⟨#[]⟩ : ByteArray) t173).bind fun t176 => (if (t176.length : Int) = 2 then (if 0 < (t176.length : Int) then (if ((rd_T63 t176 0).f0) = 0 then (if 1 < (t176.length : Int) then (if ((rd_T63 t176 1).f0) = 2 then (some (((rd_T63 t176 0).f1.f3) == 1)) else (some false)) else (none)) else (some false)) else (none)) else (some false))))) = some r := h
  clear h
  obtain ⟨y166, hy166⟩ : ∃ y_ : List Int, y_ = (([1] : List Int)) := ⟨_, rfl⟩
  replace H : ((fdb_New.f).bind fun t173 => ((relay_Relay.f k (([(⟨2, 1, false, y166⟩ : S54), (⟨2, 1, false, y166⟩ : S54), (⟨2, 1, false, y166⟩ : S54)] : List (S54))) 1 281474976710655 0 false 0 0 2048 (⟨#[]⟩ : ByteArray) t173).bind fun t176 => (if (t176.length : Int) = 2 then (if 0 < (t176.length : Int) then (if ((rd_T63 t176 0).f0) = 0 then (if 1 < (t176.length : Int) then (if ((rd_T63 t176 1).f0) = 2 then (some (((rd_T63 t176 0).f1.f3) == 1)) else (some false)) else (none)) else (some false)) else (none)) else (some false)))) = some r := by first | (rw [hy166]; with_reducible exact H) | (have H2_ := (Option.bind_some _ _).symm.trans H; rw [hy166]; with_reducible exact H2_) | (have H2_ := (Option.bind_some _ _).symm.trans H; with_reducible exact H2_) | with_reducible exact H | (rw [hy166]; exact H) | exact H
  have Ny166 := Aside0.mk hy166
  clear hy166
  obtain ⟨y170, hy170⟩ : ∃ y_ : List (S54), y_ = (([(⟨2, 1, false, y166⟩ : S54), (⟨2, 1, false, y166⟩ : S54), (⟨2, 1, false, y166⟩ : S54)] : List (S54))) := ⟨_, rfl⟩
  replace H : ((fdb_New.f).bind fun t173 => ((relay_Relay.f k y170 1 281474976710655 0 false 0 0 2048 (⟨#[]⟩ : ByteArray) t173).bind fun t176 => (if (t176.length : Int) = 2 then (if 0 < (t176.length : Int) then (if ((rd_T63 t176 0).f0) = 0 then (if 1 < (t176.length : Int) then (if ((rd_T63 t176 1).f0) = 2 then (some (((rd_T63 t176 0).f1.f3) == 1)) else (some false)) else (none)) else (some false)) else (none)) else (some false)))) = some r := by first | (rw [hy170]; with_reducible exact H) | (have H2_ := (Option.bind_some _ _).symm.trans H; rw [hy170]; with_reducible exact H2_) | (have H2_ := (Option.bind_some _ _).symm.trans H; with_reducible exact H2_) | with_reducible exact H | (rw [hy170]; exact H) | exact H
  have Ny170 := Aside0.mk hy170
  clear hy170
  replace H := Option.bind_eq_some_iff.mp H
  obtain ⟨t173, A10, H⟩ := H
  replace H : ((relay_Relay.f k y170 1 281474976710655 0 false 0 0 2048 (⟨#[]⟩ : ByteArray) t173).bind fun t176 => (if (t176.length : Int) = 2 then (if 0 < (t176.length : Int) then (if ((rd_T63 t176 0).f0) = 0 then (if 1 < (t176.length : Int) then (if ((rd_T63 t176 1).f0) = 2 then (some (((rd_T63 t176 0).f1.f3) == 1)) else (some false)) else (none)) else (some false)) else (none)) else (some false))) = some r := H
  have A1 := Aside0.mk A10
  clear A10
  replace H := Option.bind_eq_some_iff.mp H
  obtain ⟨t176, A20, H⟩ := H
  replace H : (if (t176.length : Int) = 2 then (if 0 < (t176.length : Int) then (if ((rd_T63 t176 0).f0) = 0 then (if 1 < (t176.length : Int) then (if ((rd_T63 t176 1).f0) = 2 then (some (((rd_T63 t176 0).f1.f3) == 1)) else (some false)) else (none)) else (some false)) else (none)) else (some false)) = some r := H
  have A2 := Aside0.mk A20
  clear A20
  by_cases c3 : (t176.length : Int) = 2
  · rw [if_pos c3] at H
    have c3b0 : ((t176.length : Int) == 2) = true := beq_iff_eq.mpr c3
    have c3b1 : ((t176.length : Int) != 2) = false := bne_eq_false_iff_eq.mpr c3
    clear c3
    by_cases c4 : 0 < (t176.length : Int)
    · rw [if_pos c4] at H
      have c4b0 : decide (0 < (t176.length : Int)) = true := decide_eq_true c4
      have c4b1 : decide (0 < t176.length) = true := decide_eq_true (by omega)
      clear c4
      by_cases c5 : ((rd_T63 t176 0).f0) = 0
      · rw [if_pos c5] at H
        have c5b0 : (((rd_T63 t176 0).f0) == 0) = true := beq_iff_eq.mpr c5
        have c5b1 : (((rd_T63 t176 0).f0) != 0) = false := bne_eq_false_iff_eq.mpr c5
        clear c5
        by_cases c6 : 1 < (t176.length : Int)
        · rw [if_pos c6] at H
          have c6b0 : decide (1 < (t176.length : Int)) = true := decide_eq_true c6
          have c6b1 : decide (1 < t176.length) = true := decide_eq_true (by omega)
          clear c6
          by_cases c7 : ((rd_T63 t176 1).f0) = 2
          · rw [if_pos c7] at H
            have c7b0 : (((rd_T63 t176 1).f0) == 2) = true := beq_iff_eq.mpr c7
            have c7b1 : (((rd_T63 t176 1).f0) != 2) = false := bne_eq_false_iff_eq.mpr c7
            clear c7
            obtain rfl := Option.some.inj H
            go_enter Try.func25, Try.ntmps25
            try go_wp2_with (first | ((with_reducible refine gate_dst (N := 3) rfl ?_); refine Kd.R_lit (Kd.int .i64) _ 3 ?hg (N := 3) ?hd (xs := ([1] : List Int)) (inner := [.int .i64 1]) (ok := fun _ => True) (okp := fun _ => True) ?hr ?hp (fun _ hk => hk) trivial (Below.refl _ _) (Nat.le_refl _) (by simp) ?_; (case hd => rfl); (case hg => rfl); (case hr => first | (go_simp; done) | (go_simp; rfl)); (case hp => exact (Reps.one (show Kd.M (Kd.int .i64) _ _ _ 1 [.int .i64 1] from rfl) (Reps.none _ _))); intro v167 w8 ho9 hb hg_ hnew_; clear hg_ hnew_; (first | rw [← Ny166.out] at ho9 | (simp only [Int.reduceToNat] at ho9; rw [← Ny166.out] at ho9)); have n0_ := Aside0.mk (Kd.R_lower ho9 (below_size (by repeat (first | (with_reducible first | exact HB.out | apply below_alloc | apply pw_below_drewN | apply below_drew1) | exact HB.out)))); have n1_ := Aside0.mk (below_step (by repeat (first | (with_reducible first | exact HB.out | apply below_alloc | apply pw_below_drewN | apply below_drew1) | exact HB.out)) hb); clear HB; have HO168 := n0_; have HB := n1_; clear n0_ n1_; clear hb ho9; obtain ⟨Ao10, co10, eo10⟩ := Kd.R_slice HO168.out; subst eo10) | ((with_reducible refine gate_dst (N := 1) rfl ?_); refine box_event ?hg (N := 1) ?hd (cs := #[.int .i64 0, .int .i64 0, .bool false, .slice none 0 0]) (t := 54) ?hr ?_; (case hd => rfl); (case hg => rfl); (case hr => first | (go_simp; done) | (go_simp; rfl)); intro gb169 hg w11 hbox hb; have n0_ := Aside0.mk (Kd.R_below (by (with_reducible repeat (first | apply Kd.R_alloc | apply Kd.R_drewN | apply Kd.R_drew)); exact HO168.out) hb); have n1_ := Aside0.mk (below_step (by repeat (first | (with_reducible first | exact HB.out | apply below_alloc | apply pw_below_drewN | apply below_drew1) | exact HB.out)) hb); have n2_ := Aside0.mk (hbox); have n3_ := Aside0.mk ((by rw [hg]; exact (below_size (by repeat (first | (with_reducible first | exact HB.out | apply below_alloc | apply pw_below_drewN | apply below_drew1) | exact HB.out))) : w.heap.size ≤ gb169)); have n4_ := Aside0.mk ((by rw [hg]; exact (below_size (by repeat (first | (with_reducible first | exact HB.out | apply below_alloc | apply pw_below_drewN | apply below_drew1) | exact HB.out))) : w.heap.size ≤ gb169)); clear HO168; clear HB; have HO168 := n0_; have HB := n1_; have BK169 := n2_; have GW169 := n3_; have GE169 := n4_; clear n0_ n1_ n2_ n3_ n4_; clear hb hbox hg; have hcz12_0 : w11.cell? ⟨gb169, 0, none⟩ = some (.int .i64 0) := (blk_cell BK169.out 0).trans rfl; have hcz12_1 : w11.cell? ⟨gb169, 1, none⟩ = some (.int .i64 0) := (blk_cell BK169.out 1).trans rfl; have hcz12_2 : w11.cell? ⟨gb169, 2, none⟩ = some (.bool false) := (blk_cell BK169.out 2).trans rfl; have hcz12_3 : w11.cell? ⟨gb169, 3, none⟩ = some (.slice none 0 0) := (blk_cell BK169.out 3).trans rfl; have hfz12_0 := blk_frozen BK169.out 0; have hfz12_1 := blk_frozen BK169.out 1; have hfz12_2 := blk_frozen BK169.out 2; have hfz12_3 := blk_frozen BK169.out 3))
            have n0_ : Aside0 (Kd.R (Kd.int .i64) 3 ((((w11.setCell ⟨gb169, 0, none⟩ (.int .i64 2)).setCell ⟨gb169, 1, none⟩ (.int .i64 1)).setCell ⟨gb169, 2, none⟩ (.bool false)).setCell ⟨gb169, 3, none⟩ (.slice Ao10 y166.length co10)) w.heap.size (fun _ => True) (.slice Ao10 y166.length co10) y166) := ⟨by (with_reducible repeat (first | apply Kd.R_alloc | apply Kd.R_drewN | apply Kd.R_drew)); exact Kd.R_mono (Kd.R_far (p := ⟨gb169, 3, none⟩) (Kd.R_far (p := ⟨gb169, 2, none⟩) (Kd.R_far (p := ⟨gb169, 1, none⟩) (Kd.R_far (p := ⟨gb169, 0, none⟩) (Kd.R_types HO168.out BK169.out (by decide)) (fun _ hk => hk.2) (.int .i64 2)) (fun _ hk => hk.2) (.int .i64 1)) (fun _ hk => hk.2) (.bool false)) (fun _ hk => hk.2) (.slice Ao10 y166.length co10)) (fun _ hk => trivial)⟩
            have n1_ : Aside0 (((((w11.setCell ⟨gb169, 0, none⟩ (.int .i64 2)).setCell ⟨gb169, 1, none⟩ (.int .i64 1)).setCell ⟨gb169, 2, none⟩ (.bool false)).setCell ⟨gb169, 3, none⟩ (.slice Ao10 y166.length co10)).heap[gb169]? = some (.cells #[.int .i64 2, .int .i64 1, .bool false, .slice Ao10 y166.length co10] 54 (0, 0))) := ⟨by (with_reducible repeat (first | refine blk_drewN ?_ _ | refine blk_drew ?_ | refine blk_alloc ?_ _)); refine blk_put (cs := #[.int .i64 2, .int .i64 1, .bool false, .slice none 0 0]) ?_ 3 _ rfl; (with_reducible repeat (first | refine blk_drewN ?_ _ | refine blk_drew ?_ | refine blk_alloc ?_ _)); refine blk_put (cs := #[.int .i64 2, .int .i64 1, .bool false, .slice none 0 0]) ?_ 2 _ rfl; (with_reducible repeat (first | refine blk_drewN ?_ _ | refine blk_drew ?_ | refine blk_alloc ?_ _)); refine blk_put (cs := #[.int .i64 2, .int .i64 0, .bool false, .slice none 0 0]) ?_ 1 _ rfl; (with_reducible repeat (first | refine blk_drewN ?_ _ | refine blk_drew ?_ | refine blk_alloc ?_ _)); refine blk_put (cs := #[.int .i64 0, .int .i64 0, .bool false, .slice none 0 0]) ?_ 0 _ rfl; (with_reducible repeat (first | refine blk_drewN ?_ _ | refine blk_drew ?_ | refine blk_alloc ?_ _)); exact BK169.out⟩
            have n2_ : Aside0 (Below w.heap.size w ((((w11.setCell ⟨gb169, 0, none⟩ (.int .i64 2)).setCell ⟨gb169, 1, none⟩ (.int .i64 1)).setCell ⟨gb169, 2, none⟩ (.bool false)).setCell ⟨gb169, 3, none⟩ (.slice Ao10 y166.length co10))) := ⟨by repeat (first | (with_reducible first | exact HB.out | apply below_alloc | apply pw_below_drewN | apply below_drew1 | refine below_set ?_ GE169.out) | exact HB.out)⟩
            (try clear HO168)
            (try clear BK169)
            (try clear HB)
            generalize ((((w11.setCell ⟨gb169, 0, none⟩ (.int .i64 2)).setCell ⟨gb169, 1, none⟩ (.int .i64 1)).setCell ⟨gb169, 2, none⟩ (.bool false)).setCell ⟨gb169, 3, none⟩ (.slice Ao10 y166.length co10)) = w13 at n0_ n1_ n2_ ⊢
            have HO168 := n0_
            have BK169 := n1_
            have HB := n2_
            clear n0_ n1_ n2_
            have n0_ := Aside0.mk (Kd.R_drew HO168.out)
            have n1_ := Aside0.mk (blk_drew BK169.out)
            have n2_ := Aside0.mk (below_drew1 HB.out)
            clear HO168
            clear BK169
            clear HB
            have HO168 := n0_
            have BK169 := n1_
            have HB := n2_
            clear n0_ n1_ n2_
            refine start_ (n := 8) (S := fun w' => True) (ds := []) #[false, false, false, false, false, false, false, false] (by kernel_rfl) rfl rfl trivial (fun hHeld => ?_); refine with_tabW kissgatelaw19_alive.tab2 kissgatelaw19_alive.bits2 (fun HT_ HW_ => ?_)
            generalize w13.drew = w14 at HO168 BK169 HB hHeld ⊢
            refine inv_at [0, 1, 2, 3, 4, 5, 6, 7] (fun a0_ b a w' => ∃ (v171 : Value) (v174 : Value) (v177 : Value) (m7_ : Value), a = putSel a0_ b [(0, 5, .agg #[.int .i64 2, .int .i64 1, .bool false, .slice Ao10 y166.length co10]), (1, 6, .agg #[.int .i64 2, .int .i64 1, .bool false, .slice Ao10 y166.length co10]), (2, 7, .agg #[.int .i64 2, .int .i64 1, .bool false, .slice Ao10 y166.length co10]), (3, 8, v171), (4, 9, .agg #[.int .i64 281474976710655, .int .i64 0, .bool false, .int .i64 0, .int .i64 0, .int .i64 2048, .string (⟨#[]⟩ : ByteArray)]), (5, 10, v174), (6, 11, v177), (7, 2, m7_)] ∧ (b 3 = false → Kd.R (Kd.int .i64) 3 w' w.heap.size (fun _ => True) (.slice Ao10 y166.length co10) y166) ∧ (w'.heap[gb169]? = some (.cells #[.int .i64 2, .int .i64 1, .bool false, .slice Ao10 y166.length co10] 54 (0, 0))) ∧ (Below w.heap.size w w') ∧ (b 3 = true → Kd.N k54 54 w' w.heap.size (fun k_ => k_ ≠ gb169) v171 y170) ∧ (b 5 = true → TabC w' v174 t173) ∧ (b 6 = true → Kd.R k63 63 w' w.heap.size (fun _ => True) v177 t176) ∧ (b 7 = true → (m7_ : Value) = v177)) HT_.out HW_.out (by kernel_rfl) (by kernel_rfl) ?_ ?_ ?_
            · exact ⟨.bool false, .bool false, .bool false, .bool false, by simp only [putSel, Bool.false_eq_true, if_false], fun _ => HO168.out, BK169.out, HB.out, fun h_ => absurd h_ (by decide), fun h_ => absurd h_ (by decide), fun h_ => absurd h_ (by decide), fun h_ => absurd h_ (by decide)⟩
            · skip
              clear BK169 HB HO168
              refine steps_cons ?_ ?_
              · rintro b a w' ⟨v171, v174, v177, m7_, ha, Q_HO168, Q_BK169, Q_HB, Q_HO172, Q_HO175, Q_HO178, Q_X7_⟩ hb_ hon hoff
                refine ⟨_, rfl, fun K hK => ?_⟩
                have e1 : a.tmps[1]? = some (.pointer (some ⟨gb169, 0, none⟩)) := by rw [ha]; exact (putSel_off rfl).trans rfl
                replace ha := Aside0.mk ha
                have HO168 := Aside0.mk (Q_HO168 (hoff 3 (by kernel_rfl)))
                have BK169 := Aside0.mk Q_BK169
                have HB := Aside0.mk Q_HB
                have hc0_ : w'.cell? ⟨gb169, 0, none⟩ = some (.int .i64 2) := (blk_cell BK169.out 0).trans rfl
                have hc1_ : w'.cell? ⟨gb169, 1, none⟩ = some (.int .i64 1) := (blk_cell BK169.out 1).trans rfl
                have hc2_ : w'.cell? ⟨gb169, 2, none⟩ = some (.bool false) := (blk_cell BK169.out 2).trans rfl
                have hc3_ : w'.cell? ⟨gb169, 3, none⟩ = some (.slice Ao10 y166.length co10) := (blk_cell BK169.out 3).trans rfl
                refine value_ (w1 := w') (v := .agg #[.int .i64 2, .int .i64 1, .bool false, .slice Ao10 y166.length co10]) (by rfl) rfl ?_ ?_
                · go_simp
                  (try simp only [i64_w])
                  try rfl
                refine hK.out _ _ ⟨v171, v174, v177, m7_, (by rw [ha.out]; exact putSel_upk 0 hb_ rfl rfl rfl), Q_HO168, Q_BK169, Q_HB, fun h0_ => absurd ((hoff 3 (by kernel_rfl)).symm.trans h0_) (by decide), Q_HO175, fun h0_ => absurd ((hoff 6 (by kernel_rfl)).symm.trans h0_) (by decide), fun h0_ => absurd ((hoff 7 (by kernel_rfl)).symm.trans h0_) (by decide)⟩
              refine steps_cons ?_ ?_
              · rintro b a w' ⟨v171, v174, v177, m7_, ha, Q_HO168, Q_BK169, Q_HB, Q_HO172, Q_HO175, Q_HO178, Q_X7_⟩ hb_ hon hoff
                refine ⟨_, rfl, fun K hK => ?_⟩
                have e1 : a.tmps[1]? = some (.pointer (some ⟨gb169, 0, none⟩)) := by rw [ha]; exact (putSel_off rfl).trans rfl
                replace ha := Aside0.mk ha
                have HO168 := Aside0.mk (Q_HO168 (hoff 3 (by kernel_rfl)))
                have BK169 := Aside0.mk Q_BK169
                have HB := Aside0.mk Q_HB
                have hc0_ : w'.cell? ⟨gb169, 0, none⟩ = some (.int .i64 2) := (blk_cell BK169.out 0).trans rfl
                have hc1_ : w'.cell? ⟨gb169, 1, none⟩ = some (.int .i64 1) := (blk_cell BK169.out 1).trans rfl
                have hc2_ : w'.cell? ⟨gb169, 2, none⟩ = some (.bool false) := (blk_cell BK169.out 2).trans rfl
                have hc3_ : w'.cell? ⟨gb169, 3, none⟩ = some (.slice Ao10 y166.length co10) := (blk_cell BK169.out 3).trans rfl
                refine value_ (w1 := w') (v := .agg #[.int .i64 2, .int .i64 1, .bool false, .slice Ao10 y166.length co10]) (by rfl) rfl ?_ ?_
                · go_simp
                  (try simp only [i64_w])
                  try rfl
                refine hK.out _ _ ⟨v171, v174, v177, m7_, (by rw [ha.out]; exact putSel_upk 1 hb_ rfl rfl rfl), Q_HO168, Q_BK169, Q_HB, fun h0_ => absurd ((hoff 3 (by kernel_rfl)).symm.trans h0_) (by decide), Q_HO175, fun h0_ => absurd ((hoff 6 (by kernel_rfl)).symm.trans h0_) (by decide), fun h0_ => absurd ((hoff 7 (by kernel_rfl)).symm.trans h0_) (by decide)⟩
              refine steps_cons ?_ ?_
              · rintro b a w' ⟨v171, v174, v177, m7_, ha, Q_HO168, Q_BK169, Q_HB, Q_HO172, Q_HO175, Q_HO178, Q_X7_⟩ hb_ hon hoff
                refine ⟨_, rfl, fun K hK => ?_⟩
                have e1 : a.tmps[1]? = some (.pointer (some ⟨gb169, 0, none⟩)) := by rw [ha]; exact (putSel_off rfl).trans rfl
                replace ha := Aside0.mk ha
                have HO168 := Aside0.mk (Q_HO168 (hoff 3 (by kernel_rfl)))
                have BK169 := Aside0.mk Q_BK169
                have HB := Aside0.mk Q_HB
                have hc0_ : w'.cell? ⟨gb169, 0, none⟩ = some (.int .i64 2) := (blk_cell BK169.out 0).trans rfl
                have hc1_ : w'.cell? ⟨gb169, 1, none⟩ = some (.int .i64 1) := (blk_cell BK169.out 1).trans rfl
                have hc2_ : w'.cell? ⟨gb169, 2, none⟩ = some (.bool false) := (blk_cell BK169.out 2).trans rfl
                have hc3_ : w'.cell? ⟨gb169, 3, none⟩ = some (.slice Ao10 y166.length co10) := (blk_cell BK169.out 3).trans rfl
                refine value_ (w1 := w') (v := .agg #[.int .i64 2, .int .i64 1, .bool false, .slice Ao10 y166.length co10]) (by rfl) rfl ?_ ?_
                · go_simp
                  (try simp only [i64_w])
                  try rfl
                refine hK.out _ _ ⟨v171, v174, v177, m7_, (by rw [ha.out]; exact putSel_upk 2 hb_ rfl rfl rfl), Q_HO168, Q_BK169, Q_HB, fun h0_ => absurd ((hoff 3 (by kernel_rfl)).symm.trans h0_) (by decide), Q_HO175, fun h0_ => absurd ((hoff 6 (by kernel_rfl)).symm.trans h0_) (by decide), fun h0_ => absurd ((hoff 7 (by kernel_rfl)).symm.trans h0_) (by decide)⟩
              refine steps_cons ?_ ?_
              · rintro b a w' ⟨v171, v174, v177, m7_, ha, Q_HO168, Q_BK169, Q_HB, Q_HO172, Q_HO175, Q_HO178, Q_X7_⟩ hb_ hon hoff
                refine ⟨_, rfl, fun K hK => ?_⟩
                have e5 : a.tmps[5]? = some (.agg #[.int .i64 2, .int .i64 1, .bool false, .slice Ao10 y166.length co10]) := by rw [ha]; exact putSel_on (e := (0, 5, .agg #[.int .i64 2, .int .i64 1, .bool false, .slice Ao10 y166.length co10])) 0 rfl rfl (hon 0 (by kernel_rfl)) rfl
                have e6 : a.tmps[6]? = some (.agg #[.int .i64 2, .int .i64 1, .bool false, .slice Ao10 y166.length co10]) := by rw [ha]; exact putSel_on (e := (1, 6, .agg #[.int .i64 2, .int .i64 1, .bool false, .slice Ao10 y166.length co10])) 1 rfl rfl (hon 1 (by kernel_rfl)) rfl
                have e7 : a.tmps[7]? = some (.agg #[.int .i64 2, .int .i64 1, .bool false, .slice Ao10 y166.length co10]) := by rw [ha]; exact putSel_on (e := (2, 7, .agg #[.int .i64 2, .int .i64 1, .bool false, .slice Ao10 y166.length co10])) 2 rfl rfl (hon 2 (by kernel_rfl)) rfl
                replace ha := Aside0.mk ha
                have HO168 := Aside0.mk (Q_HO168 hb_)
                have BK169 := Aside0.mk Q_BK169
                have HB := Aside0.mk Q_HB
                refine Kd.N_lit_step k54 _ 54 ?hg (N' := 8) ?hd (xs := ([(⟨2, 1, false, y166⟩ : S54), (⟨2, 1, false, y166⟩ : S54), (⟨2, 1, false, y166⟩ : S54)] : List (S54))) (inner := [.int .i64 2, .int .i64 1, .bool false, .slice Ao10 y166.length co10, .int .i64 2, .int .i64 1, .bool false, .slice Ao10 y166.length co10, .int .i64 2, .int .i64 1, .bool false, .slice Ao10 y166.length co10]) (ok := (fun k_ => k_ ≠ gb169)) (okp := (fun k_ => k_ ≠ gb169)) ?hr ?hp (fun _ hk => hk) ((show ∀ k_, w'.heap.size ≤ k_ → (fun k_ => k_ ≠ gb169) k_ from fun k_ hk => Kd.freshB (g := gb169) (o := .cells #[.int .i64 2, .int .i64 1, .bool false, .slice Ao10 y166.length co10] 54 (0, 0)) (by (with_reducible repeat (first | refine blk_drewN ?_ _ | refine blk_drew ?_ | refine blk_alloc ?_ _)); exact BK169.out) k_ hk) _ (Nat.le_refl _)) (Below.refl _ _) (Nat.le_refl _) (by simp) ?_; (case hd => rfl); (case hg => rfl); (case hr => first | (go_simp; done) | (go_simp; rfl)); (case hp => exact (Reps.c4 (show Kd.FK k54 _ _ (⟨2, 1, false, y166⟩ : S54) [.int .i64 2, .int .i64 1, .bool false, .slice Ao10 y166.length co10] from (k54_mkF _ _ (⟨2, 1, false, y166⟩ : S54) (Kd.R_reads' (Kd.R_mono (ok' := (fun k_ => k_ ≠ gb169)) (Kd.R_types (HO168.out) BK169.out (by decide)) (fun k_ hk => hk.2))).2.1 (Kd.R_F (Kd.R_mono (ok' := (fun k_ => k_ ≠ gb169)) (Kd.R_types (HO168.out) BK169.out (by decide)) (fun k_ hk => hk.2))))) (Reps.c4 (show Kd.FK k54 _ _ (⟨2, 1, false, y166⟩ : S54) [.int .i64 2, .int .i64 1, .bool false, .slice Ao10 y166.length co10] from (k54_mkF _ _ (⟨2, 1, false, y166⟩ : S54) (Kd.R_reads' (Kd.R_mono (ok' := (fun k_ => k_ ≠ gb169)) (Kd.R_types (HO168.out) BK169.out (by decide)) (fun k_ hk => hk.2))).2.1 (Kd.R_F (Kd.R_mono (ok' := (fun k_ => k_ ≠ gb169)) (Kd.R_types (HO168.out) BK169.out (by decide)) (fun k_ hk => hk.2))))) (Reps.c4 (show Kd.FK k54 _ _ (⟨2, 1, false, y166⟩ : S54) [.int .i64 2, .int .i64 1, .bool false, .slice Ao10 y166.length co10] from (k54_mkF _ _ (⟨2, 1, false, y166⟩ : S54) (Kd.R_reads' (Kd.R_mono (ok' := (fun k_ => k_ ≠ gb169)) (Kd.R_types (HO168.out) BK169.out (by decide)) (fun k_ hk => hk.2))).2.1 (Kd.R_F (Kd.R_mono (ok' := (fun k_ => k_ ≠ gb169)) (Kd.R_types (HO168.out) BK169.out (by decide)) (fun k_ hk => hk.2))))) (Reps.none _ _)))))
                intro v171 w15 ho16 hb hg_ hnew_
                clear hg_ hnew_
                (first | rw [← Ny170.out] at ho16 | (simp only [Int.reduceToNat] at ho16; rw [← Ny170.out] at ho16))
                have n0_ := Aside0.mk (Kd.N_lower ho16 (below_size (by repeat (first | (with_reducible first | exact HB.out | apply below_alloc | apply pw_below_drewN | apply below_drew1 | refine below_set ?_ GE169.out) | exact HB.out))))
                have n1_ := Aside0.mk (blk_below (g := gb169) (o := .cells #[.int .i64 2, .int .i64 1, .bool false, .slice Ao10 y166.length co10] 54 (0, 0)) (by (with_reducible repeat (first | refine blk_drewN ?_ _ | refine blk_drew ?_ | refine blk_alloc ?_ _)); exact BK169.out) hb)
                have n2_ := Aside0.mk (below_step (by repeat (first | (with_reducible first | exact HB.out | apply below_alloc | apply pw_below_drewN | apply below_drew1 | refine below_set ?_ GE169.out) | exact HB.out)) hb)
                have z_HO175 := fun (h0_ : b 5 = true) => (show TabC w15 v174 t173 from by first | exact (TabC.below (by (with_reducible repeat (first | apply TabC.alloc | apply TabC.drewN | apply TabC.drew)); exact (Q_HO175 h0_)) hb) | exact Kd.R_mono (TabC.below (by (with_reducible repeat (first | apply TabC.alloc | apply TabC.drewN | apply TabC.drew)); exact (Q_HO175 h0_)) hb) (fun _ h_ => by first | trivial | exact h_ | exact h_.1))
                clear BK169
                clear HB
                clear HO168
                have HO172 := n0_
                have BK169 := n1_
                have HB := n2_
                clear n0_ n1_ n2_
                clear hb ho16
                refine hK.out _ _ ⟨v171, v174, v177, m7_, (by rw [ha.out]; exact putSel_upk 3 hb_ rfl rfl rfl), fun h0_ => absurd ((up_self b 3).symm.trans h0_) (by decide), (by (with_reducible repeat (first | refine blk_drewN ?_ _ | refine blk_drew ?_ | refine blk_alloc ?_ _)); exact BK169.out), (by repeat (first | (with_reducible first | exact HB.out | apply below_alloc | apply pw_below_drewN | apply below_drew1 | refine below_set ?_ GE169.out) | exact HB.out)), fun _ => (by (with_reducible repeat (first | apply Kd.N_alloc | apply Kd.N_drewN | apply Kd.N_drew)); exact HO172.out), z_HO175, fun h0_ => absurd ((hoff 6 (by kernel_rfl)).symm.trans h0_) (by decide), fun h0_ => absurd ((hoff 7 (by kernel_rfl)).symm.trans h0_) (by decide)⟩
              refine steps_cons ?_ ?_
              · rintro b a w' ⟨v171, v174, v177, m7_, ha, Q_HO168, Q_BK169, Q_HB, Q_HO172, Q_HO175, Q_HO178, Q_X7_⟩ hb_ hon hoff
                refine ⟨_, rfl, fun K hK => ?_⟩
                replace ha := Aside0.mk ha
                have BK169 := Aside0.mk Q_BK169
                have HB := Aside0.mk Q_HB
                refine value_ (w1 := w') (v := .agg #[.int .i64 281474976710655, .int .i64 0, .bool false, .int .i64 0, .int .i64 0, .int .i64 2048, .string (⟨#[]⟩ : ByteArray)]) (by rfl) rfl ?_ ?_
                · go_simp
                  (try simp only [i64_w])
                  try rfl
                refine hK.out _ _ ⟨v171, v174, v177, m7_, (by rw [ha.out]; exact putSel_upk 4 hb_ rfl rfl rfl), Q_HO168, Q_BK169, Q_HB, Q_HO172, Q_HO175, fun h0_ => absurd ((hoff 6 (by kernel_rfl)).symm.trans h0_) (by decide), fun h0_ => absurd ((hoff 7 (by kernel_rfl)).symm.trans h0_) (by decide)⟩
              refine steps_cons ?_ ?_
              · rintro b a w' ⟨v171, v174, v177, m7_, ha, Q_HO168, Q_BK169, Q_HB, Q_HO172, Q_HO175, Q_HO178, Q_X7_⟩ hb_ hon hoff
                refine ⟨_, rfl, fun K hK => ?_⟩
                replace ha := Aside0.mk ha
                have BK169 := Aside0.mk Q_BK169
                have HB := Aside0.mk Q_HB
                refine goes_ Try.func28 (by kernel_rfl) rfl #[] (by rfl) rfl rfl (by first | (simp only [List.map_toArray, List.map_cons, List.map_nil, Act.eval, Array.getD_eq_getD_getElem?, Option.getD_some]; done) | (simp only [List.map_toArray, List.map_cons, List.map_nil, Act.eval, Array.getD_eq_getD_getElem?, Option.getD_some]; rfl)) ?_
                with_reducible refine (fdb_New.calls  t173 _ A1.out).mono ?_
                rintro e w15 ⟨v174, rfl, ho0, hb⟩
                refine ⟨_, rfl, ?_⟩
                have n1_ := Aside0.mk ho0
                have n2_ := Aside0.mk (blk_below (g := gb169) (o := .cells #[.int .i64 2, .int .i64 1, .bool false, .slice Ao10 y166.length co10] 54 (0, 0)) (by (with_reducible repeat (first | refine blk_drewN ?_ _ | refine blk_drew ?_ | refine blk_alloc ?_ _)); exact BK169.out) hb)
                have n3_ := Aside0.mk (below_step (by repeat (first | (with_reducible first | exact HB.out | apply below_alloc | apply pw_below_drewN | apply below_drew1 | refine below_set ?_ GE169.out) | exact HB.out)) hb)
                have z_HO168 := fun (h0_ : b 3 = false) => (show Kd.R (Kd.int .i64) 3 w15 w.heap.size (fun _ => True) (.slice Ao10 y166.length co10) y166 from by first | exact (Kd.R_below (by (with_reducible repeat (first | apply Kd.R_alloc | apply Kd.R_drewN | apply Kd.R_drew)); exact (Q_HO168 h0_)) hb) | exact Kd.R_mono (Kd.R_below (by (with_reducible repeat (first | apply Kd.R_alloc | apply Kd.R_drewN | apply Kd.R_drew)); exact (Q_HO168 h0_)) hb) (fun _ h_ => by first | trivial | exact h_ | exact h_.1))
                have z_HO172 := fun (h0_ : b 3 = true) => (show Kd.N k54 54 w15 w.heap.size (fun k_ => k_ ≠ gb169) v171 y170 from by first | exact (Kd.N_below (by (with_reducible repeat (first | apply Kd.N_alloc | apply Kd.N_drewN | apply Kd.N_drew)); exact (Q_HO172 h0_)) hb) | exact Kd.N_mono (Kd.N_below (by (with_reducible repeat (first | apply Kd.N_alloc | apply Kd.N_drewN | apply Kd.N_drew)); exact (Q_HO172 h0_)) hb) (fun _ h_ => by first | trivial | exact h_ | exact h_.1))
                clear BK169
                clear HB
                have HO175 := n1_
                have BK169 := n2_
                have HB := n3_
                clear n1_ n2_ n3_
                (try clear hb)
                (try clear hb2)
                (try clear hk)
                (try clear hi)
                (try clear ho0)
                refine hK.out _ _ ⟨v171, v174, v177, m7_, (by rw [ha.out]; exact putSel_upk 5 hb_ rfl rfl rfl), z_HO168, (by (with_reducible repeat (first | refine blk_drewN ?_ _ | refine blk_drew ?_ | refine blk_alloc ?_ _)); exact BK169.out), (by repeat (first | (with_reducible first | exact HB.out | apply below_alloc | apply pw_below_drewN | apply below_drew1 | refine below_set ?_ GE169.out) | exact HB.out)), z_HO172, fun _ => (by (with_reducible repeat (first | apply TabC.alloc | apply TabC.drewN | apply TabC.drew)); exact HO175.out), fun h0_ => absurd ((hoff 6 (by kernel_rfl)).symm.trans h0_) (by decide), fun h0_ => absurd ((hoff 7 (by kernel_rfl)).symm.trans h0_) (by decide)⟩
              refine steps_cons ?_ ?_
              · rintro b a w' ⟨v171, v174, v177, m7_, ha, Q_HO168, Q_BK169, Q_HB, Q_HO172, Q_HO175, Q_HO178, Q_X7_⟩ hb_ hon hoff
                refine ⟨_, rfl, fun K hK => ?_⟩
                have e8 : a.tmps[8]? = some (v171) := by rw [ha]; exact putSel_on (e := (3, 8, v171)) 3 rfl rfl (hon 3 (by kernel_rfl)) rfl
                have e9 : a.tmps[9]? = some (.agg #[.int .i64 281474976710655, .int .i64 0, .bool false, .int .i64 0, .int .i64 0, .int .i64 2048, .string (⟨#[]⟩ : ByteArray)]) := by rw [ha]; exact putSel_on (e := (4, 9, .agg #[.int .i64 281474976710655, .int .i64 0, .bool false, .int .i64 0, .int .i64 0, .int .i64 2048, .string (⟨#[]⟩ : ByteArray)])) 4 rfl rfl (hon 4 (by kernel_rfl)) rfl
                have e10 : a.tmps[10]? = some (v174) := by rw [ha]; exact putSel_on (e := (5, 10, v174)) 5 rfl rfl (hon 5 (by kernel_rfl)) rfl
                replace ha := Aside0.mk ha
                have BK169 := Aside0.mk Q_BK169
                have HB := Aside0.mk Q_HB
                have HO172 := Aside0.mk (Q_HO172 (hon 3 (by kernel_rfl)))
                have HO175 := Aside0.mk (Q_HO175 (hon 5 (by kernel_rfl)))
                obtain ⟨Ao19, co19, eo19⟩ := Kd.N_slice HO172.out
                (first | subst eo19 | (injection eo19 with f1_ f2_ f3_; have f4_ := f1_.symm; have f5_ := f3_.symm; clear f1_ f2_ f3_; subst f4_; subst f5_))
                refine goes_ Try.func27 (by kernel_rfl) rfl #[.slice Ao19 y170.length co19, .int .i64 1, .agg #[.int .i64 281474976710655, .int .i64 0, .bool false, .int .i64 0, .int .i64 0, .int .i64 2048, .string (⟨#[]⟩ : ByteArray)], v174] (by rfl) rfl rfl (by first | (simp only [List.map_toArray, List.map_cons, List.map_nil, Act.eval, Array.getD_eq_getD_getElem?, Option.getD_some, e8, e9, e10]; done) | (simp only [List.map_toArray, List.map_cons, List.map_nil, Act.eval, Array.getD_eq_getD_getElem?, Option.getD_some, e8, e9, e10]; rfl)) ?_
                with_reducible refine (relay_Relay.calls k _ _ y170 1 281474976710655 0 false 0 0 2048 (⟨#[]⟩ : ByteArray) _ t173 t176 _ ?side1 ?side2 ?side3 A2.out).mono ?_
                (case side1 => repeat (first | exact (Kd.N_reads' HO172.out).2.2 | (with_reducible refine Kd.C_alloc ?_ _) | (with_reducible refine Kd.C_drewN ?_ _) | (with_reducible refine Kd.C_drew ?_)))
                (case side2 => exact (Kd.N_reads' HO172.out).2.1)
                (case side3 => repeat (first | exact HO175.out | (with_reducible refine TabC.alloc ?_ _) | (with_reducible refine TabC.drewN ?_ _) | (with_reducible refine TabC.drew ?_)))
                rintro e w21 ⟨v177, rfl, ho0, hb⟩
                refine ⟨_, rfl, ?_⟩
                have n0_ := Aside0.mk (Kd.N_elder' (by (with_reducible repeat (first | apply Kd.N_alloc | apply Kd.N_drewN | apply Kd.N_drew)); exact HO172.out) (Kd.R_base ho0) hb)
                have n1_ := Aside0.mk (TabC.below (by (with_reducible repeat (first | apply TabC.alloc | apply TabC.drewN | apply TabC.drew)); exact HO175.out) hb)
                have n2_ := Aside0.mk (Kd.R_lower ho0 (below_size (by repeat (first | (with_reducible first | exact HB.out | apply below_alloc | apply pw_below_drewN | apply below_drew1 | refine below_set ?_ GE169.out) | exact HB.out))))
                have n3_ := Aside0.mk (blk_below (g := gb169) (o := .cells #[.int .i64 2, .int .i64 1, .bool false, .slice Ao10 y166.length co10] 54 (0, 0)) (by (with_reducible repeat (first | refine blk_drewN ?_ _ | refine blk_drew ?_ | refine blk_alloc ?_ _)); exact BK169.out) hb)
                have n4_ := Aside0.mk (below_step (by repeat (first | (with_reducible first | exact HB.out | apply below_alloc | apply pw_below_drewN | apply below_drew1 | refine below_set ?_ GE169.out) | exact HB.out)) hb)
                clear HO172
                clear HO175
                clear BK169
                clear HB
                have HO172 := n0_
                have HO175 := n1_
                have HO178 := n2_
                have BK169 := n3_
                have HB := n4_
                clear n0_ n1_ n2_ n3_ n4_
                (try clear hb)
                (try clear hb2)
                (try clear hk)
                (try clear hi)
                (try clear ho0)
                refine hK.out _ _ ⟨.slice Ao19 y170.length co19, v174, v177, m7_, (by rw [ha.out]; exact putSel_upk 6 hb_ rfl rfl rfl), fun h0_ => absurd ((hon 3 (by kernel_rfl)).symm.trans h0_) (by decide), (by (with_reducible repeat (first | refine blk_drewN ?_ _ | refine blk_drew ?_ | refine blk_alloc ?_ _)); exact BK169.out), (by repeat (first | (with_reducible first | exact HB.out | apply below_alloc | apply pw_below_drewN | apply below_drew1 | refine below_set ?_ GE169.out) | exact HB.out)), fun _ => (by (with_reducible repeat (first | apply Kd.N_alloc | apply Kd.N_drewN | apply Kd.N_drew)); exact Kd.N_mono HO172.out (fun _ hk => by first | exact hk | exact hk.1 | exact hk.1.1)), fun _ => (by (with_reducible repeat (first | apply TabC.alloc | apply TabC.drewN | apply TabC.drew)); exact HO175.out), fun _ => (by (with_reducible repeat (first | apply Kd.R_alloc | apply Kd.R_drewN | apply Kd.R_drew)); exact HO178.out), fun h0_ => absurd ((hoff 7 (by kernel_rfl)).symm.trans h0_) (by decide)⟩
              refine steps_cons ?_ ?_
              · rintro b a w' ⟨v171, v174, v177, m7_, ha, Q_HO168, Q_BK169, Q_HB, Q_HO172, Q_HO175, Q_HO178, Q_X7_⟩ hb_ hon hoff
                refine ⟨_, rfl, fun K hK => ?_⟩
                have e11 : a.tmps[11]? = some (v177) := by rw [ha]; exact putSel_on (e := (6, 11, v177)) 6 rfl rfl (hon 6 (by kernel_rfl)) rfl
                replace ha := Aside0.mk ha
                have BK169 := Aside0.mk Q_BK169
                have HB := Aside0.mk Q_HB
                have HO172 := Aside0.mk (Q_HO172 (hon 3 (by kernel_rfl)))
                have HO175 := Aside0.mk (Q_HO175 (hon 5 (by kernel_rfl)))
                have HO178 := Aside0.mk (Q_HO178 (hon 6 (by kernel_rfl)))
                refine value_ (w1 := w') (v := v177) (by rfl) rfl ?_ ?_
                · go_simp
                  (try simp only [i64_w])
                  try rfl
                refine hK.out _ _ ⟨v171, v174, v177, (v177), (by rw [ha.out]; exact putSel_upk 7 hb_ rfl rfl rfl), fun h0_ => absurd ((hon 3 (by kernel_rfl)).symm.trans h0_) (by decide), Q_BK169, Q_HB, Q_HO172, Q_HO175, Q_HO178, fun _ => rfl⟩
              exact steps_nil
            rintro b a w21 hall ⟨v171, v174, v177, m7_, ha, Q_HO168, Q_BK169, Q_HB, Q_HO172, Q_HO175, Q_HO178, Q_X7_⟩
            clear BK169 HB HO168
            have hb0_ := hall 0 (by kernel_rfl)
            have hb1_ := hall 1 (by kernel_rfl)
            have hb2_ := hall 2 (by kernel_rfl)
            have hb3_ := hall 3 (by kernel_rfl)
            have hb4_ := hall 4 (by kernel_rfl)
            have hb5_ := hall 5 (by kernel_rfl)
            have hb6_ := hall 6 (by kernel_rfl)
            have hb7_ := hall 7 (by kernel_rfl)
            subst ha
            obtain rfl := Q_X7_ hb7_
            simp only [putSel, hb0_, hb1_, hb2_, hb3_, hb4_, hb5_, hb6_, hb7_, if_true, Act.put, List.setIfInBounds_toArray, List.set_cons_zero, List.set_cons_succ]
            clear Q_HO168
            have BK169 := Aside0.mk Q_BK169
            clear Q_BK169
            have HB := Aside0.mk Q_HB
            clear Q_HB
            have HO172 := Aside0.mk (Q_HO172 hb3_)
            clear Q_HO172
            have HO175 := Aside0.mk (Q_HO175 hb5_)
            clear Q_HO175
            have HO178 := Aside0.mk (Q_HO178 hb6_)
            clear Q_HO178
            clear hall hb0_ hb1_ hb2_ hb3_ hb4_ hb5_ hb6_ hb7_
            obtain ⟨Ao22, co22, eo22⟩ := Kd.R_slice HO178.out
            subst eo22
            have p179 : 0 ≤ (0 : Int) := (by omega)
            have q179 : 0 < (t176.length : Int) := of_decide_eq_true (by first | (with_reducible assumption) | assumption)
            obtain ⟨ad179, e179, hx179_0, hx179_1, hx179_2, hx179_3, hx179_4, hx179_5, hx179_6, hx179_7⟩ := at_T63 (Kd.R_reads' HO178.out).2.2 0 p179 q179
            cases e179
            have qi179 : (0 < t176.length) = True := eq_true (by omega)
            (try rw [show ((0 : Int)).toNat = 0 from rfl] at hx179_0)
            (try rw [show 0 * 8 = 0 from rfl] at hx179_0)
            (try rw [Addr.add_zero'] at hx179_0)
            (try rw [show ((0 : Int)).toNat = 0 from rfl] at hx179_1)
            (try rw [show 0 * 8 = 0 from rfl] at hx179_1)
            (try rw [Addr.add_zero'] at hx179_1)
            (try rw [show ((0 : Int)).toNat = 0 from rfl] at hx179_2)
            (try rw [show 0 * 8 = 0 from rfl] at hx179_2)
            (try rw [Addr.add_zero'] at hx179_2)
            (try rw [show ((0 : Int)).toNat = 0 from rfl] at hx179_3)
            (try rw [show 0 * 8 = 0 from rfl] at hx179_3)
            (try rw [Addr.add_zero'] at hx179_3)
            (try rw [show ((0 : Int)).toNat = 0 from rfl] at hx179_4)
            (try rw [show 0 * 8 = 0 from rfl] at hx179_4)
            (try rw [Addr.add_zero'] at hx179_4)
            (try rw [show ((0 : Int)).toNat = 0 from rfl] at hx179_5)
            (try rw [show 0 * 8 = 0 from rfl] at hx179_5)
            (try rw [Addr.add_zero'] at hx179_5)
            (try rw [show ((0 : Int)).toNat = 0 from rfl] at hx179_6)
            (try rw [show 0 * 8 = 0 from rfl] at hx179_6)
            (try rw [Addr.add_zero'] at hx179_6)
            (try rw [show ((0 : Int)).toNat = 0 from rfl] at hx179_7)
            (try rw [show 0 * 8 = 0 from rfl] at hx179_7)
            (try rw [Addr.add_zero'] at hx179_7)
            replace p179 := eq_true p179
            replace q179 := eq_true q179
            have p180 : 0 ≤ (1 : Int) := (by omega)
            have q180 : 1 < (t176.length : Int) := of_decide_eq_true (by first | (with_reducible assumption) | assumption)
            obtain ⟨ad180, e180, hx180_0, hx180_1, hx180_2, hx180_3, hx180_4, hx180_5, hx180_6, hx180_7⟩ := at_T63 (Kd.R_reads' HO178.out).2.2 1 p180 q180
            obtain rfl : ad179 = ad180 := (by injection e180)
            (try simp only [show (1 : Int).toNat = 1 from rfl, Nat.reduceMul, Nat.reduceEqDiff, Go.Addr.add, ↓reduceIte] at hx180_0)
            (try simp only [show (1 : Int).toNat = 1 from rfl, Nat.reduceMul, Nat.reduceEqDiff, Go.Addr.add, ↓reduceIte] at hx180_1)
            (try simp only [show (1 : Int).toNat = 1 from rfl, Nat.reduceMul, Nat.reduceEqDiff, Go.Addr.add, ↓reduceIte] at hx180_2)
            (try simp only [show (1 : Int).toNat = 1 from rfl, Nat.reduceMul, Nat.reduceEqDiff, Go.Addr.add, ↓reduceIte] at hx180_3)
            (try simp only [show (1 : Int).toNat = 1 from rfl, Nat.reduceMul, Nat.reduceEqDiff, Go.Addr.add, ↓reduceIte] at hx180_4)
            (try simp only [show (1 : Int).toNat = 1 from rfl, Nat.reduceMul, Nat.reduceEqDiff, Go.Addr.add, ↓reduceIte] at hx180_5)
            (try simp only [show (1 : Int).toNat = 1 from rfl, Nat.reduceMul, Nat.reduceEqDiff, Go.Addr.add, ↓reduceIte] at hx180_6)
            (try simp only [show (1 : Int).toNat = 1 from rfl, Nat.reduceMul, Nat.reduceEqDiff, Go.Addr.add, ↓reduceIte] at hx180_7)
            have qi180 : (1 < t176.length) = True := eq_true (by omega)
            (try rw [show ((1 : Int)).toNat = 1 from rfl] at hx180_0)
            (try rw [show 1 * 8 = 8 from rfl] at hx180_0)
            (try rw [show ((1 : Int)).toNat = 1 from rfl] at hx180_1)
            (try rw [show 1 * 8 = 8 from rfl] at hx180_1)
            (try rw [show ((1 : Int)).toNat = 1 from rfl] at hx180_2)
            (try rw [show 1 * 8 = 8 from rfl] at hx180_2)
            (try rw [show ((1 : Int)).toNat = 1 from rfl] at hx180_3)
            (try rw [show 1 * 8 = 8 from rfl] at hx180_3)
            (try rw [show ((1 : Int)).toNat = 1 from rfl] at hx180_4)
            (try rw [show 1 * 8 = 8 from rfl] at hx180_4)
            (try rw [show ((1 : Int)).toNat = 1 from rfl] at hx180_5)
            (try rw [show 1 * 8 = 8 from rfl] at hx180_5)
            (try rw [show ((1 : Int)).toNat = 1 from rfl] at hx180_6)
            (try rw [show 1 * 8 = 8 from rfl] at hx180_6)
            (try rw [show ((1 : Int)).toNat = 1 from rfl] at hx180_7)
            (try rw [show 1 * 8 = 8 from rfl] at hx180_7)
            replace p180 := eq_true p180
            replace q180 := eq_true q180
            have p181 : 0 ≤ (0 : Int) := (by omega)
            have q181 : 0 < (t176.length : Int) := of_decide_eq_true (by first | (with_reducible assumption) | assumption)
            obtain ⟨ad181, e181, hx181_0, hx181_1, hx181_2, hx181_3, hx181_4, hx181_5, hx181_6, hx181_7⟩ := at_T63 (Kd.R_reads' HO178.out).2.2 0 p181 q181
            obtain rfl : ad179 = ad181 := (by injection e181)
            have qi181 : (0 < t176.length) = True := eq_true (by omega)
            (try rw [show ((0 : Int)).toNat = 0 from rfl] at hx181_0)
            (try rw [show 0 * 8 = 0 from rfl] at hx181_0)
            (try rw [Addr.add_zero'] at hx181_0)
            (try rw [show ((0 : Int)).toNat = 0 from rfl] at hx181_1)
            (try rw [show 0 * 8 = 0 from rfl] at hx181_1)
            (try rw [Addr.add_zero'] at hx181_1)
            (try rw [show ((0 : Int)).toNat = 0 from rfl] at hx181_2)
            (try rw [show 0 * 8 = 0 from rfl] at hx181_2)
            (try rw [Addr.add_zero'] at hx181_2)
            (try rw [show ((0 : Int)).toNat = 0 from rfl] at hx181_3)
            (try rw [show 0 * 8 = 0 from rfl] at hx181_3)
            (try rw [Addr.add_zero'] at hx181_3)
            (try rw [show ((0 : Int)).toNat = 0 from rfl] at hx181_4)
            (try rw [show 0 * 8 = 0 from rfl] at hx181_4)
            (try rw [Addr.add_zero'] at hx181_4)
            (try rw [show ((0 : Int)).toNat = 0 from rfl] at hx181_5)
            (try rw [show 0 * 8 = 0 from rfl] at hx181_5)
            (try rw [Addr.add_zero'] at hx181_5)
            (try rw [show ((0 : Int)).toNat = 0 from rfl] at hx181_6)
            (try rw [show 0 * 8 = 0 from rfl] at hx181_6)
            (try rw [Addr.add_zero'] at hx181_6)
            (try rw [show ((0 : Int)).toNat = 0 from rfl] at hx181_7)
            (try rw [show 0 * 8 = 0 from rfl] at hx181_7)
            (try rw [Addr.add_zero'] at hx181_7)
            replace p181 := eq_true p181
            replace q181 := eq_true q181
            try go_wp2
            go_ret
            exact ⟨by first | rfl | (simp [errW_none, errW_some] <;> rfl) | (simp [*, errW_none, errW_some] <;> rfl), by repeat (first | (with_reducible first | exact HB.out | apply below_alloc | apply pw_below_drewN | apply below_drew1 | refine below_set ?_ GE169.out) | exact HB.out)⟩
          · rw [if_neg c7] at H
            have c7b0 : (((rd_T63 t176 1).f0) == 2) = false := beq_eq_false_iff_ne.mpr c7
            have c7b1 : (((rd_T63 t176 1).f0) != 2) = true := bne_iff_ne.mpr c7
            obtain rfl := Option.some.inj H
            go_enter Try.func25, Try.ntmps25
            try go_wp2_with (first | ((with_reducible refine gate_dst (N := 3) rfl ?_); refine Kd.R_lit (Kd.int .i64) _ 3 ?hg (N := 3) ?hd (xs := ([1] : List Int)) (inner := [.int .i64 1]) (ok := fun _ => True) (okp := fun _ => True) ?hr ?hp (fun _ hk => hk) trivial (Below.refl _ _) (Nat.le_refl _) (by simp) ?_; (case hd => rfl); (case hg => rfl); (case hr => first | (go_simp; done) | (go_simp; rfl)); (case hp => exact (Reps.one (show Kd.M (Kd.int .i64) _ _ _ 1 [.int .i64 1] from rfl) (Reps.none _ _))); intro v167 w23 ho24 hb hg_ hnew_; clear hg_ hnew_; (first | rw [← Ny166.out] at ho24 | (simp only [Int.reduceToNat] at ho24; rw [← Ny166.out] at ho24)); have n0_ := Aside0.mk (Kd.R_lower ho24 (below_size (by repeat (first | (with_reducible first | exact HB.out | apply below_alloc | apply pw_below_drewN | apply below_drew1) | exact HB.out)))); have n1_ := Aside0.mk (below_step (by repeat (first | (with_reducible first | exact HB.out | apply below_alloc | apply pw_below_drewN | apply below_drew1) | exact HB.out)) hb); clear HB; have HO168 := n0_; have HB := n1_; clear n0_ n1_; clear hb ho24; obtain ⟨Ao25, co25, eo25⟩ := Kd.R_slice HO168.out; subst eo25) | ((with_reducible refine gate_dst (N := 1) rfl ?_); refine box_event ?hg (N := 1) ?hd (cs := #[.int .i64 0, .int .i64 0, .bool false, .slice none 0 0]) (t := 54) ?hr ?_; (case hd => rfl); (case hg => rfl); (case hr => first | (go_simp; done) | (go_simp; rfl)); intro gb169 hg w26 hbox hb; have n0_ := Aside0.mk (Kd.R_below (by (with_reducible repeat (first | apply Kd.R_alloc | apply Kd.R_drewN | apply Kd.R_drew)); exact HO168.out) hb); have n1_ := Aside0.mk (below_step (by repeat (first | (with_reducible first | exact HB.out | apply below_alloc | apply pw_below_drewN | apply below_drew1) | exact HB.out)) hb); have n2_ := Aside0.mk (hbox); have n3_ := Aside0.mk ((by rw [hg]; exact (below_size (by repeat (first | (with_reducible first | exact HB.out | apply below_alloc | apply pw_below_drewN | apply below_drew1) | exact HB.out))) : w.heap.size ≤ gb169)); have n4_ := Aside0.mk ((by rw [hg]; exact (below_size (by repeat (first | (with_reducible first | exact HB.out | apply below_alloc | apply pw_below_drewN | apply below_drew1) | exact HB.out))) : w.heap.size ≤ gb169)); clear HO168; clear HB; have HO168 := n0_; have HB := n1_; have BK169 := n2_; have GW169 := n3_; have GE169 := n4_; clear n0_ n1_ n2_ n3_ n4_; clear hb hbox hg; have hcz27_0 : w26.cell? ⟨gb169, 0, none⟩ = some (.int .i64 0) := (blk_cell BK169.out 0).trans rfl; have hcz27_1 : w26.cell? ⟨gb169, 1, none⟩ = some (.int .i64 0) := (blk_cell BK169.out 1).trans rfl; have hcz27_2 : w26.cell? ⟨gb169, 2, none⟩ = some (.bool false) := (blk_cell BK169.out 2).trans rfl; have hcz27_3 : w26.cell? ⟨gb169, 3, none⟩ = some (.slice none 0 0) := (blk_cell BK169.out 3).trans rfl; have hfz27_0 := blk_frozen BK169.out 0; have hfz27_1 := blk_frozen BK169.out 1; have hfz27_2 := blk_frozen BK169.out 2; have hfz27_3 := blk_frozen BK169.out 3))
            have n0_ : Aside0 (Kd.R (Kd.int .i64) 3 ((((w26.setCell ⟨gb169, 0, none⟩ (.int .i64 2)).setCell ⟨gb169, 1, none⟩ (.int .i64 1)).setCell ⟨gb169, 2, none⟩ (.bool false)).setCell ⟨gb169, 3, none⟩ (.slice Ao25 y166.length co25)) w.heap.size (fun _ => True) (.slice Ao25 y166.length co25) y166) := ⟨by (with_reducible repeat (first | apply Kd.R_alloc | apply Kd.R_drewN | apply Kd.R_drew)); exact Kd.R_mono (Kd.R_far (p := ⟨gb169, 3, none⟩) (Kd.R_far (p := ⟨gb169, 2, none⟩) (Kd.R_far (p := ⟨gb169, 1, none⟩) (Kd.R_far (p := ⟨gb169, 0, none⟩) (Kd.R_types HO168.out BK169.out (by decide)) (fun _ hk => hk.2) (.int .i64 2)) (fun _ hk => hk.2) (.int .i64 1)) (fun _ hk => hk.2) (.bool false)) (fun _ hk => hk.2) (.slice Ao25 y166.length co25)) (fun _ hk => trivial)⟩
            have n1_ : Aside0 (((((w26.setCell ⟨gb169, 0, none⟩ (.int .i64 2)).setCell ⟨gb169, 1, none⟩ (.int .i64 1)).setCell ⟨gb169, 2, none⟩ (.bool false)).setCell ⟨gb169, 3, none⟩ (.slice Ao25 y166.length co25)).heap[gb169]? = some (.cells #[.int .i64 2, .int .i64 1, .bool false, .slice Ao25 y166.length co25] 54 (0, 0))) := ⟨by (with_reducible repeat (first | refine blk_drewN ?_ _ | refine blk_drew ?_ | refine blk_alloc ?_ _)); refine blk_put (cs := #[.int .i64 2, .int .i64 1, .bool false, .slice none 0 0]) ?_ 3 _ rfl; (with_reducible repeat (first | refine blk_drewN ?_ _ | refine blk_drew ?_ | refine blk_alloc ?_ _)); refine blk_put (cs := #[.int .i64 2, .int .i64 1, .bool false, .slice none 0 0]) ?_ 2 _ rfl; (with_reducible repeat (first | refine blk_drewN ?_ _ | refine blk_drew ?_ | refine blk_alloc ?_ _)); refine blk_put (cs := #[.int .i64 2, .int .i64 0, .bool false, .slice none 0 0]) ?_ 1 _ rfl; (with_reducible repeat (first | refine blk_drewN ?_ _ | refine blk_drew ?_ | refine blk_alloc ?_ _)); refine blk_put (cs := #[.int .i64 0, .int .i64 0, .bool false, .slice none 0 0]) ?_ 0 _ rfl; (with_reducible repeat (first | refine blk_drewN ?_ _ | refine blk_drew ?_ | refine blk_alloc ?_ _)); exact BK169.out⟩
            have n2_ : Aside0 (Below w.heap.size w ((((w26.setCell ⟨gb169, 0, none⟩ (.int .i64 2)).setCell ⟨gb169, 1, none⟩ (.int .i64 1)).setCell ⟨gb169, 2, none⟩ (.bool false)).setCell ⟨gb169, 3, none⟩ (.slice Ao25 y166.length co25))) := ⟨by repeat (first | (with_reducible first | exact HB.out | apply below_alloc | apply pw_below_drewN | apply below_drew1 | refine below_set ?_ GE169.out) | exact HB.out)⟩
            (try clear HO168)
            (try clear BK169)
            (try clear HB)
            generalize ((((w26.setCell ⟨gb169, 0, none⟩ (.int .i64 2)).setCell ⟨gb169, 1, none⟩ (.int .i64 1)).setCell ⟨gb169, 2, none⟩ (.bool false)).setCell ⟨gb169, 3, none⟩ (.slice Ao25 y166.length co25)) = w28 at n0_ n1_ n2_ ⊢
            have HO168 := n0_
            have BK169 := n1_
            have HB := n2_
            clear n0_ n1_ n2_
            have n0_ := Aside0.mk (Kd.R_drew HO168.out)
            have n1_ := Aside0.mk (blk_drew BK169.out)
            have n2_ := Aside0.mk (below_drew1 HB.out)
            clear HO168
            clear BK169
            clear HB
            have HO168 := n0_
            have BK169 := n1_
            have HB := n2_
            clear n0_ n1_ n2_
            refine start_ (n := 8) (S := fun w' => True) (ds := []) #[false, false, false, false, false, false, false, false] (by kernel_rfl) rfl rfl trivial (fun hHeld => ?_); refine with_tabW kissgatelaw19_alive.tab2 kissgatelaw19_alive.bits2 (fun HT_ HW_ => ?_)
            generalize w28.drew = w29 at HO168 BK169 HB hHeld ⊢
            refine inv_at [0, 1, 2, 3, 4, 5, 6, 7] (fun a0_ b a w' => ∃ (v171 : Value) (v174 : Value) (v177 : Value) (m7_ : Value), a = putSel a0_ b [(0, 5, .agg #[.int .i64 2, .int .i64 1, .bool false, .slice Ao25 y166.length co25]), (1, 6, .agg #[.int .i64 2, .int .i64 1, .bool false, .slice Ao25 y166.length co25]), (2, 7, .agg #[.int .i64 2, .int .i64 1, .bool false, .slice Ao25 y166.length co25]), (3, 8, v171), (4, 9, .agg #[.int .i64 281474976710655, .int .i64 0, .bool false, .int .i64 0, .int .i64 0, .int .i64 2048, .string (⟨#[]⟩ : ByteArray)]), (5, 10, v174), (6, 11, v177), (7, 2, m7_)] ∧ (b 3 = false → Kd.R (Kd.int .i64) 3 w' w.heap.size (fun _ => True) (.slice Ao25 y166.length co25) y166) ∧ (w'.heap[gb169]? = some (.cells #[.int .i64 2, .int .i64 1, .bool false, .slice Ao25 y166.length co25] 54 (0, 0))) ∧ (Below w.heap.size w w') ∧ (b 3 = true → Kd.N k54 54 w' w.heap.size (fun k_ => k_ ≠ gb169) v171 y170) ∧ (b 5 = true → TabC w' v174 t173) ∧ (b 6 = true → Kd.R k63 63 w' w.heap.size (fun _ => True) v177 t176) ∧ (b 7 = true → (m7_ : Value) = v177)) HT_.out HW_.out (by kernel_rfl) (by kernel_rfl) ?_ ?_ ?_
            · exact ⟨.bool false, .bool false, .bool false, .bool false, by simp only [putSel, Bool.false_eq_true, if_false], fun _ => HO168.out, BK169.out, HB.out, fun h_ => absurd h_ (by decide), fun h_ => absurd h_ (by decide), fun h_ => absurd h_ (by decide), fun h_ => absurd h_ (by decide)⟩
            · skip
              clear BK169 HB HO168
              refine steps_cons ?_ ?_
              · rintro b a w' ⟨v171, v174, v177, m7_, ha, Q_HO168, Q_BK169, Q_HB, Q_HO172, Q_HO175, Q_HO178, Q_X7_⟩ hb_ hon hoff
                refine ⟨_, rfl, fun K hK => ?_⟩
                have e1 : a.tmps[1]? = some (.pointer (some ⟨gb169, 0, none⟩)) := by rw [ha]; exact (putSel_off rfl).trans rfl
                replace ha := Aside0.mk ha
                have HO168 := Aside0.mk (Q_HO168 (hoff 3 (by kernel_rfl)))
                have BK169 := Aside0.mk Q_BK169
                have HB := Aside0.mk Q_HB
                have hc0_ : w'.cell? ⟨gb169, 0, none⟩ = some (.int .i64 2) := (blk_cell BK169.out 0).trans rfl
                have hc1_ : w'.cell? ⟨gb169, 1, none⟩ = some (.int .i64 1) := (blk_cell BK169.out 1).trans rfl
                have hc2_ : w'.cell? ⟨gb169, 2, none⟩ = some (.bool false) := (blk_cell BK169.out 2).trans rfl
                have hc3_ : w'.cell? ⟨gb169, 3, none⟩ = some (.slice Ao25 y166.length co25) := (blk_cell BK169.out 3).trans rfl
                refine value_ (w1 := w') (v := .agg #[.int .i64 2, .int .i64 1, .bool false, .slice Ao25 y166.length co25]) (by rfl) rfl ?_ ?_
                · go_simp
                  (try simp only [i64_w])
                  try rfl
                refine hK.out _ _ ⟨v171, v174, v177, m7_, (by rw [ha.out]; exact putSel_upk 0 hb_ rfl rfl rfl), Q_HO168, Q_BK169, Q_HB, fun h0_ => absurd ((hoff 3 (by kernel_rfl)).symm.trans h0_) (by decide), Q_HO175, fun h0_ => absurd ((hoff 6 (by kernel_rfl)).symm.trans h0_) (by decide), fun h0_ => absurd ((hoff 7 (by kernel_rfl)).symm.trans h0_) (by decide)⟩
              refine steps_cons ?_ ?_
              · rintro b a w' ⟨v171, v174, v177, m7_, ha, Q_HO168, Q_BK169, Q_HB, Q_HO172, Q_HO175, Q_HO178, Q_X7_⟩ hb_ hon hoff
                refine ⟨_, rfl, fun K hK => ?_⟩
                have e1 : a.tmps[1]? = some (.pointer (some ⟨gb169, 0, none⟩)) := by rw [ha]; exact (putSel_off rfl).trans rfl
                replace ha := Aside0.mk ha
                have HO168 := Aside0.mk (Q_HO168 (hoff 3 (by kernel_rfl)))
                have BK169 := Aside0.mk Q_BK169
                have HB := Aside0.mk Q_HB
                have hc0_ : w'.cell? ⟨gb169, 0, none⟩ = some (.int .i64 2) := (blk_cell BK169.out 0).trans rfl
                have hc1_ : w'.cell? ⟨gb169, 1, none⟩ = some (.int .i64 1) := (blk_cell BK169.out 1).trans rfl
                have hc2_ : w'.cell? ⟨gb169, 2, none⟩ = some (.bool false) := (blk_cell BK169.out 2).trans rfl
                have hc3_ : w'.cell? ⟨gb169, 3, none⟩ = some (.slice Ao25 y166.length co25) := (blk_cell BK169.out 3).trans rfl
                refine value_ (w1 := w') (v := .agg #[.int .i64 2, .int .i64 1, .bool false, .slice Ao25 y166.length co25]) (by rfl) rfl ?_ ?_
                · go_simp
                  (try simp only [i64_w])
                  try rfl
                refine hK.out _ _ ⟨v171, v174, v177, m7_, (by rw [ha.out]; exact putSel_upk 1 hb_ rfl rfl rfl), Q_HO168, Q_BK169, Q_HB, fun h0_ => absurd ((hoff 3 (by kernel_rfl)).symm.trans h0_) (by decide), Q_HO175, fun h0_ => absurd ((hoff 6 (by kernel_rfl)).symm.trans h0_) (by decide), fun h0_ => absurd ((hoff 7 (by kernel_rfl)).symm.trans h0_) (by decide)⟩
              refine steps_cons ?_ ?_
              · rintro b a w' ⟨v171, v174, v177, m7_, ha, Q_HO168, Q_BK169, Q_HB, Q_HO172, Q_HO175, Q_HO178, Q_X7_⟩ hb_ hon hoff
                refine ⟨_, rfl, fun K hK => ?_⟩
                have e1 : a.tmps[1]? = some (.pointer (some ⟨gb169, 0, none⟩)) := by rw [ha]; exact (putSel_off rfl).trans rfl
                replace ha := Aside0.mk ha
                have HO168 := Aside0.mk (Q_HO168 (hoff 3 (by kernel_rfl)))
                have BK169 := Aside0.mk Q_BK169
                have HB := Aside0.mk Q_HB
                have hc0_ : w'.cell? ⟨gb169, 0, none⟩ = some (.int .i64 2) := (blk_cell BK169.out 0).trans rfl
                have hc1_ : w'.cell? ⟨gb169, 1, none⟩ = some (.int .i64 1) := (blk_cell BK169.out 1).trans rfl
                have hc2_ : w'.cell? ⟨gb169, 2, none⟩ = some (.bool false) := (blk_cell BK169.out 2).trans rfl
                have hc3_ : w'.cell? ⟨gb169, 3, none⟩ = some (.slice Ao25 y166.length co25) := (blk_cell BK169.out 3).trans rfl
                refine value_ (w1 := w') (v := .agg #[.int .i64 2, .int .i64 1, .bool false, .slice Ao25 y166.length co25]) (by rfl) rfl ?_ ?_
                · go_simp
                  (try simp only [i64_w])
                  try rfl
                refine hK.out _ _ ⟨v171, v174, v177, m7_, (by rw [ha.out]; exact putSel_upk 2 hb_ rfl rfl rfl), Q_HO168, Q_BK169, Q_HB, fun h0_ => absurd ((hoff 3 (by kernel_rfl)).symm.trans h0_) (by decide), Q_HO175, fun h0_ => absurd ((hoff 6 (by kernel_rfl)).symm.trans h0_) (by decide), fun h0_ => absurd ((hoff 7 (by kernel_rfl)).symm.trans h0_) (by decide)⟩
              refine steps_cons ?_ ?_
              · rintro b a w' ⟨v171, v174, v177, m7_, ha, Q_HO168, Q_BK169, Q_HB, Q_HO172, Q_HO175, Q_HO178, Q_X7_⟩ hb_ hon hoff
                refine ⟨_, rfl, fun K hK => ?_⟩
                have e5 : a.tmps[5]? = some (.agg #[.int .i64 2, .int .i64 1, .bool false, .slice Ao25 y166.length co25]) := by rw [ha]; exact putSel_on (e := (0, 5, .agg #[.int .i64 2, .int .i64 1, .bool false, .slice Ao25 y166.length co25])) 0 rfl rfl (hon 0 (by kernel_rfl)) rfl
                have e6 : a.tmps[6]? = some (.agg #[.int .i64 2, .int .i64 1, .bool false, .slice Ao25 y166.length co25]) := by rw [ha]; exact putSel_on (e := (1, 6, .agg #[.int .i64 2, .int .i64 1, .bool false, .slice Ao25 y166.length co25])) 1 rfl rfl (hon 1 (by kernel_rfl)) rfl
                have e7 : a.tmps[7]? = some (.agg #[.int .i64 2, .int .i64 1, .bool false, .slice Ao25 y166.length co25]) := by rw [ha]; exact putSel_on (e := (2, 7, .agg #[.int .i64 2, .int .i64 1, .bool false, .slice Ao25 y166.length co25])) 2 rfl rfl (hon 2 (by kernel_rfl)) rfl
                replace ha := Aside0.mk ha
                have HO168 := Aside0.mk (Q_HO168 hb_)
                have BK169 := Aside0.mk Q_BK169
                have HB := Aside0.mk Q_HB
                refine Kd.N_lit_step k54 _ 54 ?hg (N' := 8) ?hd (xs := ([(⟨2, 1, false, y166⟩ : S54), (⟨2, 1, false, y166⟩ : S54), (⟨2, 1, false, y166⟩ : S54)] : List (S54))) (inner := [.int .i64 2, .int .i64 1, .bool false, .slice Ao25 y166.length co25, .int .i64 2, .int .i64 1, .bool false, .slice Ao25 y166.length co25, .int .i64 2, .int .i64 1, .bool false, .slice Ao25 y166.length co25]) (ok := (fun k_ => k_ ≠ gb169)) (okp := (fun k_ => k_ ≠ gb169)) ?hr ?hp (fun _ hk => hk) ((show ∀ k_, w'.heap.size ≤ k_ → (fun k_ => k_ ≠ gb169) k_ from fun k_ hk => Kd.freshB (g := gb169) (o := .cells #[.int .i64 2, .int .i64 1, .bool false, .slice Ao25 y166.length co25] 54 (0, 0)) (by (with_reducible repeat (first | refine blk_drewN ?_ _ | refine blk_drew ?_ | refine blk_alloc ?_ _)); exact BK169.out) k_ hk) _ (Nat.le_refl _)) (Below.refl _ _) (Nat.le_refl _) (by simp) ?_; (case hd => rfl); (case hg => rfl); (case hr => first | (go_simp; done) | (go_simp; rfl)); (case hp => exact (Reps.c4 (show Kd.FK k54 _ _ (⟨2, 1, false, y166⟩ : S54) [.int .i64 2, .int .i64 1, .bool false, .slice Ao25 y166.length co25] from (k54_mkF _ _ (⟨2, 1, false, y166⟩ : S54) (Kd.R_reads' (Kd.R_mono (ok' := (fun k_ => k_ ≠ gb169)) (Kd.R_types (HO168.out) BK169.out (by decide)) (fun k_ hk => hk.2))).2.1 (Kd.R_F (Kd.R_mono (ok' := (fun k_ => k_ ≠ gb169)) (Kd.R_types (HO168.out) BK169.out (by decide)) (fun k_ hk => hk.2))))) (Reps.c4 (show Kd.FK k54 _ _ (⟨2, 1, false, y166⟩ : S54) [.int .i64 2, .int .i64 1, .bool false, .slice Ao25 y166.length co25] from (k54_mkF _ _ (⟨2, 1, false, y166⟩ : S54) (Kd.R_reads' (Kd.R_mono (ok' := (fun k_ => k_ ≠ gb169)) (Kd.R_types (HO168.out) BK169.out (by decide)) (fun k_ hk => hk.2))).2.1 (Kd.R_F (Kd.R_mono (ok' := (fun k_ => k_ ≠ gb169)) (Kd.R_types (HO168.out) BK169.out (by decide)) (fun k_ hk => hk.2))))) (Reps.c4 (show Kd.FK k54 _ _ (⟨2, 1, false, y166⟩ : S54) [.int .i64 2, .int .i64 1, .bool false, .slice Ao25 y166.length co25] from (k54_mkF _ _ (⟨2, 1, false, y166⟩ : S54) (Kd.R_reads' (Kd.R_mono (ok' := (fun k_ => k_ ≠ gb169)) (Kd.R_types (HO168.out) BK169.out (by decide)) (fun k_ hk => hk.2))).2.1 (Kd.R_F (Kd.R_mono (ok' := (fun k_ => k_ ≠ gb169)) (Kd.R_types (HO168.out) BK169.out (by decide)) (fun k_ hk => hk.2))))) (Reps.none _ _)))))
                intro v171 w30 ho31 hb hg_ hnew_
                clear hg_ hnew_
                (first | rw [← Ny170.out] at ho31 | (simp only [Int.reduceToNat] at ho31; rw [← Ny170.out] at ho31))
                have n0_ := Aside0.mk (Kd.N_lower ho31 (below_size (by repeat (first | (with_reducible first | exact HB.out | apply below_alloc | apply pw_below_drewN | apply below_drew1 | refine below_set ?_ GE169.out) | exact HB.out))))
                have n1_ := Aside0.mk (blk_below (g := gb169) (o := .cells #[.int .i64 2, .int .i64 1, .bool false, .slice Ao25 y166.length co25] 54 (0, 0)) (by (with_reducible repeat (first | refine blk_drewN ?_ _ | refine blk_drew ?_ | refine blk_alloc ?_ _)); exact BK169.out) hb)
                have n2_ := Aside0.mk (below_step (by repeat (first | (with_reducible first | exact HB.out | apply below_alloc | apply pw_below_drewN | apply below_drew1 | refine below_set ?_ GE169.out) | exact HB.out)) hb)
                have z_HO175 := fun (h0_ : b 5 = true) => (show TabC w30 v174 t173 from by first | exact (TabC.below (by (with_reducible repeat (first | apply TabC.alloc | apply TabC.drewN | apply TabC.drew)); exact (Q_HO175 h0_)) hb) | exact Kd.R_mono (TabC.below (by (with_reducible repeat (first | apply TabC.alloc | apply TabC.drewN | apply TabC.drew)); exact (Q_HO175 h0_)) hb) (fun _ h_ => by first | trivial | exact h_ | exact h_.1))
                clear BK169
                clear HB
                clear HO168
                have HO172 := n0_
                have BK169 := n1_
                have HB := n2_
                clear n0_ n1_ n2_
                clear hb ho31
                refine hK.out _ _ ⟨v171, v174, v177, m7_, (by rw [ha.out]; exact putSel_upk 3 hb_ rfl rfl rfl), fun h0_ => absurd ((up_self b 3).symm.trans h0_) (by decide), (by (with_reducible repeat (first | refine blk_drewN ?_ _ | refine blk_drew ?_ | refine blk_alloc ?_ _)); exact BK169.out), (by repeat (first | (with_reducible first | exact HB.out | apply below_alloc | apply pw_below_drewN | apply below_drew1 | refine below_set ?_ GE169.out) | exact HB.out)), fun _ => (by (with_reducible repeat (first | apply Kd.N_alloc | apply Kd.N_drewN | apply Kd.N_drew)); exact HO172.out), z_HO175, fun h0_ => absurd ((hoff 6 (by kernel_rfl)).symm.trans h0_) (by decide), fun h0_ => absurd ((hoff 7 (by kernel_rfl)).symm.trans h0_) (by decide)⟩
              refine steps_cons ?_ ?_
              · rintro b a w' ⟨v171, v174, v177, m7_, ha, Q_HO168, Q_BK169, Q_HB, Q_HO172, Q_HO175, Q_HO178, Q_X7_⟩ hb_ hon hoff
                refine ⟨_, rfl, fun K hK => ?_⟩
                replace ha := Aside0.mk ha
                have BK169 := Aside0.mk Q_BK169
                have HB := Aside0.mk Q_HB
                refine value_ (w1 := w') (v := .agg #[.int .i64 281474976710655, .int .i64 0, .bool false, .int .i64 0, .int .i64 0, .int .i64 2048, .string (⟨#[]⟩ : ByteArray)]) (by rfl) rfl ?_ ?_
                · go_simp
                  (try simp only [i64_w])
                  try rfl
                refine hK.out _ _ ⟨v171, v174, v177, m7_, (by rw [ha.out]; exact putSel_upk 4 hb_ rfl rfl rfl), Q_HO168, Q_BK169, Q_HB, Q_HO172, Q_HO175, fun h0_ => absurd ((hoff 6 (by kernel_rfl)).symm.trans h0_) (by decide), fun h0_ => absurd ((hoff 7 (by kernel_rfl)).symm.trans h0_) (by decide)⟩
              refine steps_cons ?_ ?_
              · rintro b a w' ⟨v171, v174, v177, m7_, ha, Q_HO168, Q_BK169, Q_HB, Q_HO172, Q_HO175, Q_HO178, Q_X7_⟩ hb_ hon hoff
                refine ⟨_, rfl, fun K hK => ?_⟩
                replace ha := Aside0.mk ha
                have BK169 := Aside0.mk Q_BK169
                have HB := Aside0.mk Q_HB
                refine goes_ Try.func28 (by kernel_rfl) rfl #[] (by rfl) rfl rfl (by first | (simp only [List.map_toArray, List.map_cons, List.map_nil, Act.eval, Array.getD_eq_getD_getElem?, Option.getD_some]; done) | (simp only [List.map_toArray, List.map_cons, List.map_nil, Act.eval, Array.getD_eq_getD_getElem?, Option.getD_some]; rfl)) ?_
                with_reducible refine (fdb_New.calls  t173 _ A1.out).mono ?_
                rintro e w30 ⟨v174, rfl, ho0, hb⟩
                refine ⟨_, rfl, ?_⟩
                have n1_ := Aside0.mk ho0
                have n2_ := Aside0.mk (blk_below (g := gb169) (o := .cells #[.int .i64 2, .int .i64 1, .bool false, .slice Ao25 y166.length co25] 54 (0, 0)) (by (with_reducible repeat (first | refine blk_drewN ?_ _ | refine blk_drew ?_ | refine blk_alloc ?_ _)); exact BK169.out) hb)
                have n3_ := Aside0.mk (below_step (by repeat (first | (with_reducible first | exact HB.out | apply below_alloc | apply pw_below_drewN | apply below_drew1 | refine below_set ?_ GE169.out) | exact HB.out)) hb)
                have z_HO168 := fun (h0_ : b 3 = false) => (show Kd.R (Kd.int .i64) 3 w30 w.heap.size (fun _ => True) (.slice Ao25 y166.length co25) y166 from by first | exact (Kd.R_below (by (with_reducible repeat (first | apply Kd.R_alloc | apply Kd.R_drewN | apply Kd.R_drew)); exact (Q_HO168 h0_)) hb) | exact Kd.R_mono (Kd.R_below (by (with_reducible repeat (first | apply Kd.R_alloc | apply Kd.R_drewN | apply Kd.R_drew)); exact (Q_HO168 h0_)) hb) (fun _ h_ => by first | trivial | exact h_ | exact h_.1))
                have z_HO172 := fun (h0_ : b 3 = true) => (show Kd.N k54 54 w30 w.heap.size (fun k_ => k_ ≠ gb169) v171 y170 from by first | exact (Kd.N_below (by (with_reducible repeat (first | apply Kd.N_alloc | apply Kd.N_drewN | apply Kd.N_drew)); exact (Q_HO172 h0_)) hb) | exact Kd.N_mono (Kd.N_below (by (with_reducible repeat (first | apply Kd.N_alloc | apply Kd.N_drewN | apply Kd.N_drew)); exact (Q_HO172 h0_)) hb) (fun _ h_ => by first | trivial | exact h_ | exact h_.1))
                clear BK169
                clear HB
                have HO175 := n1_
                have BK169 := n2_
                have HB := n3_
                clear n1_ n2_ n3_
                (try clear hb)
                (try clear hb2)
                (try clear hk)
                (try clear hi)
                (try clear ho0)
                refine hK.out _ _ ⟨v171, v174, v177, m7_, (by rw [ha.out]; exact putSel_upk 5 hb_ rfl rfl rfl), z_HO168, (by (with_reducible repeat (first | refine blk_drewN ?_ _ | refine blk_drew ?_ | refine blk_alloc ?_ _)); exact BK169.out), (by repeat (first | (with_reducible first | exact HB.out | apply below_alloc | apply pw_below_drewN | apply below_drew1 | refine below_set ?_ GE169.out) | exact HB.out)), z_HO172, fun _ => (by (with_reducible repeat (first | apply TabC.alloc | apply TabC.drewN | apply TabC.drew)); exact HO175.out), fun h0_ => absurd ((hoff 6 (by kernel_rfl)).symm.trans h0_) (by decide), fun h0_ => absurd ((hoff 7 (by kernel_rfl)).symm.trans h0_) (by decide)⟩
              refine steps_cons ?_ ?_
              · rintro b a w' ⟨v171, v174, v177, m7_, ha, Q_HO168, Q_BK169, Q_HB, Q_HO172, Q_HO175, Q_HO178, Q_X7_⟩ hb_ hon hoff
                refine ⟨_, rfl, fun K hK => ?_⟩
                have e8 : a.tmps[8]? = some (v171) := by rw [ha]; exact putSel_on (e := (3, 8, v171)) 3 rfl rfl (hon 3 (by kernel_rfl)) rfl
                have e9 : a.tmps[9]? = some (.agg #[.int .i64 281474976710655, .int .i64 0, .bool false, .int .i64 0, .int .i64 0, .int .i64 2048, .string (⟨#[]⟩ : ByteArray)]) := by rw [ha]; exact putSel_on (e := (4, 9, .agg #[.int .i64 281474976710655, .int .i64 0, .bool false, .int .i64 0, .int .i64 0, .int .i64 2048, .string (⟨#[]⟩ : ByteArray)])) 4 rfl rfl (hon 4 (by kernel_rfl)) rfl
                have e10 : a.tmps[10]? = some (v174) := by rw [ha]; exact putSel_on (e := (5, 10, v174)) 5 rfl rfl (hon 5 (by kernel_rfl)) rfl
                replace ha := Aside0.mk ha
                have BK169 := Aside0.mk Q_BK169
                have HB := Aside0.mk Q_HB
                have HO172 := Aside0.mk (Q_HO172 (hon 3 (by kernel_rfl)))
                have HO175 := Aside0.mk (Q_HO175 (hon 5 (by kernel_rfl)))
                obtain ⟨Ao34, co34, eo34⟩ := Kd.N_slice HO172.out
                (first | subst eo34 | (injection eo34 with f1_ f2_ f3_; have f4_ := f1_.symm; have f5_ := f3_.symm; clear f1_ f2_ f3_; subst f4_; subst f5_))
                refine goes_ Try.func27 (by kernel_rfl) rfl #[.slice Ao34 y170.length co34, .int .i64 1, .agg #[.int .i64 281474976710655, .int .i64 0, .bool false, .int .i64 0, .int .i64 0, .int .i64 2048, .string (⟨#[]⟩ : ByteArray)], v174] (by rfl) rfl rfl (by first | (simp only [List.map_toArray, List.map_cons, List.map_nil, Act.eval, Array.getD_eq_getD_getElem?, Option.getD_some, e8, e9, e10]; done) | (simp only [List.map_toArray, List.map_cons, List.map_nil, Act.eval, Array.getD_eq_getD_getElem?, Option.getD_some, e8, e9, e10]; rfl)) ?_
                with_reducible refine (relay_Relay.calls k _ _ y170 1 281474976710655 0 false 0 0 2048 (⟨#[]⟩ : ByteArray) _ t173 t176 _ ?side1 ?side2 ?side3 A2.out).mono ?_
                (case side1 => repeat (first | exact (Kd.N_reads' HO172.out).2.2 | (with_reducible refine Kd.C_alloc ?_ _) | (with_reducible refine Kd.C_drewN ?_ _) | (with_reducible refine Kd.C_drew ?_)))
                (case side2 => exact (Kd.N_reads' HO172.out).2.1)
                (case side3 => repeat (first | exact HO175.out | (with_reducible refine TabC.alloc ?_ _) | (with_reducible refine TabC.drewN ?_ _) | (with_reducible refine TabC.drew ?_)))
                rintro e w36 ⟨v177, rfl, ho0, hb⟩
                refine ⟨_, rfl, ?_⟩
                have n0_ := Aside0.mk (Kd.N_elder' (by (with_reducible repeat (first | apply Kd.N_alloc | apply Kd.N_drewN | apply Kd.N_drew)); exact HO172.out) (Kd.R_base ho0) hb)
                have n1_ := Aside0.mk (TabC.below (by (with_reducible repeat (first | apply TabC.alloc | apply TabC.drewN | apply TabC.drew)); exact HO175.out) hb)
                have n2_ := Aside0.mk (Kd.R_lower ho0 (below_size (by repeat (first | (with_reducible first | exact HB.out | apply below_alloc | apply pw_below_drewN | apply below_drew1 | refine below_set ?_ GE169.out) | exact HB.out))))
                have n3_ := Aside0.mk (blk_below (g := gb169) (o := .cells #[.int .i64 2, .int .i64 1, .bool false, .slice Ao25 y166.length co25] 54 (0, 0)) (by (with_reducible repeat (first | refine blk_drewN ?_ _ | refine blk_drew ?_ | refine blk_alloc ?_ _)); exact BK169.out) hb)
                have n4_ := Aside0.mk (below_step (by repeat (first | (with_reducible first | exact HB.out | apply below_alloc | apply pw_below_drewN | apply below_drew1 | refine below_set ?_ GE169.out) | exact HB.out)) hb)
                clear HO172
                clear HO175
                clear BK169
                clear HB
                have HO172 := n0_
                have HO175 := n1_
                have HO178 := n2_
                have BK169 := n3_
                have HB := n4_
                clear n0_ n1_ n2_ n3_ n4_
                (try clear hb)
                (try clear hb2)
                (try clear hk)
                (try clear hi)
                (try clear ho0)
                refine hK.out _ _ ⟨.slice Ao34 y170.length co34, v174, v177, m7_, (by rw [ha.out]; exact putSel_upk 6 hb_ rfl rfl rfl), fun h0_ => absurd ((hon 3 (by kernel_rfl)).symm.trans h0_) (by decide), (by (with_reducible repeat (first | refine blk_drewN ?_ _ | refine blk_drew ?_ | refine blk_alloc ?_ _)); exact BK169.out), (by repeat (first | (with_reducible first | exact HB.out | apply below_alloc | apply pw_below_drewN | apply below_drew1 | refine below_set ?_ GE169.out) | exact HB.out)), fun _ => (by (with_reducible repeat (first | apply Kd.N_alloc | apply Kd.N_drewN | apply Kd.N_drew)); exact Kd.N_mono HO172.out (fun _ hk => by first | exact hk | exact hk.1 | exact hk.1.1)), fun _ => (by (with_reducible repeat (first | apply TabC.alloc | apply TabC.drewN | apply TabC.drew)); exact HO175.out), fun _ => (by (with_reducible repeat (first | apply Kd.R_alloc | apply Kd.R_drewN | apply Kd.R_drew)); exact HO178.out), fun h0_ => absurd ((hoff 7 (by kernel_rfl)).symm.trans h0_) (by decide)⟩
              refine steps_cons ?_ ?_
              · rintro b a w' ⟨v171, v174, v177, m7_, ha, Q_HO168, Q_BK169, Q_HB, Q_HO172, Q_HO175, Q_HO178, Q_X7_⟩ hb_ hon hoff
                refine ⟨_, rfl, fun K hK => ?_⟩
                have e11 : a.tmps[11]? = some (v177) := by rw [ha]; exact putSel_on (e := (6, 11, v177)) 6 rfl rfl (hon 6 (by kernel_rfl)) rfl
                replace ha := Aside0.mk ha
                have BK169 := Aside0.mk Q_BK169
                have HB := Aside0.mk Q_HB
                have HO172 := Aside0.mk (Q_HO172 (hon 3 (by kernel_rfl)))
                have HO175 := Aside0.mk (Q_HO175 (hon 5 (by kernel_rfl)))
                have HO178 := Aside0.mk (Q_HO178 (hon 6 (by kernel_rfl)))
                refine value_ (w1 := w') (v := v177) (by rfl) rfl ?_ ?_
                · go_simp
                  (try simp only [i64_w])
                  try rfl
                refine hK.out _ _ ⟨v171, v174, v177, (v177), (by rw [ha.out]; exact putSel_upk 7 hb_ rfl rfl rfl), fun h0_ => absurd ((hon 3 (by kernel_rfl)).symm.trans h0_) (by decide), Q_BK169, Q_HB, Q_HO172, Q_HO175, Q_HO178, fun _ => rfl⟩
              exact steps_nil
            rintro b a w36 hall ⟨v171, v174, v177, m7_, ha, Q_HO168, Q_BK169, Q_HB, Q_HO172, Q_HO175, Q_HO178, Q_X7_⟩
            clear BK169 HB HO168
            have hb0_ := hall 0 (by kernel_rfl)
            have hb1_ := hall 1 (by kernel_rfl)
            have hb2_ := hall 2 (by kernel_rfl)
            have hb3_ := hall 3 (by kernel_rfl)
            have hb4_ := hall 4 (by kernel_rfl)
            have hb5_ := hall 5 (by kernel_rfl)
            have hb6_ := hall 6 (by kernel_rfl)
            have hb7_ := hall 7 (by kernel_rfl)
            subst ha
            obtain rfl := Q_X7_ hb7_
            simp only [putSel, hb0_, hb1_, hb2_, hb3_, hb4_, hb5_, hb6_, hb7_, if_true, Act.put, List.setIfInBounds_toArray, List.set_cons_zero, List.set_cons_succ]
            clear Q_HO168
            have BK169 := Aside0.mk Q_BK169
            clear Q_BK169
            have HB := Aside0.mk Q_HB
            clear Q_HB
            have HO172 := Aside0.mk (Q_HO172 hb3_)
            clear Q_HO172
            have HO175 := Aside0.mk (Q_HO175 hb5_)
            clear Q_HO175
            have HO178 := Aside0.mk (Q_HO178 hb6_)
            clear Q_HO178
            clear hall hb0_ hb1_ hb2_ hb3_ hb4_ hb5_ hb6_ hb7_
            obtain ⟨Ao37, co37, eo37⟩ := Kd.R_slice HO178.out
            subst eo37
            have p179 : 0 ≤ (0 : Int) := (by omega)
            have q179 : 0 < (t176.length : Int) := of_decide_eq_true (by first | (with_reducible assumption) | assumption)
            obtain ⟨ad179, e179, hx179_0, hx179_1, hx179_2, hx179_3, hx179_4, hx179_5, hx179_6, hx179_7⟩ := at_T63 (Kd.R_reads' HO178.out).2.2 0 p179 q179
            cases e179
            have qi179 : (0 < t176.length) = True := eq_true (by omega)
            (try rw [show ((0 : Int)).toNat = 0 from rfl] at hx179_0)
            (try rw [show 0 * 8 = 0 from rfl] at hx179_0)
            (try rw [Addr.add_zero'] at hx179_0)
            (try rw [show ((0 : Int)).toNat = 0 from rfl] at hx179_1)
            (try rw [show 0 * 8 = 0 from rfl] at hx179_1)
            (try rw [Addr.add_zero'] at hx179_1)
            (try rw [show ((0 : Int)).toNat = 0 from rfl] at hx179_2)
            (try rw [show 0 * 8 = 0 from rfl] at hx179_2)
            (try rw [Addr.add_zero'] at hx179_2)
            (try rw [show ((0 : Int)).toNat = 0 from rfl] at hx179_3)
            (try rw [show 0 * 8 = 0 from rfl] at hx179_3)
            (try rw [Addr.add_zero'] at hx179_3)
            (try rw [show ((0 : Int)).toNat = 0 from rfl] at hx179_4)
            (try rw [show 0 * 8 = 0 from rfl] at hx179_4)
            (try rw [Addr.add_zero'] at hx179_4)
            (try rw [show ((0 : Int)).toNat = 0 from rfl] at hx179_5)
            (try rw [show 0 * 8 = 0 from rfl] at hx179_5)
            (try rw [Addr.add_zero'] at hx179_5)
            (try rw [show ((0 : Int)).toNat = 0 from rfl] at hx179_6)
            (try rw [show 0 * 8 = 0 from rfl] at hx179_6)
            (try rw [Addr.add_zero'] at hx179_6)
            (try rw [show ((0 : Int)).toNat = 0 from rfl] at hx179_7)
            (try rw [show 0 * 8 = 0 from rfl] at hx179_7)
            (try rw [Addr.add_zero'] at hx179_7)
            replace p179 := eq_true p179
            replace q179 := eq_true q179
            have p180 : 0 ≤ (1 : Int) := (by omega)
            have q180 : 1 < (t176.length : Int) := of_decide_eq_true (by first | (with_reducible assumption) | assumption)
            obtain ⟨ad180, e180, hx180_0, hx180_1, hx180_2, hx180_3, hx180_4, hx180_5, hx180_6, hx180_7⟩ := at_T63 (Kd.R_reads' HO178.out).2.2 1 p180 q180
            obtain rfl : ad179 = ad180 := (by injection e180)
            (try simp only [show (1 : Int).toNat = 1 from rfl, Nat.reduceMul, Nat.reduceEqDiff, Go.Addr.add, ↓reduceIte] at hx180_0)
            (try simp only [show (1 : Int).toNat = 1 from rfl, Nat.reduceMul, Nat.reduceEqDiff, Go.Addr.add, ↓reduceIte] at hx180_1)
            (try simp only [show (1 : Int).toNat = 1 from rfl, Nat.reduceMul, Nat.reduceEqDiff, Go.Addr.add, ↓reduceIte] at hx180_2)
            (try simp only [show (1 : Int).toNat = 1 from rfl, Nat.reduceMul, Nat.reduceEqDiff, Go.Addr.add, ↓reduceIte] at hx180_3)
            (try simp only [show (1 : Int).toNat = 1 from rfl, Nat.reduceMul, Nat.reduceEqDiff, Go.Addr.add, ↓reduceIte] at hx180_4)
            (try simp only [show (1 : Int).toNat = 1 from rfl, Nat.reduceMul, Nat.reduceEqDiff, Go.Addr.add, ↓reduceIte] at hx180_5)
            (try simp only [show (1 : Int).toNat = 1 from rfl, Nat.reduceMul, Nat.reduceEqDiff, Go.Addr.add, ↓reduceIte] at hx180_6)
            (try simp only [show (1 : Int).toNat = 1 from rfl, Nat.reduceMul, Nat.reduceEqDiff, Go.Addr.add, ↓reduceIte] at hx180_7)
            have qi180 : (1 < t176.length) = True := eq_true (by omega)
            (try rw [show ((1 : Int)).toNat = 1 from rfl] at hx180_0)
            (try rw [show 1 * 8 = 8 from rfl] at hx180_0)
            (try rw [show ((1 : Int)).toNat = 1 from rfl] at hx180_1)
            (try rw [show 1 * 8 = 8 from rfl] at hx180_1)
            (try rw [show ((1 : Int)).toNat = 1 from rfl] at hx180_2)
            (try rw [show 1 * 8 = 8 from rfl] at hx180_2)
            (try rw [show ((1 : Int)).toNat = 1 from rfl] at hx180_3)
            (try rw [show 1 * 8 = 8 from rfl] at hx180_3)
            (try rw [show ((1 : Int)).toNat = 1 from rfl] at hx180_4)
            (try rw [show 1 * 8 = 8 from rfl] at hx180_4)
            (try rw [show ((1 : Int)).toNat = 1 from rfl] at hx180_5)
            (try rw [show 1 * 8 = 8 from rfl] at hx180_5)
            (try rw [show ((1 : Int)).toNat = 1 from rfl] at hx180_6)
            (try rw [show 1 * 8 = 8 from rfl] at hx180_6)
            (try rw [show ((1 : Int)).toNat = 1 from rfl] at hx180_7)
            (try rw [show 1 * 8 = 8 from rfl] at hx180_7)
            replace p180 := eq_true p180
            replace q180 := eq_true q180
            try go_wp2
            go_ret
            exact ⟨by first | rfl | (simp [errW_none, errW_some] <;> rfl) | (simp [*, errW_none, errW_some] <;> rfl), by repeat (first | (with_reducible first | exact HB.out | apply below_alloc | apply pw_below_drewN | apply below_drew1 | refine below_set ?_ GE169.out) | exact HB.out)⟩
        · rw [if_neg c6] at H
          exact absurd H (by simp)
      · rw [if_neg c5] at H
        have c5b0 : (((rd_T63 t176 0).f0) == 0) = false := beq_eq_false_iff_ne.mpr c5
        have c5b1 : (((rd_T63 t176 0).f0) != 0) = true := bne_iff_ne.mpr c5
        obtain rfl := Option.some.inj H
        go_enter Try.func25, Try.ntmps25
        try go_wp2_with (first | ((with_reducible refine gate_dst (N := 3) rfl ?_); refine Kd.R_lit (Kd.int .i64) _ 3 ?hg (N := 3) ?hd (xs := ([1] : List Int)) (inner := [.int .i64 1]) (ok := fun _ => True) (okp := fun _ => True) ?hr ?hp (fun _ hk => hk) trivial (Below.refl _ _) (Nat.le_refl _) (by simp) ?_; (case hd => rfl); (case hg => rfl); (case hr => first | (go_simp; done) | (go_simp; rfl)); (case hp => exact (Reps.one (show Kd.M (Kd.int .i64) _ _ _ 1 [.int .i64 1] from rfl) (Reps.none _ _))); intro v167 w38 ho39 hb hg_ hnew_; clear hg_ hnew_; (first | rw [← Ny166.out] at ho39 | (simp only [Int.reduceToNat] at ho39; rw [← Ny166.out] at ho39)); have n0_ := Aside0.mk (Kd.R_lower ho39 (below_size (by repeat (first | (with_reducible first | exact HB.out | apply below_alloc | apply pw_below_drewN | apply below_drew1) | exact HB.out)))); have n1_ := Aside0.mk (below_step (by repeat (first | (with_reducible first | exact HB.out | apply below_alloc | apply pw_below_drewN | apply below_drew1) | exact HB.out)) hb); clear HB; have HO168 := n0_; have HB := n1_; clear n0_ n1_; clear hb ho39; obtain ⟨Ao40, co40, eo40⟩ := Kd.R_slice HO168.out; subst eo40) | ((with_reducible refine gate_dst (N := 1) rfl ?_); refine box_event ?hg (N := 1) ?hd (cs := #[.int .i64 0, .int .i64 0, .bool false, .slice none 0 0]) (t := 54) ?hr ?_; (case hd => rfl); (case hg => rfl); (case hr => first | (go_simp; done) | (go_simp; rfl)); intro gb169 hg w41 hbox hb; have n0_ := Aside0.mk (Kd.R_below (by (with_reducible repeat (first | apply Kd.R_alloc | apply Kd.R_drewN | apply Kd.R_drew)); exact HO168.out) hb); have n1_ := Aside0.mk (below_step (by repeat (first | (with_reducible first | exact HB.out | apply below_alloc | apply pw_below_drewN | apply below_drew1) | exact HB.out)) hb); have n2_ := Aside0.mk (hbox); have n3_ := Aside0.mk ((by rw [hg]; exact (below_size (by repeat (first | (with_reducible first | exact HB.out | apply below_alloc | apply pw_below_drewN | apply below_drew1) | exact HB.out))) : w.heap.size ≤ gb169)); have n4_ := Aside0.mk ((by rw [hg]; exact (below_size (by repeat (first | (with_reducible first | exact HB.out | apply below_alloc | apply pw_below_drewN | apply below_drew1) | exact HB.out))) : w.heap.size ≤ gb169)); clear HO168; clear HB; have HO168 := n0_; have HB := n1_; have BK169 := n2_; have GW169 := n3_; have GE169 := n4_; clear n0_ n1_ n2_ n3_ n4_; clear hb hbox hg; have hcz42_0 : w41.cell? ⟨gb169, 0, none⟩ = some (.int .i64 0) := (blk_cell BK169.out 0).trans rfl; have hcz42_1 : w41.cell? ⟨gb169, 1, none⟩ = some (.int .i64 0) := (blk_cell BK169.out 1).trans rfl; have hcz42_2 : w41.cell? ⟨gb169, 2, none⟩ = some (.bool false) := (blk_cell BK169.out 2).trans rfl; have hcz42_3 : w41.cell? ⟨gb169, 3, none⟩ = some (.slice none 0 0) := (blk_cell BK169.out 3).trans rfl; have hfz42_0 := blk_frozen BK169.out 0; have hfz42_1 := blk_frozen BK169.out 1; have hfz42_2 := blk_frozen BK169.out 2; have hfz42_3 := blk_frozen BK169.out 3))
        have n0_ : Aside0 (Kd.R (Kd.int .i64) 3 ((((w41.setCell ⟨gb169, 0, none⟩ (.int .i64 2)).setCell ⟨gb169, 1, none⟩ (.int .i64 1)).setCell ⟨gb169, 2, none⟩ (.bool false)).setCell ⟨gb169, 3, none⟩ (.slice Ao40 y166.length co40)) w.heap.size (fun _ => True) (.slice Ao40 y166.length co40) y166) := ⟨by (with_reducible repeat (first | apply Kd.R_alloc | apply Kd.R_drewN | apply Kd.R_drew)); exact Kd.R_mono (Kd.R_far (p := ⟨gb169, 3, none⟩) (Kd.R_far (p := ⟨gb169, 2, none⟩) (Kd.R_far (p := ⟨gb169, 1, none⟩) (Kd.R_far (p := ⟨gb169, 0, none⟩) (Kd.R_types HO168.out BK169.out (by decide)) (fun _ hk => hk.2) (.int .i64 2)) (fun _ hk => hk.2) (.int .i64 1)) (fun _ hk => hk.2) (.bool false)) (fun _ hk => hk.2) (.slice Ao40 y166.length co40)) (fun _ hk => trivial)⟩
        have n1_ : Aside0 (((((w41.setCell ⟨gb169, 0, none⟩ (.int .i64 2)).setCell ⟨gb169, 1, none⟩ (.int .i64 1)).setCell ⟨gb169, 2, none⟩ (.bool false)).setCell ⟨gb169, 3, none⟩ (.slice Ao40 y166.length co40)).heap[gb169]? = some (.cells #[.int .i64 2, .int .i64 1, .bool false, .slice Ao40 y166.length co40] 54 (0, 0))) := ⟨by (with_reducible repeat (first | refine blk_drewN ?_ _ | refine blk_drew ?_ | refine blk_alloc ?_ _)); refine blk_put (cs := #[.int .i64 2, .int .i64 1, .bool false, .slice none 0 0]) ?_ 3 _ rfl; (with_reducible repeat (first | refine blk_drewN ?_ _ | refine blk_drew ?_ | refine blk_alloc ?_ _)); refine blk_put (cs := #[.int .i64 2, .int .i64 1, .bool false, .slice none 0 0]) ?_ 2 _ rfl; (with_reducible repeat (first | refine blk_drewN ?_ _ | refine blk_drew ?_ | refine blk_alloc ?_ _)); refine blk_put (cs := #[.int .i64 2, .int .i64 0, .bool false, .slice none 0 0]) ?_ 1 _ rfl; (with_reducible repeat (first | refine blk_drewN ?_ _ | refine blk_drew ?_ | refine blk_alloc ?_ _)); refine blk_put (cs := #[.int .i64 0, .int .i64 0, .bool false, .slice none 0 0]) ?_ 0 _ rfl; (with_reducible repeat (first | refine blk_drewN ?_ _ | refine blk_drew ?_ | refine blk_alloc ?_ _)); exact BK169.out⟩
        have n2_ : Aside0 (Below w.heap.size w ((((w41.setCell ⟨gb169, 0, none⟩ (.int .i64 2)).setCell ⟨gb169, 1, none⟩ (.int .i64 1)).setCell ⟨gb169, 2, none⟩ (.bool false)).setCell ⟨gb169, 3, none⟩ (.slice Ao40 y166.length co40))) := ⟨by repeat (first | (with_reducible first | exact HB.out | apply below_alloc | apply pw_below_drewN | apply below_drew1 | refine below_set ?_ GE169.out) | exact HB.out)⟩
        (try clear HO168)
        (try clear BK169)
        (try clear HB)
        generalize ((((w41.setCell ⟨gb169, 0, none⟩ (.int .i64 2)).setCell ⟨gb169, 1, none⟩ (.int .i64 1)).setCell ⟨gb169, 2, none⟩ (.bool false)).setCell ⟨gb169, 3, none⟩ (.slice Ao40 y166.length co40)) = w43 at n0_ n1_ n2_ ⊢
        have HO168 := n0_
        have BK169 := n1_
        have HB := n2_
        clear n0_ n1_ n2_
        have n0_ := Aside0.mk (Kd.R_drew HO168.out)
        have n1_ := Aside0.mk (blk_drew BK169.out)
        have n2_ := Aside0.mk (below_drew1 HB.out)
        clear HO168
        clear BK169
        clear HB
        have HO168 := n0_
        have BK169 := n1_
        have HB := n2_
        clear n0_ n1_ n2_
        refine start_ (n := 8) (S := fun w' => True) (ds := []) #[false, false, false, false, false, false, false, false] (by kernel_rfl) rfl rfl trivial (fun hHeld => ?_); refine with_tabW kissgatelaw19_alive.tab2 kissgatelaw19_alive.bits2 (fun HT_ HW_ => ?_)
        generalize w43.drew = w44 at HO168 BK169 HB hHeld ⊢
        refine inv_at [0, 1, 2, 3, 4, 5, 6, 7] (fun a0_ b a w' => ∃ (v171 : Value) (v174 : Value) (v177 : Value) (m7_ : Value), a = putSel a0_ b [(0, 5, .agg #[.int .i64 2, .int .i64 1, .bool false, .slice Ao40 y166.length co40]), (1, 6, .agg #[.int .i64 2, .int .i64 1, .bool false, .slice Ao40 y166.length co40]), (2, 7, .agg #[.int .i64 2, .int .i64 1, .bool false, .slice Ao40 y166.length co40]), (3, 8, v171), (4, 9, .agg #[.int .i64 281474976710655, .int .i64 0, .bool false, .int .i64 0, .int .i64 0, .int .i64 2048, .string (⟨#[]⟩ : ByteArray)]), (5, 10, v174), (6, 11, v177), (7, 2, m7_)] ∧ (b 3 = false → Kd.R (Kd.int .i64) 3 w' w.heap.size (fun _ => True) (.slice Ao40 y166.length co40) y166) ∧ (w'.heap[gb169]? = some (.cells #[.int .i64 2, .int .i64 1, .bool false, .slice Ao40 y166.length co40] 54 (0, 0))) ∧ (Below w.heap.size w w') ∧ (b 3 = true → Kd.N k54 54 w' w.heap.size (fun k_ => k_ ≠ gb169) v171 y170) ∧ (b 5 = true → TabC w' v174 t173) ∧ (b 6 = true → Kd.R k63 63 w' w.heap.size (fun _ => True) v177 t176) ∧ (b 7 = true → (m7_ : Value) = v177)) HT_.out HW_.out (by kernel_rfl) (by kernel_rfl) ?_ ?_ ?_
        · exact ⟨.bool false, .bool false, .bool false, .bool false, by simp only [putSel, Bool.false_eq_true, if_false], fun _ => HO168.out, BK169.out, HB.out, fun h_ => absurd h_ (by decide), fun h_ => absurd h_ (by decide), fun h_ => absurd h_ (by decide), fun h_ => absurd h_ (by decide)⟩
        · skip
          clear BK169 HB HO168
          refine steps_cons ?_ ?_
          · rintro b a w' ⟨v171, v174, v177, m7_, ha, Q_HO168, Q_BK169, Q_HB, Q_HO172, Q_HO175, Q_HO178, Q_X7_⟩ hb_ hon hoff
            refine ⟨_, rfl, fun K hK => ?_⟩
            have e1 : a.tmps[1]? = some (.pointer (some ⟨gb169, 0, none⟩)) := by rw [ha]; exact (putSel_off rfl).trans rfl
            replace ha := Aside0.mk ha
            have HO168 := Aside0.mk (Q_HO168 (hoff 3 (by kernel_rfl)))
            have BK169 := Aside0.mk Q_BK169
            have HB := Aside0.mk Q_HB
            have hc0_ : w'.cell? ⟨gb169, 0, none⟩ = some (.int .i64 2) := (blk_cell BK169.out 0).trans rfl
            have hc1_ : w'.cell? ⟨gb169, 1, none⟩ = some (.int .i64 1) := (blk_cell BK169.out 1).trans rfl
            have hc2_ : w'.cell? ⟨gb169, 2, none⟩ = some (.bool false) := (blk_cell BK169.out 2).trans rfl
            have hc3_ : w'.cell? ⟨gb169, 3, none⟩ = some (.slice Ao40 y166.length co40) := (blk_cell BK169.out 3).trans rfl
            refine value_ (w1 := w') (v := .agg #[.int .i64 2, .int .i64 1, .bool false, .slice Ao40 y166.length co40]) (by rfl) rfl ?_ ?_
            · go_simp
              (try simp only [i64_w])
              try rfl
            refine hK.out _ _ ⟨v171, v174, v177, m7_, (by rw [ha.out]; exact putSel_upk 0 hb_ rfl rfl rfl), Q_HO168, Q_BK169, Q_HB, fun h0_ => absurd ((hoff 3 (by kernel_rfl)).symm.trans h0_) (by decide), Q_HO175, fun h0_ => absurd ((hoff 6 (by kernel_rfl)).symm.trans h0_) (by decide), fun h0_ => absurd ((hoff 7 (by kernel_rfl)).symm.trans h0_) (by decide)⟩
          refine steps_cons ?_ ?_
          · rintro b a w' ⟨v171, v174, v177, m7_, ha, Q_HO168, Q_BK169, Q_HB, Q_HO172, Q_HO175, Q_HO178, Q_X7_⟩ hb_ hon hoff
            refine ⟨_, rfl, fun K hK => ?_⟩
            have e1 : a.tmps[1]? = some (.pointer (some ⟨gb169, 0, none⟩)) := by rw [ha]; exact (putSel_off rfl).trans rfl
            replace ha := Aside0.mk ha
            have HO168 := Aside0.mk (Q_HO168 (hoff 3 (by kernel_rfl)))
            have BK169 := Aside0.mk Q_BK169
            have HB := Aside0.mk Q_HB
            have hc0_ : w'.cell? ⟨gb169, 0, none⟩ = some (.int .i64 2) := (blk_cell BK169.out 0).trans rfl
            have hc1_ : w'.cell? ⟨gb169, 1, none⟩ = some (.int .i64 1) := (blk_cell BK169.out 1).trans rfl
            have hc2_ : w'.cell? ⟨gb169, 2, none⟩ = some (.bool false) := (blk_cell BK169.out 2).trans rfl
            have hc3_ : w'.cell? ⟨gb169, 3, none⟩ = some (.slice Ao40 y166.length co40) := (blk_cell BK169.out 3).trans rfl
            refine value_ (w1 := w') (v := .agg #[.int .i64 2, .int .i64 1, .bool false, .slice Ao40 y166.length co40]) (by rfl) rfl ?_ ?_
            · go_simp
              (try simp only [i64_w])
              try rfl
            refine hK.out _ _ ⟨v171, v174, v177, m7_, (by rw [ha.out]; exact putSel_upk 1 hb_ rfl rfl rfl), Q_HO168, Q_BK169, Q_HB, fun h0_ => absurd ((hoff 3 (by kernel_rfl)).symm.trans h0_) (by decide), Q_HO175, fun h0_ => absurd ((hoff 6 (by kernel_rfl)).symm.trans h0_) (by decide), fun h0_ => absurd ((hoff 7 (by kernel_rfl)).symm.trans h0_) (by decide)⟩
          refine steps_cons ?_ ?_
          · rintro b a w' ⟨v171, v174, v177, m7_, ha, Q_HO168, Q_BK169, Q_HB, Q_HO172, Q_HO175, Q_HO178, Q_X7_⟩ hb_ hon hoff
            refine ⟨_, rfl, fun K hK => ?_⟩
            have e1 : a.tmps[1]? = some (.pointer (some ⟨gb169, 0, none⟩)) := by rw [ha]; exact (putSel_off rfl).trans rfl
            replace ha := Aside0.mk ha
            have HO168 := Aside0.mk (Q_HO168 (hoff 3 (by kernel_rfl)))
            have BK169 := Aside0.mk Q_BK169
            have HB := Aside0.mk Q_HB
            have hc0_ : w'.cell? ⟨gb169, 0, none⟩ = some (.int .i64 2) := (blk_cell BK169.out 0).trans rfl
            have hc1_ : w'.cell? ⟨gb169, 1, none⟩ = some (.int .i64 1) := (blk_cell BK169.out 1).trans rfl
            have hc2_ : w'.cell? ⟨gb169, 2, none⟩ = some (.bool false) := (blk_cell BK169.out 2).trans rfl
            have hc3_ : w'.cell? ⟨gb169, 3, none⟩ = some (.slice Ao40 y166.length co40) := (blk_cell BK169.out 3).trans rfl
            refine value_ (w1 := w') (v := .agg #[.int .i64 2, .int .i64 1, .bool false, .slice Ao40 y166.length co40]) (by rfl) rfl ?_ ?_
            · go_simp
              (try simp only [i64_w])
              try rfl
            refine hK.out _ _ ⟨v171, v174, v177, m7_, (by rw [ha.out]; exact putSel_upk 2 hb_ rfl rfl rfl), Q_HO168, Q_BK169, Q_HB, fun h0_ => absurd ((hoff 3 (by kernel_rfl)).symm.trans h0_) (by decide), Q_HO175, fun h0_ => absurd ((hoff 6 (by kernel_rfl)).symm.trans h0_) (by decide), fun h0_ => absurd ((hoff 7 (by kernel_rfl)).symm.trans h0_) (by decide)⟩
          refine steps_cons ?_ ?_
          · rintro b a w' ⟨v171, v174, v177, m7_, ha, Q_HO168, Q_BK169, Q_HB, Q_HO172, Q_HO175, Q_HO178, Q_X7_⟩ hb_ hon hoff
            refine ⟨_, rfl, fun K hK => ?_⟩
            have e5 : a.tmps[5]? = some (.agg #[.int .i64 2, .int .i64 1, .bool false, .slice Ao40 y166.length co40]) := by rw [ha]; exact putSel_on (e := (0, 5, .agg #[.int .i64 2, .int .i64 1, .bool false, .slice Ao40 y166.length co40])) 0 rfl rfl (hon 0 (by kernel_rfl)) rfl
            have e6 : a.tmps[6]? = some (.agg #[.int .i64 2, .int .i64 1, .bool false, .slice Ao40 y166.length co40]) := by rw [ha]; exact putSel_on (e := (1, 6, .agg #[.int .i64 2, .int .i64 1, .bool false, .slice Ao40 y166.length co40])) 1 rfl rfl (hon 1 (by kernel_rfl)) rfl
            have e7 : a.tmps[7]? = some (.agg #[.int .i64 2, .int .i64 1, .bool false, .slice Ao40 y166.length co40]) := by rw [ha]; exact putSel_on (e := (2, 7, .agg #[.int .i64 2, .int .i64 1, .bool false, .slice Ao40 y166.length co40])) 2 rfl rfl (hon 2 (by kernel_rfl)) rfl
            replace ha := Aside0.mk ha
            have HO168 := Aside0.mk (Q_HO168 hb_)
            have BK169 := Aside0.mk Q_BK169
            have HB := Aside0.mk Q_HB
            refine Kd.N_lit_step k54 _ 54 ?hg (N' := 8) ?hd (xs := ([(⟨2, 1, false, y166⟩ : S54), (⟨2, 1, false, y166⟩ : S54), (⟨2, 1, false, y166⟩ : S54)] : List (S54))) (inner := [.int .i64 2, .int .i64 1, .bool false, .slice Ao40 y166.length co40, .int .i64 2, .int .i64 1, .bool false, .slice Ao40 y166.length co40, .int .i64 2, .int .i64 1, .bool false, .slice Ao40 y166.length co40]) (ok := (fun k_ => k_ ≠ gb169)) (okp := (fun k_ => k_ ≠ gb169)) ?hr ?hp (fun _ hk => hk) ((show ∀ k_, w'.heap.size ≤ k_ → (fun k_ => k_ ≠ gb169) k_ from fun k_ hk => Kd.freshB (g := gb169) (o := .cells #[.int .i64 2, .int .i64 1, .bool false, .slice Ao40 y166.length co40] 54 (0, 0)) (by (with_reducible repeat (first | refine blk_drewN ?_ _ | refine blk_drew ?_ | refine blk_alloc ?_ _)); exact BK169.out) k_ hk) _ (Nat.le_refl _)) (Below.refl _ _) (Nat.le_refl _) (by simp) ?_; (case hd => rfl); (case hg => rfl); (case hr => first | (go_simp; done) | (go_simp; rfl)); (case hp => exact (Reps.c4 (show Kd.FK k54 _ _ (⟨2, 1, false, y166⟩ : S54) [.int .i64 2, .int .i64 1, .bool false, .slice Ao40 y166.length co40] from (k54_mkF _ _ (⟨2, 1, false, y166⟩ : S54) (Kd.R_reads' (Kd.R_mono (ok' := (fun k_ => k_ ≠ gb169)) (Kd.R_types (HO168.out) BK169.out (by decide)) (fun k_ hk => hk.2))).2.1 (Kd.R_F (Kd.R_mono (ok' := (fun k_ => k_ ≠ gb169)) (Kd.R_types (HO168.out) BK169.out (by decide)) (fun k_ hk => hk.2))))) (Reps.c4 (show Kd.FK k54 _ _ (⟨2, 1, false, y166⟩ : S54) [.int .i64 2, .int .i64 1, .bool false, .slice Ao40 y166.length co40] from (k54_mkF _ _ (⟨2, 1, false, y166⟩ : S54) (Kd.R_reads' (Kd.R_mono (ok' := (fun k_ => k_ ≠ gb169)) (Kd.R_types (HO168.out) BK169.out (by decide)) (fun k_ hk => hk.2))).2.1 (Kd.R_F (Kd.R_mono (ok' := (fun k_ => k_ ≠ gb169)) (Kd.R_types (HO168.out) BK169.out (by decide)) (fun k_ hk => hk.2))))) (Reps.c4 (show Kd.FK k54 _ _ (⟨2, 1, false, y166⟩ : S54) [.int .i64 2, .int .i64 1, .bool false, .slice Ao40 y166.length co40] from (k54_mkF _ _ (⟨2, 1, false, y166⟩ : S54) (Kd.R_reads' (Kd.R_mono (ok' := (fun k_ => k_ ≠ gb169)) (Kd.R_types (HO168.out) BK169.out (by decide)) (fun k_ hk => hk.2))).2.1 (Kd.R_F (Kd.R_mono (ok' := (fun k_ => k_ ≠ gb169)) (Kd.R_types (HO168.out) BK169.out (by decide)) (fun k_ hk => hk.2))))) (Reps.none _ _)))))
            intro v171 w45 ho46 hb hg_ hnew_
            clear hg_ hnew_
            (first | rw [← Ny170.out] at ho46 | (simp only [Int.reduceToNat] at ho46; rw [← Ny170.out] at ho46))
            have n0_ := Aside0.mk (Kd.N_lower ho46 (below_size (by repeat (first | (with_reducible first | exact HB.out | apply below_alloc | apply pw_below_drewN | apply below_drew1 | refine below_set ?_ GE169.out) | exact HB.out))))
            have n1_ := Aside0.mk (blk_below (g := gb169) (o := .cells #[.int .i64 2, .int .i64 1, .bool false, .slice Ao40 y166.length co40] 54 (0, 0)) (by (with_reducible repeat (first | refine blk_drewN ?_ _ | refine blk_drew ?_ | refine blk_alloc ?_ _)); exact BK169.out) hb)
            have n2_ := Aside0.mk (below_step (by repeat (first | (with_reducible first | exact HB.out | apply below_alloc | apply pw_below_drewN | apply below_drew1 | refine below_set ?_ GE169.out) | exact HB.out)) hb)
            have z_HO175 := fun (h0_ : b 5 = true) => (show TabC w45 v174 t173 from by first | exact (TabC.below (by (with_reducible repeat (first | apply TabC.alloc | apply TabC.drewN | apply TabC.drew)); exact (Q_HO175 h0_)) hb) | exact Kd.R_mono (TabC.below (by (with_reducible repeat (first | apply TabC.alloc | apply TabC.drewN | apply TabC.drew)); exact (Q_HO175 h0_)) hb) (fun _ h_ => by first | trivial | exact h_ | exact h_.1))
            clear BK169
            clear HB
            clear HO168
            have HO172 := n0_
            have BK169 := n1_
            have HB := n2_
            clear n0_ n1_ n2_
            clear hb ho46
            refine hK.out _ _ ⟨v171, v174, v177, m7_, (by rw [ha.out]; exact putSel_upk 3 hb_ rfl rfl rfl), fun h0_ => absurd ((up_self b 3).symm.trans h0_) (by decide), (by (with_reducible repeat (first | refine blk_drewN ?_ _ | refine blk_drew ?_ | refine blk_alloc ?_ _)); exact BK169.out), (by repeat (first | (with_reducible first | exact HB.out | apply below_alloc | apply pw_below_drewN | apply below_drew1 | refine below_set ?_ GE169.out) | exact HB.out)), fun _ => (by (with_reducible repeat (first | apply Kd.N_alloc | apply Kd.N_drewN | apply Kd.N_drew)); exact HO172.out), z_HO175, fun h0_ => absurd ((hoff 6 (by kernel_rfl)).symm.trans h0_) (by decide), fun h0_ => absurd ((hoff 7 (by kernel_rfl)).symm.trans h0_) (by decide)⟩
          refine steps_cons ?_ ?_
          · rintro b a w' ⟨v171, v174, v177, m7_, ha, Q_HO168, Q_BK169, Q_HB, Q_HO172, Q_HO175, Q_HO178, Q_X7_⟩ hb_ hon hoff
            refine ⟨_, rfl, fun K hK => ?_⟩
            replace ha := Aside0.mk ha
            have BK169 := Aside0.mk Q_BK169
            have HB := Aside0.mk Q_HB
            refine value_ (w1 := w') (v := .agg #[.int .i64 281474976710655, .int .i64 0, .bool false, .int .i64 0, .int .i64 0, .int .i64 2048, .string (⟨#[]⟩ : ByteArray)]) (by rfl) rfl ?_ ?_
            · go_simp
              (try simp only [i64_w])
              try rfl
            refine hK.out _ _ ⟨v171, v174, v177, m7_, (by rw [ha.out]; exact putSel_upk 4 hb_ rfl rfl rfl), Q_HO168, Q_BK169, Q_HB, Q_HO172, Q_HO175, fun h0_ => absurd ((hoff 6 (by kernel_rfl)).symm.trans h0_) (by decide), fun h0_ => absurd ((hoff 7 (by kernel_rfl)).symm.trans h0_) (by decide)⟩
          refine steps_cons ?_ ?_
          · rintro b a w' ⟨v171, v174, v177, m7_, ha, Q_HO168, Q_BK169, Q_HB, Q_HO172, Q_HO175, Q_HO178, Q_X7_⟩ hb_ hon hoff
            refine ⟨_, rfl, fun K hK => ?_⟩
            replace ha := Aside0.mk ha
            have BK169 := Aside0.mk Q_BK169
            have HB := Aside0.mk Q_HB
            refine goes_ Try.func28 (by kernel_rfl) rfl #[] (by rfl) rfl rfl (by first | (simp only [List.map_toArray, List.map_cons, List.map_nil, Act.eval, Array.getD_eq_getD_getElem?, Option.getD_some]; done) | (simp only [List.map_toArray, List.map_cons, List.map_nil, Act.eval, Array.getD_eq_getD_getElem?, Option.getD_some]; rfl)) ?_
            with_reducible refine (fdb_New.calls  t173 _ A1.out).mono ?_
            rintro e w45 ⟨v174, rfl, ho0, hb⟩
            refine ⟨_, rfl, ?_⟩
            have n1_ := Aside0.mk ho0
            have n2_ := Aside0.mk (blk_below (g := gb169) (o := .cells #[.int .i64 2, .int .i64 1, .bool false, .slice Ao40 y166.length co40] 54 (0, 0)) (by (with_reducible repeat (first | refine blk_drewN ?_ _ | refine blk_drew ?_ | refine blk_alloc ?_ _)); exact BK169.out) hb)
            have n3_ := Aside0.mk (below_step (by repeat (first | (with_reducible first | exact HB.out | apply below_alloc | apply pw_below_drewN | apply below_drew1 | refine below_set ?_ GE169.out) | exact HB.out)) hb)
            have z_HO168 := fun (h0_ : b 3 = false) => (show Kd.R (Kd.int .i64) 3 w45 w.heap.size (fun _ => True) (.slice Ao40 y166.length co40) y166 from by first | exact (Kd.R_below (by (with_reducible repeat (first | apply Kd.R_alloc | apply Kd.R_drewN | apply Kd.R_drew)); exact (Q_HO168 h0_)) hb) | exact Kd.R_mono (Kd.R_below (by (with_reducible repeat (first | apply Kd.R_alloc | apply Kd.R_drewN | apply Kd.R_drew)); exact (Q_HO168 h0_)) hb) (fun _ h_ => by first | trivial | exact h_ | exact h_.1))
            have z_HO172 := fun (h0_ : b 3 = true) => (show Kd.N k54 54 w45 w.heap.size (fun k_ => k_ ≠ gb169) v171 y170 from by first | exact (Kd.N_below (by (with_reducible repeat (first | apply Kd.N_alloc | apply Kd.N_drewN | apply Kd.N_drew)); exact (Q_HO172 h0_)) hb) | exact Kd.N_mono (Kd.N_below (by (with_reducible repeat (first | apply Kd.N_alloc | apply Kd.N_drewN | apply Kd.N_drew)); exact (Q_HO172 h0_)) hb) (fun _ h_ => by first | trivial | exact h_ | exact h_.1))
            clear BK169
            clear HB
            have HO175 := n1_
            have BK169 := n2_
            have HB := n3_
            clear n1_ n2_ n3_
            (try clear hb)
            (try clear hb2)
            (try clear hk)
            (try clear hi)
            (try clear ho0)
            refine hK.out _ _ ⟨v171, v174, v177, m7_, (by rw [ha.out]; exact putSel_upk 5 hb_ rfl rfl rfl), z_HO168, (by (with_reducible repeat (first | refine blk_drewN ?_ _ | refine blk_drew ?_ | refine blk_alloc ?_ _)); exact BK169.out), (by repeat (first | (with_reducible first | exact HB.out | apply below_alloc | apply pw_below_drewN | apply below_drew1 | refine below_set ?_ GE169.out) | exact HB.out)), z_HO172, fun _ => (by (with_reducible repeat (first | apply TabC.alloc | apply TabC.drewN | apply TabC.drew)); exact HO175.out), fun h0_ => absurd ((hoff 6 (by kernel_rfl)).symm.trans h0_) (by decide), fun h0_ => absurd ((hoff 7 (by kernel_rfl)).symm.trans h0_) (by decide)⟩
          refine steps_cons ?_ ?_
          · rintro b a w' ⟨v171, v174, v177, m7_, ha, Q_HO168, Q_BK169, Q_HB, Q_HO172, Q_HO175, Q_HO178, Q_X7_⟩ hb_ hon hoff
            refine ⟨_, rfl, fun K hK => ?_⟩
            have e8 : a.tmps[8]? = some (v171) := by rw [ha]; exact putSel_on (e := (3, 8, v171)) 3 rfl rfl (hon 3 (by kernel_rfl)) rfl
            have e9 : a.tmps[9]? = some (.agg #[.int .i64 281474976710655, .int .i64 0, .bool false, .int .i64 0, .int .i64 0, .int .i64 2048, .string (⟨#[]⟩ : ByteArray)]) := by rw [ha]; exact putSel_on (e := (4, 9, .agg #[.int .i64 281474976710655, .int .i64 0, .bool false, .int .i64 0, .int .i64 0, .int .i64 2048, .string (⟨#[]⟩ : ByteArray)])) 4 rfl rfl (hon 4 (by kernel_rfl)) rfl
            have e10 : a.tmps[10]? = some (v174) := by rw [ha]; exact putSel_on (e := (5, 10, v174)) 5 rfl rfl (hon 5 (by kernel_rfl)) rfl
            replace ha := Aside0.mk ha
            have BK169 := Aside0.mk Q_BK169
            have HB := Aside0.mk Q_HB
            have HO172 := Aside0.mk (Q_HO172 (hon 3 (by kernel_rfl)))
            have HO175 := Aside0.mk (Q_HO175 (hon 5 (by kernel_rfl)))
            obtain ⟨Ao49, co49, eo49⟩ := Kd.N_slice HO172.out
            (first | subst eo49 | (injection eo49 with f1_ f2_ f3_; have f4_ := f1_.symm; have f5_ := f3_.symm; clear f1_ f2_ f3_; subst f4_; subst f5_))
            refine goes_ Try.func27 (by kernel_rfl) rfl #[.slice Ao49 y170.length co49, .int .i64 1, .agg #[.int .i64 281474976710655, .int .i64 0, .bool false, .int .i64 0, .int .i64 0, .int .i64 2048, .string (⟨#[]⟩ : ByteArray)], v174] (by rfl) rfl rfl (by first | (simp only [List.map_toArray, List.map_cons, List.map_nil, Act.eval, Array.getD_eq_getD_getElem?, Option.getD_some, e8, e9, e10]; done) | (simp only [List.map_toArray, List.map_cons, List.map_nil, Act.eval, Array.getD_eq_getD_getElem?, Option.getD_some, e8, e9, e10]; rfl)) ?_
            with_reducible refine (relay_Relay.calls k _ _ y170 1 281474976710655 0 false 0 0 2048 (⟨#[]⟩ : ByteArray) _ t173 t176 _ ?side1 ?side2 ?side3 A2.out).mono ?_
            (case side1 => repeat (first | exact (Kd.N_reads' HO172.out).2.2 | (with_reducible refine Kd.C_alloc ?_ _) | (with_reducible refine Kd.C_drewN ?_ _) | (with_reducible refine Kd.C_drew ?_)))
            (case side2 => exact (Kd.N_reads' HO172.out).2.1)
            (case side3 => repeat (first | exact HO175.out | (with_reducible refine TabC.alloc ?_ _) | (with_reducible refine TabC.drewN ?_ _) | (with_reducible refine TabC.drew ?_)))
            rintro e w51 ⟨v177, rfl, ho0, hb⟩
            refine ⟨_, rfl, ?_⟩
            have n0_ := Aside0.mk (Kd.N_elder' (by (with_reducible repeat (first | apply Kd.N_alloc | apply Kd.N_drewN | apply Kd.N_drew)); exact HO172.out) (Kd.R_base ho0) hb)
            have n1_ := Aside0.mk (TabC.below (by (with_reducible repeat (first | apply TabC.alloc | apply TabC.drewN | apply TabC.drew)); exact HO175.out) hb)
            have n2_ := Aside0.mk (Kd.R_lower ho0 (below_size (by repeat (first | (with_reducible first | exact HB.out | apply below_alloc | apply pw_below_drewN | apply below_drew1 | refine below_set ?_ GE169.out) | exact HB.out))))
            have n3_ := Aside0.mk (blk_below (g := gb169) (o := .cells #[.int .i64 2, .int .i64 1, .bool false, .slice Ao40 y166.length co40] 54 (0, 0)) (by (with_reducible repeat (first | refine blk_drewN ?_ _ | refine blk_drew ?_ | refine blk_alloc ?_ _)); exact BK169.out) hb)
            have n4_ := Aside0.mk (below_step (by repeat (first | (with_reducible first | exact HB.out | apply below_alloc | apply pw_below_drewN | apply below_drew1 | refine below_set ?_ GE169.out) | exact HB.out)) hb)
            clear HO172
            clear HO175
            clear BK169
            clear HB
            have HO172 := n0_
            have HO175 := n1_
            have HO178 := n2_
            have BK169 := n3_
            have HB := n4_
            clear n0_ n1_ n2_ n3_ n4_
            (try clear hb)
            (try clear hb2)
            (try clear hk)
            (try clear hi)
            (try clear ho0)
            refine hK.out _ _ ⟨.slice Ao49 y170.length co49, v174, v177, m7_, (by rw [ha.out]; exact putSel_upk 6 hb_ rfl rfl rfl), fun h0_ => absurd ((hon 3 (by kernel_rfl)).symm.trans h0_) (by decide), (by (with_reducible repeat (first | refine blk_drewN ?_ _ | refine blk_drew ?_ | refine blk_alloc ?_ _)); exact BK169.out), (by repeat (first | (with_reducible first | exact HB.out | apply below_alloc | apply pw_below_drewN | apply below_drew1 | refine below_set ?_ GE169.out) | exact HB.out)), fun _ => (by (with_reducible repeat (first | apply Kd.N_alloc | apply Kd.N_drewN | apply Kd.N_drew)); exact Kd.N_mono HO172.out (fun _ hk => by first | exact hk | exact hk.1 | exact hk.1.1)), fun _ => (by (with_reducible repeat (first | apply TabC.alloc | apply TabC.drewN | apply TabC.drew)); exact HO175.out), fun _ => (by (with_reducible repeat (first | apply Kd.R_alloc | apply Kd.R_drewN | apply Kd.R_drew)); exact HO178.out), fun h0_ => absurd ((hoff 7 (by kernel_rfl)).symm.trans h0_) (by decide)⟩
          refine steps_cons ?_ ?_
          · rintro b a w' ⟨v171, v174, v177, m7_, ha, Q_HO168, Q_BK169, Q_HB, Q_HO172, Q_HO175, Q_HO178, Q_X7_⟩ hb_ hon hoff
            refine ⟨_, rfl, fun K hK => ?_⟩
            have e11 : a.tmps[11]? = some (v177) := by rw [ha]; exact putSel_on (e := (6, 11, v177)) 6 rfl rfl (hon 6 (by kernel_rfl)) rfl
            replace ha := Aside0.mk ha
            have BK169 := Aside0.mk Q_BK169
            have HB := Aside0.mk Q_HB
            have HO172 := Aside0.mk (Q_HO172 (hon 3 (by kernel_rfl)))
            have HO175 := Aside0.mk (Q_HO175 (hon 5 (by kernel_rfl)))
            have HO178 := Aside0.mk (Q_HO178 (hon 6 (by kernel_rfl)))
            refine value_ (w1 := w') (v := v177) (by rfl) rfl ?_ ?_
            · go_simp
              (try simp only [i64_w])
              try rfl
            refine hK.out _ _ ⟨v171, v174, v177, (v177), (by rw [ha.out]; exact putSel_upk 7 hb_ rfl rfl rfl), fun h0_ => absurd ((hon 3 (by kernel_rfl)).symm.trans h0_) (by decide), Q_BK169, Q_HB, Q_HO172, Q_HO175, Q_HO178, fun _ => rfl⟩
          exact steps_nil
        rintro b a w51 hall ⟨v171, v174, v177, m7_, ha, Q_HO168, Q_BK169, Q_HB, Q_HO172, Q_HO175, Q_HO178, Q_X7_⟩
        clear BK169 HB HO168
        have hb0_ := hall 0 (by kernel_rfl)
        have hb1_ := hall 1 (by kernel_rfl)
        have hb2_ := hall 2 (by kernel_rfl)
        have hb3_ := hall 3 (by kernel_rfl)
        have hb4_ := hall 4 (by kernel_rfl)
        have hb5_ := hall 5 (by kernel_rfl)
        have hb6_ := hall 6 (by kernel_rfl)
        have hb7_ := hall 7 (by kernel_rfl)
        subst ha
        obtain rfl := Q_X7_ hb7_
        simp only [putSel, hb0_, hb1_, hb2_, hb3_, hb4_, hb5_, hb6_, hb7_, if_true, Act.put, List.setIfInBounds_toArray, List.set_cons_zero, List.set_cons_succ]
        clear Q_HO168
        have BK169 := Aside0.mk Q_BK169
        clear Q_BK169
        have HB := Aside0.mk Q_HB
        clear Q_HB
        have HO172 := Aside0.mk (Q_HO172 hb3_)
        clear Q_HO172
        have HO175 := Aside0.mk (Q_HO175 hb5_)
        clear Q_HO175
        have HO178 := Aside0.mk (Q_HO178 hb6_)
        clear Q_HO178
        clear hall hb0_ hb1_ hb2_ hb3_ hb4_ hb5_ hb6_ hb7_
        obtain ⟨Ao52, co52, eo52⟩ := Kd.R_slice HO178.out
        subst eo52
        have p179 : 0 ≤ (0 : Int) := (by omega)
        have q179 : 0 < (t176.length : Int) := of_decide_eq_true (by first | (with_reducible assumption) | assumption)
        obtain ⟨ad179, e179, hx179_0, hx179_1, hx179_2, hx179_3, hx179_4, hx179_5, hx179_6, hx179_7⟩ := at_T63 (Kd.R_reads' HO178.out).2.2 0 p179 q179
        cases e179
        have qi179 : (0 < t176.length) = True := eq_true (by omega)
        (try rw [show ((0 : Int)).toNat = 0 from rfl] at hx179_0)
        (try rw [show 0 * 8 = 0 from rfl] at hx179_0)
        (try rw [Addr.add_zero'] at hx179_0)
        (try rw [show ((0 : Int)).toNat = 0 from rfl] at hx179_1)
        (try rw [show 0 * 8 = 0 from rfl] at hx179_1)
        (try rw [Addr.add_zero'] at hx179_1)
        (try rw [show ((0 : Int)).toNat = 0 from rfl] at hx179_2)
        (try rw [show 0 * 8 = 0 from rfl] at hx179_2)
        (try rw [Addr.add_zero'] at hx179_2)
        (try rw [show ((0 : Int)).toNat = 0 from rfl] at hx179_3)
        (try rw [show 0 * 8 = 0 from rfl] at hx179_3)
        (try rw [Addr.add_zero'] at hx179_3)
        (try rw [show ((0 : Int)).toNat = 0 from rfl] at hx179_4)
        (try rw [show 0 * 8 = 0 from rfl] at hx179_4)
        (try rw [Addr.add_zero'] at hx179_4)
        (try rw [show ((0 : Int)).toNat = 0 from rfl] at hx179_5)
        (try rw [show 0 * 8 = 0 from rfl] at hx179_5)
        (try rw [Addr.add_zero'] at hx179_5)
        (try rw [show ((0 : Int)).toNat = 0 from rfl] at hx179_6)
        (try rw [show 0 * 8 = 0 from rfl] at hx179_6)
        (try rw [Addr.add_zero'] at hx179_6)
        (try rw [show ((0 : Int)).toNat = 0 from rfl] at hx179_7)
        (try rw [show 0 * 8 = 0 from rfl] at hx179_7)
        (try rw [Addr.add_zero'] at hx179_7)
        replace p179 := eq_true p179
        replace q179 := eq_true q179
        try go_wp2
        go_ret
        exact ⟨by first | rfl | (simp [errW_none, errW_some] <;> rfl) | (simp [*, errW_none, errW_some] <;> rfl), by repeat (first | (with_reducible first | exact HB.out | apply below_alloc | apply pw_below_drewN | apply below_drew1 | refine below_set ?_ GE169.out) | exact HB.out)⟩
    · rw [if_neg c4] at H
      exact absurd H (by simp)
  · rw [if_neg c3] at H
    have c3b0 : ((t176.length : Int) == 2) = false := beq_eq_false_iff_ne.mpr c3
    have c3b1 : ((t176.length : Int) != 2) = true := bne_iff_ne.mpr c3
    obtain rfl := Option.some.inj H
    go_enter Try.func25, Try.ntmps25
    try go_wp2_with (first | ((with_reducible refine gate_dst (N := 3) rfl ?_); refine Kd.R_lit (Kd.int .i64) _ 3 ?hg (N := 3) ?hd (xs := ([1] : List Int)) (inner := [.int .i64 1]) (ok := fun _ => True) (okp := fun _ => True) ?hr ?hp (fun _ hk => hk) trivial (Below.refl _ _) (Nat.le_refl _) (by simp) ?_; (case hd => rfl); (case hg => rfl); (case hr => first | (go_simp; done) | (go_simp; rfl)); (case hp => exact (Reps.one (show Kd.M (Kd.int .i64) _ _ _ 1 [.int .i64 1] from rfl) (Reps.none _ _))); intro v167 w53 ho54 hb hg_ hnew_; clear hg_ hnew_; (first | rw [← Ny166.out] at ho54 | (simp only [Int.reduceToNat] at ho54; rw [← Ny166.out] at ho54)); have n0_ := Aside0.mk (Kd.R_lower ho54 (below_size (by repeat (first | (with_reducible first | exact HB.out | apply below_alloc | apply pw_below_drewN | apply below_drew1) | exact HB.out)))); have n1_ := Aside0.mk (below_step (by repeat (first | (with_reducible first | exact HB.out | apply below_alloc | apply pw_below_drewN | apply below_drew1) | exact HB.out)) hb); clear HB; have HO168 := n0_; have HB := n1_; clear n0_ n1_; clear hb ho54; obtain ⟨Ao55, co55, eo55⟩ := Kd.R_slice HO168.out; subst eo55) | ((with_reducible refine gate_dst (N := 1) rfl ?_); refine box_event ?hg (N := 1) ?hd (cs := #[.int .i64 0, .int .i64 0, .bool false, .slice none 0 0]) (t := 54) ?hr ?_; (case hd => rfl); (case hg => rfl); (case hr => first | (go_simp; done) | (go_simp; rfl)); intro gb169 hg w56 hbox hb; have n0_ := Aside0.mk (Kd.R_below (by (with_reducible repeat (first | apply Kd.R_alloc | apply Kd.R_drewN | apply Kd.R_drew)); exact HO168.out) hb); have n1_ := Aside0.mk (below_step (by repeat (first | (with_reducible first | exact HB.out | apply below_alloc | apply pw_below_drewN | apply below_drew1) | exact HB.out)) hb); have n2_ := Aside0.mk (hbox); have n3_ := Aside0.mk ((by rw [hg]; exact (below_size (by repeat (first | (with_reducible first | exact HB.out | apply below_alloc | apply pw_below_drewN | apply below_drew1) | exact HB.out))) : w.heap.size ≤ gb169)); have n4_ := Aside0.mk ((by rw [hg]; exact (below_size (by repeat (first | (with_reducible first | exact HB.out | apply below_alloc | apply pw_below_drewN | apply below_drew1) | exact HB.out))) : w.heap.size ≤ gb169)); clear HO168; clear HB; have HO168 := n0_; have HB := n1_; have BK169 := n2_; have GW169 := n3_; have GE169 := n4_; clear n0_ n1_ n2_ n3_ n4_; clear hb hbox hg; have hcz57_0 : w56.cell? ⟨gb169, 0, none⟩ = some (.int .i64 0) := (blk_cell BK169.out 0).trans rfl; have hcz57_1 : w56.cell? ⟨gb169, 1, none⟩ = some (.int .i64 0) := (blk_cell BK169.out 1).trans rfl; have hcz57_2 : w56.cell? ⟨gb169, 2, none⟩ = some (.bool false) := (blk_cell BK169.out 2).trans rfl; have hcz57_3 : w56.cell? ⟨gb169, 3, none⟩ = some (.slice none 0 0) := (blk_cell BK169.out 3).trans rfl; have hfz57_0 := blk_frozen BK169.out 0; have hfz57_1 := blk_frozen BK169.out 1; have hfz57_2 := blk_frozen BK169.out 2; have hfz57_3 := blk_frozen BK169.out 3))
    have n0_ : Aside0 (Kd.R (Kd.int .i64) 3 ((((w56.setCell ⟨gb169, 0, none⟩ (.int .i64 2)).setCell ⟨gb169, 1, none⟩ (.int .i64 1)).setCell ⟨gb169, 2, none⟩ (.bool false)).setCell ⟨gb169, 3, none⟩ (.slice Ao55 y166.length co55)) w.heap.size (fun _ => True) (.slice Ao55 y166.length co55) y166) := ⟨by (with_reducible repeat (first | apply Kd.R_alloc | apply Kd.R_drewN | apply Kd.R_drew)); exact Kd.R_mono (Kd.R_far (p := ⟨gb169, 3, none⟩) (Kd.R_far (p := ⟨gb169, 2, none⟩) (Kd.R_far (p := ⟨gb169, 1, none⟩) (Kd.R_far (p := ⟨gb169, 0, none⟩) (Kd.R_types HO168.out BK169.out (by decide)) (fun _ hk => hk.2) (.int .i64 2)) (fun _ hk => hk.2) (.int .i64 1)) (fun _ hk => hk.2) (.bool false)) (fun _ hk => hk.2) (.slice Ao55 y166.length co55)) (fun _ hk => trivial)⟩
    have n1_ : Aside0 (((((w56.setCell ⟨gb169, 0, none⟩ (.int .i64 2)).setCell ⟨gb169, 1, none⟩ (.int .i64 1)).setCell ⟨gb169, 2, none⟩ (.bool false)).setCell ⟨gb169, 3, none⟩ (.slice Ao55 y166.length co55)).heap[gb169]? = some (.cells #[.int .i64 2, .int .i64 1, .bool false, .slice Ao55 y166.length co55] 54 (0, 0))) := ⟨by (with_reducible repeat (first | refine blk_drewN ?_ _ | refine blk_drew ?_ | refine blk_alloc ?_ _)); refine blk_put (cs := #[.int .i64 2, .int .i64 1, .bool false, .slice none 0 0]) ?_ 3 _ rfl; (with_reducible repeat (first | refine blk_drewN ?_ _ | refine blk_drew ?_ | refine blk_alloc ?_ _)); refine blk_put (cs := #[.int .i64 2, .int .i64 1, .bool false, .slice none 0 0]) ?_ 2 _ rfl; (with_reducible repeat (first | refine blk_drewN ?_ _ | refine blk_drew ?_ | refine blk_alloc ?_ _)); refine blk_put (cs := #[.int .i64 2, .int .i64 0, .bool false, .slice none 0 0]) ?_ 1 _ rfl; (with_reducible repeat (first | refine blk_drewN ?_ _ | refine blk_drew ?_ | refine blk_alloc ?_ _)); refine blk_put (cs := #[.int .i64 0, .int .i64 0, .bool false, .slice none 0 0]) ?_ 0 _ rfl; (with_reducible repeat (first | refine blk_drewN ?_ _ | refine blk_drew ?_ | refine blk_alloc ?_ _)); exact BK169.out⟩
    have n2_ : Aside0 (Below w.heap.size w ((((w56.setCell ⟨gb169, 0, none⟩ (.int .i64 2)).setCell ⟨gb169, 1, none⟩ (.int .i64 1)).setCell ⟨gb169, 2, none⟩ (.bool false)).setCell ⟨gb169, 3, none⟩ (.slice Ao55 y166.length co55))) := ⟨by repeat (first | (with_reducible first | exact HB.out | apply below_alloc | apply pw_below_drewN | apply below_drew1 | refine below_set ?_ GE169.out) | exact HB.out)⟩
    (try clear HO168)
    (try clear BK169)
    (try clear HB)
    generalize ((((w56.setCell ⟨gb169, 0, none⟩ (.int .i64 2)).setCell ⟨gb169, 1, none⟩ (.int .i64 1)).setCell ⟨gb169, 2, none⟩ (.bool false)).setCell ⟨gb169, 3, none⟩ (.slice Ao55 y166.length co55)) = w58 at n0_ n1_ n2_ ⊢
    have HO168 := n0_
    have BK169 := n1_
    have HB := n2_
    clear n0_ n1_ n2_
    have n0_ := Aside0.mk (Kd.R_drew HO168.out)
    have n1_ := Aside0.mk (blk_drew BK169.out)
    have n2_ := Aside0.mk (below_drew1 HB.out)
    clear HO168
    clear BK169
    clear HB
    have HO168 := n0_
    have BK169 := n1_
    have HB := n2_
    clear n0_ n1_ n2_
    refine start_ (n := 8) (S := fun w' => True) (ds := []) #[false, false, false, false, false, false, false, false] (by kernel_rfl) rfl rfl trivial (fun hHeld => ?_); refine with_tabW kissgatelaw19_alive.tab2 kissgatelaw19_alive.bits2 (fun HT_ HW_ => ?_)
    generalize w58.drew = w59 at HO168 BK169 HB hHeld ⊢
    refine inv_at [0, 1, 2, 3, 4, 5, 6, 7] (fun a0_ b a w' => ∃ (v171 : Value) (v174 : Value) (v177 : Value) (m7_ : Value), a = putSel a0_ b [(0, 5, .agg #[.int .i64 2, .int .i64 1, .bool false, .slice Ao55 y166.length co55]), (1, 6, .agg #[.int .i64 2, .int .i64 1, .bool false, .slice Ao55 y166.length co55]), (2, 7, .agg #[.int .i64 2, .int .i64 1, .bool false, .slice Ao55 y166.length co55]), (3, 8, v171), (4, 9, .agg #[.int .i64 281474976710655, .int .i64 0, .bool false, .int .i64 0, .int .i64 0, .int .i64 2048, .string (⟨#[]⟩ : ByteArray)]), (5, 10, v174), (6, 11, v177), (7, 2, m7_)] ∧ (b 3 = false → Kd.R (Kd.int .i64) 3 w' w.heap.size (fun _ => True) (.slice Ao55 y166.length co55) y166) ∧ (w'.heap[gb169]? = some (.cells #[.int .i64 2, .int .i64 1, .bool false, .slice Ao55 y166.length co55] 54 (0, 0))) ∧ (Below w.heap.size w w') ∧ (b 3 = true → Kd.N k54 54 w' w.heap.size (fun k_ => k_ ≠ gb169) v171 y170) ∧ (b 5 = true → TabC w' v174 t173) ∧ (b 6 = true → Kd.R k63 63 w' w.heap.size (fun _ => True) v177 t176) ∧ (b 7 = true → (m7_ : Value) = v177)) HT_.out HW_.out (by kernel_rfl) (by kernel_rfl) ?_ ?_ ?_
    · exact ⟨.bool false, .bool false, .bool false, .bool false, by simp only [putSel, Bool.false_eq_true, if_false], fun _ => HO168.out, BK169.out, HB.out, fun h_ => absurd h_ (by decide), fun h_ => absurd h_ (by decide), fun h_ => absurd h_ (by decide), fun h_ => absurd h_ (by decide)⟩
    · skip
      clear BK169 HB HO168
      refine steps_cons ?_ ?_
      · rintro b a w' ⟨v171, v174, v177, m7_, ha, Q_HO168, Q_BK169, Q_HB, Q_HO172, Q_HO175, Q_HO178, Q_X7_⟩ hb_ hon hoff
        refine ⟨_, rfl, fun K hK => ?_⟩
        have e1 : a.tmps[1]? = some (.pointer (some ⟨gb169, 0, none⟩)) := by rw [ha]; exact (putSel_off rfl).trans rfl
        replace ha := Aside0.mk ha
        have HO168 := Aside0.mk (Q_HO168 (hoff 3 (by kernel_rfl)))
        have BK169 := Aside0.mk Q_BK169
        have HB := Aside0.mk Q_HB
        have hc0_ : w'.cell? ⟨gb169, 0, none⟩ = some (.int .i64 2) := (blk_cell BK169.out 0).trans rfl
        have hc1_ : w'.cell? ⟨gb169, 1, none⟩ = some (.int .i64 1) := (blk_cell BK169.out 1).trans rfl
        have hc2_ : w'.cell? ⟨gb169, 2, none⟩ = some (.bool false) := (blk_cell BK169.out 2).trans rfl
        have hc3_ : w'.cell? ⟨gb169, 3, none⟩ = some (.slice Ao55 y166.length co55) := (blk_cell BK169.out 3).trans rfl
        refine value_ (w1 := w') (v := .agg #[.int .i64 2, .int .i64 1, .bool false, .slice Ao55 y166.length co55]) (by rfl) rfl ?_ ?_
        · go_simp
          (try simp only [i64_w])
          try rfl
        refine hK.out _ _ ⟨v171, v174, v177, m7_, (by rw [ha.out]; exact putSel_upk 0 hb_ rfl rfl rfl), Q_HO168, Q_BK169, Q_HB, fun h0_ => absurd ((hoff 3 (by kernel_rfl)).symm.trans h0_) (by decide), Q_HO175, fun h0_ => absurd ((hoff 6 (by kernel_rfl)).symm.trans h0_) (by decide), fun h0_ => absurd ((hoff 7 (by kernel_rfl)).symm.trans h0_) (by decide)⟩
      refine steps_cons ?_ ?_
      · rintro b a w' ⟨v171, v174, v177, m7_, ha, Q_HO168, Q_BK169, Q_HB, Q_HO172, Q_HO175, Q_HO178, Q_X7_⟩ hb_ hon hoff
        refine ⟨_, rfl, fun K hK => ?_⟩
        have e1 : a.tmps[1]? = some (.pointer (some ⟨gb169, 0, none⟩)) := by rw [ha]; exact (putSel_off rfl).trans rfl
        replace ha := Aside0.mk ha
        have HO168 := Aside0.mk (Q_HO168 (hoff 3 (by kernel_rfl)))
        have BK169 := Aside0.mk Q_BK169
        have HB := Aside0.mk Q_HB
        have hc0_ : w'.cell? ⟨gb169, 0, none⟩ = some (.int .i64 2) := (blk_cell BK169.out 0).trans rfl
        have hc1_ : w'.cell? ⟨gb169, 1, none⟩ = some (.int .i64 1) := (blk_cell BK169.out 1).trans rfl
        have hc2_ : w'.cell? ⟨gb169, 2, none⟩ = some (.bool false) := (blk_cell BK169.out 2).trans rfl
        have hc3_ : w'.cell? ⟨gb169, 3, none⟩ = some (.slice Ao55 y166.length co55) := (blk_cell BK169.out 3).trans rfl
        refine value_ (w1 := w') (v := .agg #[.int .i64 2, .int .i64 1, .bool false, .slice Ao55 y166.length co55]) (by rfl) rfl ?_ ?_
        · go_simp
          (try simp only [i64_w])
          try rfl
        refine hK.out _ _ ⟨v171, v174, v177, m7_, (by rw [ha.out]; exact putSel_upk 1 hb_ rfl rfl rfl), Q_HO168, Q_BK169, Q_HB, fun h0_ => absurd ((hoff 3 (by kernel_rfl)).symm.trans h0_) (by decide), Q_HO175, fun h0_ => absurd ((hoff 6 (by kernel_rfl)).symm.trans h0_) (by decide), fun h0_ => absurd ((hoff 7 (by kernel_rfl)).symm.trans h0_) (by decide)⟩
      refine steps_cons ?_ ?_
      · rintro b a w' ⟨v171, v174, v177, m7_, ha, Q_HO168, Q_BK169, Q_HB, Q_HO172, Q_HO175, Q_HO178, Q_X7_⟩ hb_ hon hoff
        refine ⟨_, rfl, fun K hK => ?_⟩
        have e1 : a.tmps[1]? = some (.pointer (some ⟨gb169, 0, none⟩)) := by rw [ha]; exact (putSel_off rfl).trans rfl
        replace ha := Aside0.mk ha
        have HO168 := Aside0.mk (Q_HO168 (hoff 3 (by kernel_rfl)))
        have BK169 := Aside0.mk Q_BK169
        have HB := Aside0.mk Q_HB
        have hc0_ : w'.cell? ⟨gb169, 0, none⟩ = some (.int .i64 2) := (blk_cell BK169.out 0).trans rfl
        have hc1_ : w'.cell? ⟨gb169, 1, none⟩ = some (.int .i64 1) := (blk_cell BK169.out 1).trans rfl
        have hc2_ : w'.cell? ⟨gb169, 2, none⟩ = some (.bool false) := (blk_cell BK169.out 2).trans rfl
        have hc3_ : w'.cell? ⟨gb169, 3, none⟩ = some (.slice Ao55 y166.length co55) := (blk_cell BK169.out 3).trans rfl
        refine value_ (w1 := w') (v := .agg #[.int .i64 2, .int .i64 1, .bool false, .slice Ao55 y166.length co55]) (by rfl) rfl ?_ ?_
        · go_simp
          (try simp only [i64_w])
          try rfl
        refine hK.out _ _ ⟨v171, v174, v177, m7_, (by rw [ha.out]; exact putSel_upk 2 hb_ rfl rfl rfl), Q_HO168, Q_BK169, Q_HB, fun h0_ => absurd ((hoff 3 (by kernel_rfl)).symm.trans h0_) (by decide), Q_HO175, fun h0_ => absurd ((hoff 6 (by kernel_rfl)).symm.trans h0_) (by decide), fun h0_ => absurd ((hoff 7 (by kernel_rfl)).symm.trans h0_) (by decide)⟩
      refine steps_cons ?_ ?_
      · rintro b a w' ⟨v171, v174, v177, m7_, ha, Q_HO168, Q_BK169, Q_HB, Q_HO172, Q_HO175, Q_HO178, Q_X7_⟩ hb_ hon hoff
        refine ⟨_, rfl, fun K hK => ?_⟩
        have e5 : a.tmps[5]? = some (.agg #[.int .i64 2, .int .i64 1, .bool false, .slice Ao55 y166.length co55]) := by rw [ha]; exact putSel_on (e := (0, 5, .agg #[.int .i64 2, .int .i64 1, .bool false, .slice Ao55 y166.length co55])) 0 rfl rfl (hon 0 (by kernel_rfl)) rfl
        have e6 : a.tmps[6]? = some (.agg #[.int .i64 2, .int .i64 1, .bool false, .slice Ao55 y166.length co55]) := by rw [ha]; exact putSel_on (e := (1, 6, .agg #[.int .i64 2, .int .i64 1, .bool false, .slice Ao55 y166.length co55])) 1 rfl rfl (hon 1 (by kernel_rfl)) rfl
        have e7 : a.tmps[7]? = some (.agg #[.int .i64 2, .int .i64 1, .bool false, .slice Ao55 y166.length co55]) := by rw [ha]; exact putSel_on (e := (2, 7, .agg #[.int .i64 2, .int .i64 1, .bool false, .slice Ao55 y166.length co55])) 2 rfl rfl (hon 2 (by kernel_rfl)) rfl
        replace ha := Aside0.mk ha
        have HO168 := Aside0.mk (Q_HO168 hb_)
        have BK169 := Aside0.mk Q_BK169
        have HB := Aside0.mk Q_HB
        refine Kd.N_lit_step k54 _ 54 ?hg (N' := 8) ?hd (xs := ([(⟨2, 1, false, y166⟩ : S54), (⟨2, 1, false, y166⟩ : S54), (⟨2, 1, false, y166⟩ : S54)] : List (S54))) (inner := [.int .i64 2, .int .i64 1, .bool false, .slice Ao55 y166.length co55, .int .i64 2, .int .i64 1, .bool false, .slice Ao55 y166.length co55, .int .i64 2, .int .i64 1, .bool false, .slice Ao55 y166.length co55]) (ok := (fun k_ => k_ ≠ gb169)) (okp := (fun k_ => k_ ≠ gb169)) ?hr ?hp (fun _ hk => hk) ((show ∀ k_, w'.heap.size ≤ k_ → (fun k_ => k_ ≠ gb169) k_ from fun k_ hk => Kd.freshB (g := gb169) (o := .cells #[.int .i64 2, .int .i64 1, .bool false, .slice Ao55 y166.length co55] 54 (0, 0)) (by (with_reducible repeat (first | refine blk_drewN ?_ _ | refine blk_drew ?_ | refine blk_alloc ?_ _)); exact BK169.out) k_ hk) _ (Nat.le_refl _)) (Below.refl _ _) (Nat.le_refl _) (by simp) ?_; (case hd => rfl); (case hg => rfl); (case hr => first | (go_simp; done) | (go_simp; rfl)); (case hp => exact (Reps.c4 (show Kd.FK k54 _ _ (⟨2, 1, false, y166⟩ : S54) [.int .i64 2, .int .i64 1, .bool false, .slice Ao55 y166.length co55] from (k54_mkF _ _ (⟨2, 1, false, y166⟩ : S54) (Kd.R_reads' (Kd.R_mono (ok' := (fun k_ => k_ ≠ gb169)) (Kd.R_types (HO168.out) BK169.out (by decide)) (fun k_ hk => hk.2))).2.1 (Kd.R_F (Kd.R_mono (ok' := (fun k_ => k_ ≠ gb169)) (Kd.R_types (HO168.out) BK169.out (by decide)) (fun k_ hk => hk.2))))) (Reps.c4 (show Kd.FK k54 _ _ (⟨2, 1, false, y166⟩ : S54) [.int .i64 2, .int .i64 1, .bool false, .slice Ao55 y166.length co55] from (k54_mkF _ _ (⟨2, 1, false, y166⟩ : S54) (Kd.R_reads' (Kd.R_mono (ok' := (fun k_ => k_ ≠ gb169)) (Kd.R_types (HO168.out) BK169.out (by decide)) (fun k_ hk => hk.2))).2.1 (Kd.R_F (Kd.R_mono (ok' := (fun k_ => k_ ≠ gb169)) (Kd.R_types (HO168.out) BK169.out (by decide)) (fun k_ hk => hk.2))))) (Reps.c4 (show Kd.FK k54 _ _ (⟨2, 1, false, y166⟩ : S54) [.int .i64 2, .int .i64 1, .bool false, .slice Ao55 y166.length co55] from (k54_mkF _ _ (⟨2, 1, false, y166⟩ : S54) (Kd.R_reads' (Kd.R_mono (ok' := (fun k_ => k_ ≠ gb169)) (Kd.R_types (HO168.out) BK169.out (by decide)) (fun k_ hk => hk.2))).2.1 (Kd.R_F (Kd.R_mono (ok' := (fun k_ => k_ ≠ gb169)) (Kd.R_types (HO168.out) BK169.out (by decide)) (fun k_ hk => hk.2))))) (Reps.none _ _)))))
        intro v171 w60 ho61 hb hg_ hnew_
        clear hg_ hnew_
        (first | rw [← Ny170.out] at ho61 | (simp only [Int.reduceToNat] at ho61; rw [← Ny170.out] at ho61))
        have n0_ := Aside0.mk (Kd.N_lower ho61 (below_size (by repeat (first | (with_reducible first | exact HB.out | apply below_alloc | apply pw_below_drewN | apply below_drew1 | refine below_set ?_ GE169.out) | exact HB.out))))
        have n1_ := Aside0.mk (blk_below (g := gb169) (o := .cells #[.int .i64 2, .int .i64 1, .bool false, .slice Ao55 y166.length co55] 54 (0, 0)) (by (with_reducible repeat (first | refine blk_drewN ?_ _ | refine blk_drew ?_ | refine blk_alloc ?_ _)); exact BK169.out) hb)
        have n2_ := Aside0.mk (below_step (by repeat (first | (with_reducible first | exact HB.out | apply below_alloc | apply pw_below_drewN | apply below_drew1 | refine below_set ?_ GE169.out) | exact HB.out)) hb)
        have z_HO175 := fun (h0_ : b 5 = true) => (show TabC w60 v174 t173 from by first | exact (TabC.below (by (with_reducible repeat (first | apply TabC.alloc | apply TabC.drewN | apply TabC.drew)); exact (Q_HO175 h0_)) hb) | exact Kd.R_mono (TabC.below (by (with_reducible repeat (first | apply TabC.alloc | apply TabC.drewN | apply TabC.drew)); exact (Q_HO175 h0_)) hb) (fun _ h_ => by first | trivial | exact h_ | exact h_.1))
        clear BK169
        clear HB
        clear HO168
        have HO172 := n0_
        have BK169 := n1_
        have HB := n2_
        clear n0_ n1_ n2_
        clear hb ho61
        refine hK.out _ _ ⟨v171, v174, v177, m7_, (by rw [ha.out]; exact putSel_upk 3 hb_ rfl rfl rfl), fun h0_ => absurd ((up_self b 3).symm.trans h0_) (by decide), (by (with_reducible repeat (first | refine blk_drewN ?_ _ | refine blk_drew ?_ | refine blk_alloc ?_ _)); exact BK169.out), (by repeat (first | (with_reducible first | exact HB.out | apply below_alloc | apply pw_below_drewN | apply below_drew1 | refine below_set ?_ GE169.out) | exact HB.out)), fun _ => (by (with_reducible repeat (first | apply Kd.N_alloc | apply Kd.N_drewN | apply Kd.N_drew)); exact HO172.out), z_HO175, fun h0_ => absurd ((hoff 6 (by kernel_rfl)).symm.trans h0_) (by decide), fun h0_ => absurd ((hoff 7 (by kernel_rfl)).symm.trans h0_) (by decide)⟩
      refine steps_cons ?_ ?_
      · rintro b a w' ⟨v171, v174, v177, m7_, ha, Q_HO168, Q_BK169, Q_HB, Q_HO172, Q_HO175, Q_HO178, Q_X7_⟩ hb_ hon hoff
        refine ⟨_, rfl, fun K hK => ?_⟩
        replace ha := Aside0.mk ha
        have BK169 := Aside0.mk Q_BK169
        have HB := Aside0.mk Q_HB
        refine value_ (w1 := w') (v := .agg #[.int .i64 281474976710655, .int .i64 0, .bool false, .int .i64 0, .int .i64 0, .int .i64 2048, .string (⟨#[]⟩ : ByteArray)]) (by rfl) rfl ?_ ?_
        · go_simp
          (try simp only [i64_w])
          try rfl
        refine hK.out _ _ ⟨v171, v174, v177, m7_, (by rw [ha.out]; exact putSel_upk 4 hb_ rfl rfl rfl), Q_HO168, Q_BK169, Q_HB, Q_HO172, Q_HO175, fun h0_ => absurd ((hoff 6 (by kernel_rfl)).symm.trans h0_) (by decide), fun h0_ => absurd ((hoff 7 (by kernel_rfl)).symm.trans h0_) (by decide)⟩
      refine steps_cons ?_ ?_
      · rintro b a w' ⟨v171, v174, v177, m7_, ha, Q_HO168, Q_BK169, Q_HB, Q_HO172, Q_HO175, Q_HO178, Q_X7_⟩ hb_ hon hoff
        refine ⟨_, rfl, fun K hK => ?_⟩
        replace ha := Aside0.mk ha
        have BK169 := Aside0.mk Q_BK169
        have HB := Aside0.mk Q_HB
        refine goes_ Try.func28 (by kernel_rfl) rfl #[] (by rfl) rfl rfl (by first | (simp only [List.map_toArray, List.map_cons, List.map_nil, Act.eval, Array.getD_eq_getD_getElem?, Option.getD_some]; done) | (simp only [List.map_toArray, List.map_cons, List.map_nil, Act.eval, Array.getD_eq_getD_getElem?, Option.getD_some]; rfl)) ?_
        with_reducible refine (fdb_New.calls  t173 _ A1.out).mono ?_
        rintro e w60 ⟨v174, rfl, ho0, hb⟩
        refine ⟨_, rfl, ?_⟩
        have n1_ := Aside0.mk ho0
        have n2_ := Aside0.mk (blk_below (g := gb169) (o := .cells #[.int .i64 2, .int .i64 1, .bool false, .slice Ao55 y166.length co55] 54 (0, 0)) (by (with_reducible repeat (first | refine blk_drewN ?_ _ | refine blk_drew ?_ | refine blk_alloc ?_ _)); exact BK169.out) hb)
        have n3_ := Aside0.mk (below_step (by repeat (first | (with_reducible first | exact HB.out | apply below_alloc | apply pw_below_drewN | apply below_drew1 | refine below_set ?_ GE169.out) | exact HB.out)) hb)
        have z_HO168 := fun (h0_ : b 3 = false) => (show Kd.R (Kd.int .i64) 3 w60 w.heap.size (fun _ => True) (.slice Ao55 y166.length co55) y166 from by first | exact (Kd.R_below (by (with_reducible repeat (first | apply Kd.R_alloc | apply Kd.R_drewN | apply Kd.R_drew)); exact (Q_HO168 h0_)) hb) | exact Kd.R_mono (Kd.R_below (by (with_reducible repeat (first | apply Kd.R_alloc | apply Kd.R_drewN | apply Kd.R_drew)); exact (Q_HO168 h0_)) hb) (fun _ h_ => by first | trivial | exact h_ | exact h_.1))
        have z_HO172 := fun (h0_ : b 3 = true) => (show Kd.N k54 54 w60 w.heap.size (fun k_ => k_ ≠ gb169) v171 y170 from by first | exact (Kd.N_below (by (with_reducible repeat (first | apply Kd.N_alloc | apply Kd.N_drewN | apply Kd.N_drew)); exact (Q_HO172 h0_)) hb) | exact Kd.N_mono (Kd.N_below (by (with_reducible repeat (first | apply Kd.N_alloc | apply Kd.N_drewN | apply Kd.N_drew)); exact (Q_HO172 h0_)) hb) (fun _ h_ => by first | trivial | exact h_ | exact h_.1))
        clear BK169
        clear HB
        have HO175 := n1_
        have BK169 := n2_
        have HB := n3_
        clear n1_ n2_ n3_
        (try clear hb)
        (try clear hb2)
        (try clear hk)
        (try clear hi)
        (try clear ho0)
        refine hK.out _ _ ⟨v171, v174, v177, m7_, (by rw [ha.out]; exact putSel_upk 5 hb_ rfl rfl rfl), z_HO168, (by (with_reducible repeat (first | refine blk_drewN ?_ _ | refine blk_drew ?_ | refine blk_alloc ?_ _)); exact BK169.out), (by repeat (first | (with_reducible first | exact HB.out | apply below_alloc | apply pw_below_drewN | apply below_drew1 | refine below_set ?_ GE169.out) | exact HB.out)), z_HO172, fun _ => (by (with_reducible repeat (first | apply TabC.alloc | apply TabC.drewN | apply TabC.drew)); exact HO175.out), fun h0_ => absurd ((hoff 6 (by kernel_rfl)).symm.trans h0_) (by decide), fun h0_ => absurd ((hoff 7 (by kernel_rfl)).symm.trans h0_) (by decide)⟩
      refine steps_cons ?_ ?_
      · rintro b a w' ⟨v171, v174, v177, m7_, ha, Q_HO168, Q_BK169, Q_HB, Q_HO172, Q_HO175, Q_HO178, Q_X7_⟩ hb_ hon hoff
        refine ⟨_, rfl, fun K hK => ?_⟩
        have e8 : a.tmps[8]? = some (v171) := by rw [ha]; exact putSel_on (e := (3, 8, v171)) 3 rfl rfl (hon 3 (by kernel_rfl)) rfl
        have e9 : a.tmps[9]? = some (.agg #[.int .i64 281474976710655, .int .i64 0, .bool false, .int .i64 0, .int .i64 0, .int .i64 2048, .string (⟨#[]⟩ : ByteArray)]) := by rw [ha]; exact putSel_on (e := (4, 9, .agg #[.int .i64 281474976710655, .int .i64 0, .bool false, .int .i64 0, .int .i64 0, .int .i64 2048, .string (⟨#[]⟩ : ByteArray)])) 4 rfl rfl (hon 4 (by kernel_rfl)) rfl
        have e10 : a.tmps[10]? = some (v174) := by rw [ha]; exact putSel_on (e := (5, 10, v174)) 5 rfl rfl (hon 5 (by kernel_rfl)) rfl
        replace ha := Aside0.mk ha
        have BK169 := Aside0.mk Q_BK169
        have HB := Aside0.mk Q_HB
        have HO172 := Aside0.mk (Q_HO172 (hon 3 (by kernel_rfl)))
        have HO175 := Aside0.mk (Q_HO175 (hon 5 (by kernel_rfl)))
        obtain ⟨Ao64, co64, eo64⟩ := Kd.N_slice HO172.out
        (first | subst eo64 | (injection eo64 with f1_ f2_ f3_; have f4_ := f1_.symm; have f5_ := f3_.symm; clear f1_ f2_ f3_; subst f4_; subst f5_))
        refine goes_ Try.func27 (by kernel_rfl) rfl #[.slice Ao64 y170.length co64, .int .i64 1, .agg #[.int .i64 281474976710655, .int .i64 0, .bool false, .int .i64 0, .int .i64 0, .int .i64 2048, .string (⟨#[]⟩ : ByteArray)], v174] (by rfl) rfl rfl (by first | (simp only [List.map_toArray, List.map_cons, List.map_nil, Act.eval, Array.getD_eq_getD_getElem?, Option.getD_some, e8, e9, e10]; done) | (simp only [List.map_toArray, List.map_cons, List.map_nil, Act.eval, Array.getD_eq_getD_getElem?, Option.getD_some, e8, e9, e10]; rfl)) ?_
        with_reducible refine (relay_Relay.calls k _ _ y170 1 281474976710655 0 false 0 0 2048 (⟨#[]⟩ : ByteArray) _ t173 t176 _ ?side1 ?side2 ?side3 A2.out).mono ?_
        (case side1 => repeat (first | exact (Kd.N_reads' HO172.out).2.2 | (with_reducible refine Kd.C_alloc ?_ _) | (with_reducible refine Kd.C_drewN ?_ _) | (with_reducible refine Kd.C_drew ?_)))
        (case side2 => exact (Kd.N_reads' HO172.out).2.1)
        (case side3 => repeat (first | exact HO175.out | (with_reducible refine TabC.alloc ?_ _) | (with_reducible refine TabC.drewN ?_ _) | (with_reducible refine TabC.drew ?_)))
        rintro e w66 ⟨v177, rfl, ho0, hb⟩
        refine ⟨_, rfl, ?_⟩
        have n0_ := Aside0.mk (Kd.N_elder' (by (with_reducible repeat (first | apply Kd.N_alloc | apply Kd.N_drewN | apply Kd.N_drew)); exact HO172.out) (Kd.R_base ho0) hb)
        have n1_ := Aside0.mk (TabC.below (by (with_reducible repeat (first | apply TabC.alloc | apply TabC.drewN | apply TabC.drew)); exact HO175.out) hb)
        have n2_ := Aside0.mk (Kd.R_lower ho0 (below_size (by repeat (first | (with_reducible first | exact HB.out | apply below_alloc | apply pw_below_drewN | apply below_drew1 | refine below_set ?_ GE169.out) | exact HB.out))))
        have n3_ := Aside0.mk (blk_below (g := gb169) (o := .cells #[.int .i64 2, .int .i64 1, .bool false, .slice Ao55 y166.length co55] 54 (0, 0)) (by (with_reducible repeat (first | refine blk_drewN ?_ _ | refine blk_drew ?_ | refine blk_alloc ?_ _)); exact BK169.out) hb)
        have n4_ := Aside0.mk (below_step (by repeat (first | (with_reducible first | exact HB.out | apply below_alloc | apply pw_below_drewN | apply below_drew1 | refine below_set ?_ GE169.out) | exact HB.out)) hb)
        clear HO172
        clear HO175
        clear BK169
        clear HB
        have HO172 := n0_
        have HO175 := n1_
        have HO178 := n2_
        have BK169 := n3_
        have HB := n4_
        clear n0_ n1_ n2_ n3_ n4_
        (try clear hb)
        (try clear hb2)
        (try clear hk)
        (try clear hi)
        (try clear ho0)
        refine hK.out _ _ ⟨.slice Ao64 y170.length co64, v174, v177, m7_, (by rw [ha.out]; exact putSel_upk 6 hb_ rfl rfl rfl), fun h0_ => absurd ((hon 3 (by kernel_rfl)).symm.trans h0_) (by decide), (by (with_reducible repeat (first | refine blk_drewN ?_ _ | refine blk_drew ?_ | refine blk_alloc ?_ _)); exact BK169.out), (by repeat (first | (with_reducible first | exact HB.out | apply below_alloc | apply pw_below_drewN | apply below_drew1 | refine below_set ?_ GE169.out) | exact HB.out)), fun _ => (by (with_reducible repeat (first | apply Kd.N_alloc | apply Kd.N_drewN | apply Kd.N_drew)); exact Kd.N_mono HO172.out (fun _ hk => by first | exact hk | exact hk.1 | exact hk.1.1)), fun _ => (by (with_reducible repeat (first | apply TabC.alloc | apply TabC.drewN | apply TabC.drew)); exact HO175.out), fun _ => (by (with_reducible repeat (first | apply Kd.R_alloc | apply Kd.R_drewN | apply Kd.R_drew)); exact HO178.out), fun h0_ => absurd ((hoff 7 (by kernel_rfl)).symm.trans h0_) (by decide)⟩
      refine steps_cons ?_ ?_
      · rintro b a w' ⟨v171, v174, v177, m7_, ha, Q_HO168, Q_BK169, Q_HB, Q_HO172, Q_HO175, Q_HO178, Q_X7_⟩ hb_ hon hoff
        refine ⟨_, rfl, fun K hK => ?_⟩
        have e11 : a.tmps[11]? = some (v177) := by rw [ha]; exact putSel_on (e := (6, 11, v177)) 6 rfl rfl (hon 6 (by kernel_rfl)) rfl
        replace ha := Aside0.mk ha
        have BK169 := Aside0.mk Q_BK169
        have HB := Aside0.mk Q_HB
        have HO172 := Aside0.mk (Q_HO172 (hon 3 (by kernel_rfl)))
        have HO175 := Aside0.mk (Q_HO175 (hon 5 (by kernel_rfl)))
        have HO178 := Aside0.mk (Q_HO178 (hon 6 (by kernel_rfl)))
        refine value_ (w1 := w') (v := v177) (by rfl) rfl ?_ ?_
        · go_simp
          (try simp only [i64_w])
          try rfl
        refine hK.out _ _ ⟨v171, v174, v177, (v177), (by rw [ha.out]; exact putSel_upk 7 hb_ rfl rfl rfl), fun h0_ => absurd ((hon 3 (by kernel_rfl)).symm.trans h0_) (by decide), Q_BK169, Q_HB, Q_HO172, Q_HO175, Q_HO178, fun _ => rfl⟩
      exact steps_nil
    rintro b a w66 hall ⟨v171, v174, v177, m7_, ha, Q_HO168, Q_BK169, Q_HB, Q_HO172, Q_HO175, Q_HO178, Q_X7_⟩
    clear BK169 HB HO168
    have hb0_ := hall 0 (by kernel_rfl)
    have hb1_ := hall 1 (by kernel_rfl)
    have hb2_ := hall 2 (by kernel_rfl)
    have hb3_ := hall 3 (by kernel_rfl)
    have hb4_ := hall 4 (by kernel_rfl)
    have hb5_ := hall 5 (by kernel_rfl)
    have hb6_ := hall 6 (by kernel_rfl)
    have hb7_ := hall 7 (by kernel_rfl)
    subst ha
    obtain rfl := Q_X7_ hb7_
    simp only [putSel, hb0_, hb1_, hb2_, hb3_, hb4_, hb5_, hb6_, hb7_, if_true, Act.put, List.setIfInBounds_toArray, List.set_cons_zero, List.set_cons_succ]
    clear Q_HO168
    have BK169 := Aside0.mk Q_BK169
    clear Q_BK169
    have HB := Aside0.mk Q_HB
    clear Q_HB
    have HO172 := Aside0.mk (Q_HO172 hb3_)
    clear Q_HO172
    have HO175 := Aside0.mk (Q_HO175 hb5_)
    clear Q_HO175
    have HO178 := Aside0.mk (Q_HO178 hb6_)
    clear Q_HO178
    clear hall hb0_ hb1_ hb2_ hb3_ hb4_ hb5_ hb6_ hb7_
    obtain ⟨Ao67, co67, eo67⟩ := Kd.R_slice HO178.out
    subst eo67
    try go_wp2
    go_ret
    exact ⟨by first | rfl | (simp [errW_none, errW_some] <;> rfl) | (simp [*, errW_none, errW_some] <;> rfl), by repeat (first | (with_reducible first | exact HB.out | apply below_alloc | apply pw_below_drewN | apply below_drew1 | refine below_set ?_ GE169.out) | exact HB.out)⟩
end Go.Proofs.Ytjhkbmdblfdlnaa.QRlb
namespace Go.Proofs.Ytjhkbmdblfdlnaa.QRlb
open Go.RowKit Go.Proofs.YtjhkbmdblfdlnaaW.PrintWords Go.Proofs.YtjhkbmdblfdlnaaW.PrintLast Go.Proofs.YtjhkbmdblfdlnaaW.PrintMore
attribute [local go_sem] max2_int min2_int max_two min_two max_three min_three max_four min_four
set_option linter.unusedVariables false
set_option linter.unusedSimpArgs false
def kissgatelaw19_plain.l0 : Nat → List (S54) → List (S64) → List (S54) → Int → Int → Option ((List (S64)) × Bool)
  | 0, _, _, _, _, _ => none
  | k + 1, x0, x4, x7, x8, x9 => if x9 < x8 then (if 0 ≤ x9 then (if x9 < (x7.length : Int) then (if (((rd_T54 x7 x9).f3).length : Int) > 40 then (some (([] : List (S64)), false)) else (if x4.length < 2932031007402 then (kissgatelaw19_plain.l0 k x0 (x4 ++ [(⟨(rd_T54 x7 x9).f0, (rd_T54 x7 x9).f1, (rd_T54 x7 x9).f2, (rd_T54 x7 x9).f3⟩ : S64)]) x7 x8 (wrap64 (x9 + 1))) else (none))) else (none)) else (none)) else (some (x4, decide ((x0.length : Int) ≤ 10)))
def kissgatelaw19_plain.f (k : Nat) (l0 : List (S54)) : Option ((List (S64)) × Bool) := kissgatelaw19_plain.l0 k l0 ([] : List (S64)) l0 (l0.length : Int) 0
set_option maxHeartbeats 8000000 in
set_option maxRecDepth 100000 in
theorem kissgatelaw19_plain.calls (k : Nat) (P0_ : Nat → Prop) (A0 : Option Addr) (c0 : Nat) (l0 : List (S54)) (r1 : List (S64)) (r2 : Bool) (w : World) (hs0 : Kd.V k54 54 w w.heap.size (fun k_ => P0_ k_) (.slice A0 l0.length c0) l0) (h : kissgatelaw19_plain.f k l0 = some (r1, r2)) :
    Calls Try.prog 26 #[.slice A0 l0.length c0] w fun e w' => ∃ v0_ : Value, e = .returned (.tuple #[v0_, .bool r2]) ∧ Kd.N k64 64 w' w.heap.size (fun k_ => (P0_ k_ ∨ w.heap.size ≤ k_)) v0_ r1 ∧ Below w.heap.size w w' := by
  have hu54 := Try.underlying54
  have hu64 := Try.underlying64
  have HO0 := Aside0.mk (show Kd.V k54 54 w w.heap.size (fun k_ => (P0_ k_ ∨ w.heap.size ≤ k_)) (.slice A0 l0.length c0) l0 from Kd.V_mono hs0 (fun k_ hk => .inl hk))
  have HB := Aside0.mk (Below.refl w.heap.size w)
  have H : (kissgatelaw19_plain.l0 k l0 ([] : List (S64)) l0 (l0.length : Int) 0) = some (r1, r2) := h
  clear h
  have H' := Aside0.mk H
  clear H
  go_enter Try.func26, Try.ntmps26
  go_wp2
  go_loopg [4, 9] k (fun kq v4 v9 w' => ∃ (x4_1 : List (S64)) (x9_1 : Int), v9 = .int .i64 x9_1 ∧ Aside0 (kissgatelaw19_plain.l0 kq l0 x4_1 l0 (l0.length : Int) x9_1 = some (r1, r2)) ∧ Aside0 (kq ≤ k) ∧ Aside0 (Kd.V k54 54 w' w.heap.size (fun k_ => (P0_ k_ ∨ w.heap.size ≤ k_) ∧ some k_ ≠ (v4 : Value).ownBlock) (.slice A0 l0.length c0) l0) ∧ Aside0 (Kd.N k64 64 w' w.heap.size (fun k_ => (P0_ k_ ∨ w.heap.size ≤ k_)) v4 x4_1) ∧ Aside0 (Kd.V k54 54 w' w.heap.size (fun k_ => (P0_ k_ ∨ w.heap.size ≤ k_) ∧ some k_ ≠ (v4 : Value).ownBlock) (.slice A0 l0.length c0) l0) ∧ Aside0 (Below w.heap.size w w'))
  case atStart => exact ⟨(([] : List (S64))), (0), (by first | rfl | (simp; done) | (simp [*]; done)), H', ⟨Nat.le_refl _⟩, ⟨by (with_reducible repeat (first | apply Kd.V_alloc | apply Kd.V_drewN | apply Kd.V_drew)); exact Kd.V_mono HO0.out (fun _ hk => ⟨hk, (by simp [Value.ownBlock])⟩)⟩, ⟨by first | exact Kd.S_nil _ _ _ _ _ | exact Kd.N_nil _ _ _ _ _ | exact Kd.V_nil _ _ _ _ _ | exact Kd.Q_nil _ _ _ _ _ | exact Kd.R_nil _ _ _ _ _⟩, ⟨by (with_reducible repeat (first | apply Kd.V_alloc | apply Kd.V_drewN | apply Kd.V_drew)); exact Kd.V_mono HO0.out (fun _ hk => ⟨hk, (by simp [Value.ownBlock])⟩)⟩, ⟨by repeat (first | (with_reducible first | exact HB.out | apply below_alloc | apply pw_below_drewN | apply below_drew1) | exact HB.out)⟩⟩
  case round =>
    clear H'
    obtain ⟨x4_1, x9_1, rfl, HA, HK1, HO_0, HO_4, HO_7, HB⟩ := hrel
    cases gk with
    | zero => exact absurd HA.out (by simp [kissgatelaw19_plain.l0])
    | succ k1 =>
      have H := HA.out
      clear HA
      simp only [kissgatelaw19_plain.l0] at H
      by_cases c2 : x9_1 < (l0.length : Int)
      · rw [if_pos c2] at H
        have c2b0 : decide (x9_1 < (l0.length : Int)) = true := decide_eq_true c2
        clear c2
        by_cases c3 : 0 ≤ x9_1
        · rw [if_pos c3] at H
          have c3b0 : decide (0 ≤ x9_1) = true := decide_eq_true c3
          clear c3
          by_cases c4 : x9_1 < (l0.length : Int)
          · rw [if_pos c4] at H
            have c4b0 : decide (x9_1 < (l0.length : Int)) = true := decide_eq_true c4
            clear c4
            by_cases c5 : (((rd_T54 l0 x9_1).f3).length : Int) > 40
            · rw [if_pos c5] at H
              have c5b0 : decide (40 < (((rd_T54 l0 x9_1).f3).length : Int)) = true := decide_eq_true c5
              have c5b1 : decide (40 < ((rd_T54 l0 x9_1).f3).length) = true := decide_eq_true (by omega)
              clear c5
              simp only [Option.some.injEq, Prod.mk.injEq] at H
              obtain ⟨rfl, rfl⟩ := H
              have p182 : 0 ≤ (x9_1 : Int) := of_decide_eq_true (by first | (with_reducible assumption) | assumption)
              have q182 : x9_1 < (l0.length : Int) := of_decide_eq_true (by first | (with_reducible assumption) | assumption)
              obtain ⟨ad182, A182_3, c182_3, e182, hx182_0, hx182_1, hx182_2, hx182_3, hl182_3, hi182_3⟩ := at_T54 (Kd.V_reads' HO_7.out).2.2 x9_1 p182 q182
              cases e182
              obtain ⟨ce182, hce182, hMe182, hcc182⟩ := Kd.V_get HO_7.out z54 x9_1 p182 (by first | exact q182 | exact of_decide_eq_true (by first | (with_reducible assumption) | assumption) | (have e_ := (Kd.V_reads' HO_7.out).1; omega))
              obtain ⟨ua182_3, uc182_3, rfl, ul182_3, ge182_3⟩ := k54_openF hMe182
              have hv182_3 := hcc182 3 _ rfl
              rw [add_field _ _ 3 (by omega)] at hv182_3
              replace hv182_3 := Option.some.inj (hv182_3.symm.trans hx182_3)
              injection hv182_3 with hva_ hvn_ hvc_
              rw [hva_] at ge182_3
              rw [hvc_] at ul182_3
              have HL182_3 := Aside0.mk (show Kd.V (Kd.int .i64) 3 _ w.heap.size _ _ ((rd_T54 l0 x9_1).f3) from Kd.V_mk ul182_3 ge182_3)
              clear hva_ hvn_ hvc_ ge182_3 ul182_3
              clear hcc182 hce182
              have HR182_3 := Aside0.mk hi182_3
              have HC182_3 := Aside0.mk hl182_3
              clear hi182_3 hl182_3
              replace p182 := eq_true p182
              replace q182 := eq_true q182
              go_wp2_with (first | ((with_reducible refine gate_dst (N := 6) rfl ?_); refine box_event ?hg (N := 6) ?hd (cs := #[.int .i64 0, .int .i64 0, .bool false, .slice none 0 0]) (t := 54) ?hr ?_; (case hd => rfl); (case hg => rfl); (case hr => first | (go_simp; done) | (go_simp; rfl)); intro gb183 hg w6 hbox hb; have n0_ := Aside0.mk (Kd.V_below (Kd.V_elderB (by (with_reducible repeat (first | apply Kd.V_alloc | apply Kd.V_drewN | apply Kd.V_drew)); exact HO_0.out) gb183 (Nat.le_of_eq hg.symm)) hb); have n1_ := Aside0.mk (Kd.N_below (Kd.N_elderB (by (with_reducible repeat (first | apply Kd.N_alloc | apply Kd.N_drewN | apply Kd.N_drew)); exact HO_4.out) gb183 (Nat.le_of_eq hg.symm)) hb); have n2_ := Aside0.mk (Kd.V_below (Kd.V_elderB (by (with_reducible repeat (first | apply Kd.V_alloc | apply Kd.V_drewN | apply Kd.V_drew)); exact HO_7.out) gb183 (Nat.le_of_eq hg.symm)) hb); have n3_ := Aside0.mk (Kd.V_below (Kd.V_elderB (by (with_reducible repeat (first | apply Kd.V_alloc | apply Kd.V_drewN | apply Kd.V_drew)); exact HL182_3.out) gb183 (Nat.le_of_eq hg.symm)) hb); have n4_ := Aside0.mk (Kd.C_below (by repeat (first | (with_reducible exact HR182_3.out) | (with_reducible refine Kd.C_alloc ?_ _) | (with_reducible refine Kd.C_drewN ?_ _) | (with_reducible refine Kd.C_drew ?_) | exact HR182_3.out)) hb); have n5_ := Aside0.mk (below_step (by repeat (first | (with_reducible first | exact HB.out | apply below_alloc | apply pw_below_drewN | apply below_drew1) | exact HB.out)) hb); have n6_ := Aside0.mk (hbox); have n7_ := Aside0.mk ((by rw [hg]; exact (below_size (by repeat (first | (with_reducible first | exact HB.out | apply below_alloc | apply pw_below_drewN | apply below_drew1) | exact HB.out))) : w.heap.size ≤ gb183)); have n8_ := Aside0.mk ((by rw [hg]; exact (below_size (by repeat (first | (with_reducible first | exact HB.out | apply below_alloc | apply pw_below_drewN | apply below_drew1) | exact HB.out))) : w.heap.size ≤ gb183)); clear HO_0; clear HO_4; clear HO_7; clear HL182_3; clear HR182_3; clear HB; have HO_0 := n0_; have HO_4 := n1_; have HO_7 := n2_; have HL182_3 := n3_; have HR182_3 := n4_; have HB := n5_; have BK183 := n6_; have GW183 := n7_; have GE183 := n8_; clear n0_ n1_ n2_ n3_ n4_ n5_ n6_ n7_ n8_; clear hb hbox hg; have hcz7_0 : w6.cell? ⟨gb183, 0, none⟩ = some (.int .i64 0) := (blk_cell BK183.out 0).trans rfl; have hcz7_1 : w6.cell? ⟨gb183, 1, none⟩ = some (.int .i64 0) := (blk_cell BK183.out 1).trans rfl; have hcz7_2 : w6.cell? ⟨gb183, 2, none⟩ = some (.bool false) := (blk_cell BK183.out 2).trans rfl; have hcz7_3 : w6.cell? ⟨gb183, 3, none⟩ = some (.slice none 0 0) := (blk_cell BK183.out 3).trans rfl; have hfz7_0 := blk_frozen BK183.out 0; have hfz7_1 := blk_frozen BK183.out 1; have hfz7_2 := blk_frozen BK183.out 2; have hfz7_3 := blk_frozen BK183.out 3))
              go_ret2
              exact ⟨_, by first | rfl | (simp [errW_none, errW_some] <;> rfl) | (simp [*, errW_none, errW_some] <;> rfl), by first | exact Kd.S_nil _ _ _ _ _ | exact Kd.N_nil _ _ _ _ _ | exact Kd.V_nil _ _ _ _ _ | exact Kd.Q_nil _ _ _ _ _ | exact Kd.R_nil _ _ _ _ _, by repeat (first | (with_reducible first | exact HB.out | apply below_alloc | apply pw_below_drewN | apply below_drew1 | refine below_set ?_ GE183.out) | exact HB.out)⟩
            · rw [if_neg c5] at H
              have c5b0 : decide (40 < (((rd_T54 l0 x9_1).f3).length : Int)) = false := decide_eq_false c5
              have c5b1 : decide (40 < ((rd_T54 l0 x9_1).f3).length) = false := decide_eq_false (by omega)
              clear c5
              by_cases c8 : x4_1.length < 2932031007402
              · rw [if_pos c8] at H
                have LMc8 := Aside0.mk c8
                clear c8
                obtain ⟨y184, hy184⟩ : ∃ y_ : List (S64), y_ = (x4_1 ++ [(⟨(rd_T54 l0 x9_1).f0, (rd_T54 l0 x9_1).f1, (rd_T54 l0 x9_1).f2, (rd_T54 l0 x9_1).f3⟩ : S64)]) := ⟨_, rfl⟩
                replace H : (kissgatelaw19_plain.l0 k1 l0 y184 l0 (l0.length : Int) (wrap64 (x9_1 + 1))) = some (r1, r2) := by first | (rw [hy184]; with_reducible exact H) | (have H2_ := (Option.bind_some _ _).symm.trans H; rw [hy184]; with_reducible exact H2_) | (have H2_ := (Option.bind_some _ _).symm.trans H; with_reducible exact H2_) | with_reducible exact H | (rw [hy184]; exact H) | exact H
                have Ny184 := Aside0.mk hy184
                clear hy184
                have H' := Aside0.mk H
                clear H
                have p182 : 0 ≤ (x9_1 : Int) := of_decide_eq_true (by first | (with_reducible assumption) | assumption)
                have q182 : x9_1 < (l0.length : Int) := of_decide_eq_true (by first | (with_reducible assumption) | assumption)
                obtain ⟨ad182, A182_3, c182_3, e182, hx182_0, hx182_1, hx182_2, hx182_3, hl182_3, hi182_3⟩ := at_T54 (Kd.V_reads' HO_7.out).2.2 x9_1 p182 q182
                cases e182
                obtain ⟨ce182, hce182, hMe182, hcc182⟩ := Kd.V_get HO_7.out z54 x9_1 p182 (by first | exact q182 | exact of_decide_eq_true (by first | (with_reducible assumption) | assumption) | (have e_ := (Kd.V_reads' HO_7.out).1; omega))
                obtain ⟨ua182_3, uc182_3, rfl, ul182_3, ge182_3⟩ := k54_openF hMe182
                have hv182_3 := hcc182 3 _ rfl
                rw [add_field _ _ 3 (by omega)] at hv182_3
                replace hv182_3 := Option.some.inj (hv182_3.symm.trans hx182_3)
                injection hv182_3 with hva_ hvn_ hvc_
                rw [hva_] at ge182_3
                rw [hvc_] at ul182_3
                have HL182_3 := Aside0.mk (show Kd.V (Kd.int .i64) 3 _ w.heap.size _ _ ((rd_T54 l0 x9_1).f3) from Kd.V_mk ul182_3 ge182_3)
                clear hva_ hvn_ hvc_ ge182_3 ul182_3
                clear hcc182 hce182
                have HR182_3 := Aside0.mk hi182_3
                have HC182_3 := Aside0.mk hl182_3
                clear hi182_3 hl182_3
                replace p182 := eq_true p182
                replace q182 := eq_true q182
                go_wp2_with (first | ((with_reducible refine gate_dst (N := 6) rfl ?_); refine box_event ?hg (N := 6) ?hd (cs := #[.int .i64 0, .int .i64 0, .bool false, .slice none 0 0]) (t := 54) ?hr ?_; (case hd => rfl); (case hg => rfl); (case hr => first | (go_simp; done) | (go_simp; rfl)); intro gb183 hg w9 hbox hb; have n0_ := Aside0.mk (Kd.V_below (Kd.V_elderB (by (with_reducible repeat (first | apply Kd.V_alloc | apply Kd.V_drewN | apply Kd.V_drew)); exact HO_0.out) gb183 (Nat.le_of_eq hg.symm)) hb); have n1_ := Aside0.mk (Kd.N_below (Kd.N_elderB (by (with_reducible repeat (first | apply Kd.N_alloc | apply Kd.N_drewN | apply Kd.N_drew)); exact HO_4.out) gb183 (Nat.le_of_eq hg.symm)) hb); have n2_ := Aside0.mk (Kd.V_below (Kd.V_elderB (by (with_reducible repeat (first | apply Kd.V_alloc | apply Kd.V_drewN | apply Kd.V_drew)); exact HO_7.out) gb183 (Nat.le_of_eq hg.symm)) hb); have n3_ := Aside0.mk (Kd.V_below (Kd.V_elderB (by (with_reducible repeat (first | apply Kd.V_alloc | apply Kd.V_drewN | apply Kd.V_drew)); exact HL182_3.out) gb183 (Nat.le_of_eq hg.symm)) hb); have n4_ := Aside0.mk (Kd.C_below (by repeat (first | (with_reducible exact HR182_3.out) | (with_reducible refine Kd.C_alloc ?_ _) | (with_reducible refine Kd.C_drewN ?_ _) | (with_reducible refine Kd.C_drew ?_) | exact HR182_3.out)) hb); have n5_ := Aside0.mk (below_step (by repeat (first | (with_reducible first | exact HB.out | apply below_alloc | apply pw_below_drewN | apply below_drew1) | exact HB.out)) hb); have n6_ := Aside0.mk (hbox); have n7_ := Aside0.mk ((by rw [hg]; exact (below_size (by repeat (first | (with_reducible first | exact HB.out | apply below_alloc | apply pw_below_drewN | apply below_drew1) | exact HB.out))) : w.heap.size ≤ gb183)); have n8_ := Aside0.mk ((by rw [hg]; exact (below_size (by repeat (first | (with_reducible first | exact HB.out | apply below_alloc | apply pw_below_drewN | apply below_drew1) | exact HB.out))) : w.heap.size ≤ gb183)); clear HO_0; clear HO_4; clear HO_7; clear HL182_3; clear HR182_3; clear HB; have HO_0 := n0_; have HO_4 := n1_; have HO_7 := n2_; have HL182_3 := n3_; have HR182_3 := n4_; have HB := n5_; have BK183 := n6_; have GW183 := n7_; have GE183 := n8_; clear n0_ n1_ n2_ n3_ n4_ n5_ n6_ n7_ n8_; clear hb hbox hg; have hcz10_0 : w9.cell? ⟨gb183, 0, none⟩ = some (.int .i64 0) := (blk_cell BK183.out 0).trans rfl; have hcz10_1 : w9.cell? ⟨gb183, 1, none⟩ = some (.int .i64 0) := (blk_cell BK183.out 1).trans rfl; have hcz10_2 : w9.cell? ⟨gb183, 2, none⟩ = some (.bool false) := (blk_cell BK183.out 2).trans rfl; have hcz10_3 : w9.cell? ⟨gb183, 3, none⟩ = some (.slice none 0 0) := (blk_cell BK183.out 3).trans rfl; have hfz10_0 := blk_frozen BK183.out 0; have hfz10_1 := blk_frozen BK183.out 1; have hfz10_2 := blk_frozen BK183.out 2; have hfz10_3 := blk_frozen BK183.out 3) | ((with_reducible refine gate_store (t := 54) (p := 6) rfl ?_); refine store_event (t := 54) (p := 6) (v := ?vo_w11) (w1 := ((((w9.setCell ⟨gb183, 0, none⟩ (.int .i64 ((rd_T54 l0 x9_1).f0))).setCell ⟨gb183, 1, none⟩ (.int .i64 ((rd_T54 l0 x9_1).f1))).setCell ⟨gb183, 2, none⟩ (.bool ((rd_T54 l0 x9_1).f2))).setCell ⟨gb183, 3, none⟩ (.slice A182_3 ((rd_T54 l0 x9_1).f3).length c182_3))) ?hg ?ho ?hn ?hr ?_; (case ho => rfl); (case hg => rfl); (case hn => rfl); (case hr => first | (go_simp; done) | (go_simp; rfl)); intro w11 hw; have n0_ : Aside0 (Kd.V k54 54 w11 w.heap.size (fun k_ => (P0_ k_ ∨ w.heap.size ≤ k_) ∧ some k_ ≠ (u4 : Value).ownBlock ∧ k_ ≠ gb183) (.slice (some ad182) l0.length c0) l0) := ⟨(by rw [hw]; exact (by (with_reducible repeat (first | apply Kd.V_alloc | apply Kd.V_drewN | apply Kd.V_drew)); exact Kd.V_mono (Kd.V_far (p := ⟨gb183, 3, none⟩) (Kd.V_far (p := ⟨gb183, 2, none⟩) (Kd.V_far (p := ⟨gb183, 1, none⟩) (Kd.V_far (p := ⟨gb183, 0, none⟩) (Kd.V_mono HO_0.out (fun k_ hk => (⟨hk, hk.2⟩ : _ ∧ k_ ≠ gb183))) (fun _ hk => hk.2) (.int .i64 ((rd_T54 l0 x9_1).f0))) (fun _ hk => hk.2) (.int .i64 ((rd_T54 l0 x9_1).f1))) (fun _ hk => hk.2) (.bool ((rd_T54 l0 x9_1).f2))) (fun _ hk => hk.2) (.slice A182_3 ((rd_T54 l0 x9_1).f3).length c182_3)) (fun _ hk => ⟨hk.1.1.1, ⟨hk.1.1.2, hk.1.2⟩⟩)))⟩; have n1_ : Aside0 (Kd.N k64 64 w11 w.heap.size (fun k_ => (P0_ k_ ∨ w.heap.size ≤ k_) ∧ k_ ≠ gb183) u4 x4_1) := ⟨(by rw [hw]; exact (by (with_reducible repeat (first | apply Kd.N_alloc | apply Kd.N_drewN | apply Kd.N_drew)); exact Kd.N_mono (Kd.N_far (p := ⟨gb183, 3, none⟩) (Kd.N_far (p := ⟨gb183, 2, none⟩) (Kd.N_far (p := ⟨gb183, 1, none⟩) (Kd.N_far (p := ⟨gb183, 0, none⟩) (Kd.N_mono HO_4.out (fun k_ hk => (⟨hk, hk.2⟩ : _ ∧ k_ ≠ gb183))) (fun _ hk => hk.2) (.int .i64 ((rd_T54 l0 x9_1).f0))) (fun _ hk => hk.2) (.int .i64 ((rd_T54 l0 x9_1).f1))) (fun _ hk => hk.2) (.bool ((rd_T54 l0 x9_1).f2))) (fun _ hk => hk.2) (.slice A182_3 ((rd_T54 l0 x9_1).f3).length c182_3)) (fun _ hk => ⟨hk.1.1, hk.1.2⟩)))⟩; have n2_ : Aside0 (Kd.V k54 54 w11 w.heap.size (fun k_ => (P0_ k_ ∨ w.heap.size ≤ k_) ∧ some k_ ≠ (u4 : Value).ownBlock ∧ k_ ≠ gb183) (.slice (some ad182) l0.length c0) l0) := ⟨(by rw [hw]; exact (by (with_reducible repeat (first | apply Kd.V_alloc | apply Kd.V_drewN | apply Kd.V_drew)); exact Kd.V_mono (Kd.V_far (p := ⟨gb183, 3, none⟩) (Kd.V_far (p := ⟨gb183, 2, none⟩) (Kd.V_far (p := ⟨gb183, 1, none⟩) (Kd.V_far (p := ⟨gb183, 0, none⟩) (Kd.V_mono HO_7.out (fun k_ hk => (⟨hk, hk.2⟩ : _ ∧ k_ ≠ gb183))) (fun _ hk => hk.2) (.int .i64 ((rd_T54 l0 x9_1).f0))) (fun _ hk => hk.2) (.int .i64 ((rd_T54 l0 x9_1).f1))) (fun _ hk => hk.2) (.bool ((rd_T54 l0 x9_1).f2))) (fun _ hk => hk.2) (.slice A182_3 ((rd_T54 l0 x9_1).f3).length c182_3)) (fun _ hk => ⟨hk.1.1.1, ⟨hk.1.1.2, hk.1.2⟩⟩)))⟩; have n3_ : Aside0 (Kd.V (Kd.int .i64) 3 w11 w.heap.size (fun k_ => (P0_ k_ ∨ w.heap.size ≤ k_) ∧ some k_ ≠ (u4 : Value).ownBlock ∧ k_ ≠ gb183) (.slice A182_3 ((rd_T54 l0 x9_1).f3).length c182_3) ((rd_T54 l0 x9_1).f3)) := ⟨(by rw [hw]; exact (by (with_reducible repeat (first | apply Kd.V_alloc | apply Kd.V_drewN | apply Kd.V_drew)); exact Kd.V_mono (Kd.V_far (p := ⟨gb183, 3, none⟩) (Kd.V_far (p := ⟨gb183, 2, none⟩) (Kd.V_far (p := ⟨gb183, 1, none⟩) (Kd.V_far (p := ⟨gb183, 0, none⟩) (Kd.V_mono HL182_3.out (fun k_ hk => (⟨hk, hk.2⟩ : _ ∧ k_ ≠ gb183))) (fun _ hk => hk.2) (.int .i64 ((rd_T54 l0 x9_1).f0))) (fun _ hk => hk.2) (.int .i64 ((rd_T54 l0 x9_1).f1))) (fun _ hk => hk.2) (.bool ((rd_T54 l0 x9_1).f2))) (fun _ hk => hk.2) (.slice A182_3 ((rd_T54 l0 x9_1).f3).length c182_3)) (fun _ hk => ⟨hk.1.1.1, ⟨hk.1.1.2, hk.1.2⟩⟩)))⟩; have n4_ : Aside0 (w11.heap[gb183]? = some (.cells #[.int .i64 ((rd_T54 l0 x9_1).f0), .int .i64 ((rd_T54 l0 x9_1).f1), .bool ((rd_T54 l0 x9_1).f2), .slice A182_3 ((rd_T54 l0 x9_1).f3).length c182_3] 54 (0, 0))) := ⟨(by rw [hw]; exact (by (with_reducible repeat (first | refine blk_drewN ?_ _ | refine blk_drew ?_ | refine blk_alloc ?_ _)); refine blk_put (cs := #[.int .i64 ((rd_T54 l0 x9_1).f0), .int .i64 ((rd_T54 l0 x9_1).f1), .bool ((rd_T54 l0 x9_1).f2), .slice none 0 0]) ?_ 3 _ rfl; (with_reducible repeat (first | refine blk_drewN ?_ _ | refine blk_drew ?_ | refine blk_alloc ?_ _)); refine blk_put (cs := #[.int .i64 ((rd_T54 l0 x9_1).f0), .int .i64 ((rd_T54 l0 x9_1).f1), .bool false, .slice none 0 0]) ?_ 2 _ rfl; (with_reducible repeat (first | refine blk_drewN ?_ _ | refine blk_drew ?_ | refine blk_alloc ?_ _)); refine blk_put (cs := #[.int .i64 ((rd_T54 l0 x9_1).f0), .int .i64 0, .bool false, .slice none 0 0]) ?_ 1 _ rfl; (with_reducible repeat (first | refine blk_drewN ?_ _ | refine blk_drew ?_ | refine blk_alloc ?_ _)); refine blk_put (cs := #[.int .i64 0, .int .i64 0, .bool false, .slice none 0 0]) ?_ 0 _ rfl; (with_reducible repeat (first | refine blk_drewN ?_ _ | refine blk_drew ?_ | refine blk_alloc ?_ _)); exact BK183.out))⟩; have n5_ : Aside0 (Below w.heap.size w w11) := ⟨(by rw [hw]; exact (by repeat (first | (with_reducible first | exact HB.out | apply below_alloc | apply pw_below_drewN | apply below_drew1 | refine below_set ?_ GE183.out) | exact HB.out)))⟩; clear hw; clear HO_0; clear HO_4; clear HO_7; clear HL182_3; clear BK183; clear HB; have HO_0 := n0_; have HO_4 := n1_; have HO_7 := n2_; have HL182_3 := n3_; have BK183 := n4_; have HB := n5_; clear n0_ n1_ n2_ n3_ n4_ n5_; have hcz12_0 : w11.cell? ⟨gb183, 0, none⟩ = some (.int .i64 ((rd_T54 l0 x9_1).f0)) := (blk_cell BK183.out 0).trans rfl; have hcz12_1 : w11.cell? ⟨gb183, 1, none⟩ = some (.int .i64 ((rd_T54 l0 x9_1).f1)) := (blk_cell BK183.out 1).trans rfl; have hcz12_2 : w11.cell? ⟨gb183, 2, none⟩ = some (.bool ((rd_T54 l0 x9_1).f2)) := (blk_cell BK183.out 2).trans rfl; have hcz12_3 : w11.cell? ⟨gb183, 3, none⟩ = some (.slice A182_3 ((rd_T54 l0 x9_1).f3).length c182_3) := (blk_cell BK183.out 3).trans rfl; have hfz12_0 := blk_frozen BK183.out 0; have hfz12_1 := blk_frozen BK183.out 1; have hfz12_2 := blk_frozen BK183.out 2; have hfz12_3 := blk_frozen BK183.out 3) | ((with_reducible refine gate_builtin (b := .append) (xs := #[.tmp 17, .tmp 27]) rfl ?_); at_builtin; refine Kd.N_append k64 (w0 := w) w.heap.size rfl (.tmp 17) (.tmp 27) 50 64 (.agg #[(.int .i64 0), (.int .i64 0), (.bool false), (.slice none 0 0)]) 48 rfl Try.underlying50 info64 rfl (by decide) (by omega) u4 x4_1 (⟨(rd_T54 l0 x9_1).f0, (rd_T54 l0 x9_1).f1, (rd_T54 l0 x9_1).f2, (rd_T54 l0 x9_1).f3⟩ : S64) [.int .i64 ((rd_T54 l0 x9_1).f0), .int .i64 ((rd_T54 l0 x9_1).f1), .bool ((rd_T54 l0 x9_1).f2), .slice A182_3 ((rd_T54 l0 x9_1).f3).length c182_3] (fun k_ => (P0_ k_ ∨ w.heap.size ≤ k_) ∧ k_ ≠ gb183) (fun k_ => ((fun k_ => (P0_ k_ ∨ w.heap.size ≤ k_) ∧ k_ ≠ gb183)) k_ ∧ some k_ ≠ (u4 : Value).ownBlock) rfl rfl ?aP (fun _ hk => hk) ?aF ?aO ?aB ?aS ?aL ?_; (case aP => exact (k64_mkF _ _ (⟨(rd_T54 l0 x9_1).f0, (rd_T54 l0 x9_1).f1, (rd_T54 l0 x9_1).f2, (rd_T54 l0 x9_1).f3⟩ : S64) (Kd.V_reads' (Kd.V_mono (ok' := (fun k_ => ((fun k_ => (P0_ k_ ∨ w.heap.size ≤ k_) ∧ k_ ≠ gb183)) k_ ∧ some k_ ≠ (u4 : Value).ownBlock)) (HL182_3.out) (fun k_ hk => ⟨⟨hk.1, hk.2.2⟩, hk.2.1⟩))).2.1 (Kd.V_F (Kd.V_mono (ok' := (fun k_ => ((fun k_ => (P0_ k_ ∨ w.heap.size ≤ k_) ∧ k_ ≠ gb183)) k_ ∧ some k_ ≠ (u4 : Value).ownBlock)) (HL182_3.out) (fun k_ hk => ⟨⟨hk.1, hk.2.2⟩, hk.2.1⟩))))); (case aB => exact (by repeat (first | (with_reducible first | exact HB.out | apply below_alloc | apply pw_below_drewN | apply below_drew1 | refine below_set ?_ GE183.out) | exact HB.out))); (case aF => exact (fun k_ hk => ⟨(.inr (Nat.le_trans (below_size (by repeat (first | (with_reducible first | exact HB.out | apply below_alloc | apply pw_below_drewN | apply below_drew1 | refine below_set ?_ GE183.out) | exact HB.out))) hk)), Kd.freshB (g := gb183) (o := .cells #[.int .i64 ((rd_T54 l0 x9_1).f0), .int .i64 ((rd_T54 l0 x9_1).f1), .bool ((rd_T54 l0 x9_1).f2), .slice A182_3 ((rd_T54 l0 x9_1).f3).length c182_3] 54 (0, 0)) (by (with_reducible repeat (first | refine blk_drewN ?_ _ | refine blk_drew ?_ | refine blk_alloc ?_ _)); exact BK183.out) k_ hk⟩)); (case aO => exact (by (with_reducible repeat (first | apply Kd.N_alloc | apply Kd.N_drewN | apply Kd.N_drew)); exact HO_4.out)); (case aS => exact (below_size (by repeat (first | (with_reducible first | exact HB.out | apply below_alloc | apply pw_below_drewN | apply below_drew1 | refine below_set ?_ GE183.out) | exact HB.out)))); (case aL => have := LMc8.out; omega); intro v185 w13 ho hb hg hat; rw [← Ny184.out] at ho; have n0_ := Aside0.mk (Kd.V_afterv (ok := (fun k_ => (P0_ k_ ∨ w.heap.size ≤ k_) ∧ k_ ≠ gb183)) (by (with_reducible repeat (first | apply Kd.V_alloc | apply Kd.V_drewN | apply Kd.V_drew)); exact Kd.V_mono HO_0.out (fun _ hk => ⟨⟨hk.1, hk.2.2⟩, hk.2.1⟩)) hg hat); have n1_ := Aside0.mk (Kd.V_afterv (ok := (fun k_ => (P0_ k_ ∨ w.heap.size ≤ k_) ∧ k_ ≠ gb183)) (by (with_reducible repeat (first | apply Kd.V_alloc | apply Kd.V_drewN | apply Kd.V_drew)); exact Kd.V_mono HO_7.out (fun _ hk => ⟨⟨hk.1, hk.2.2⟩, hk.2.1⟩)) hg hat); have n2_ := Aside0.mk (Kd.V_afterv (ok := (fun k_ => (P0_ k_ ∨ w.heap.size ≤ k_) ∧ k_ ≠ gb183)) (by (with_reducible repeat (first | apply Kd.V_alloc | apply Kd.V_drewN | apply Kd.V_drew)); exact Kd.V_mono HL182_3.out (fun _ hk => ⟨⟨hk.1, hk.2.2⟩, hk.2.1⟩)) hg hat); have n3_ := Aside0.mk (blk_grown (g := gb183) (o := .cells #[.int .i64 ((rd_T54 l0 x9_1).f0), .int .i64 ((rd_T54 l0 x9_1).f1), .bool ((rd_T54 l0 x9_1).f2), .slice A182_3 ((rd_T54 l0 x9_1).f3).length c182_3] 54 (0, 0)) (by (with_reducible repeat (first | refine blk_drewN ?_ _ | refine blk_drew ?_ | refine blk_alloc ?_ _)); exact BK183.out) hg (Kd.N_ne HO_4.out BK183.out (by decide))); have n4_ := Aside0.mk (hb); have n5_ := Aside0.mk (ho); clear HO_0; clear HO_7; clear HL182_3; clear BK183; clear HB; clear HO_4; have HO_0 := n0_; have HO_7 := n1_; have HL182_3 := n2_; have BK183 := n3_; have HB := n4_; have HO186 := n5_; clear n0_ n1_ n2_ n3_ n4_ n5_; clear ho hb hg hat))
                go_roundg k1
                case measure => have := HK1.out; omega
                case rel => exact ⟨(y184), (wrap64 (x9_1 + 1)), (by first | rfl | (simp; done) | (simp [*]; done)), H', ⟨by have := HK1.out; omega⟩, ⟨by (with_reducible repeat (first | apply Kd.V_alloc | apply Kd.V_drewN | apply Kd.V_drew)); exact Kd.V_mono HO_0.out (fun _ hk => ⟨hk.1.1, hk.2⟩)⟩, ⟨by (with_reducible repeat (first | apply Kd.N_alloc | apply Kd.N_drewN | apply Kd.N_drew)); exact Kd.N_mono HO186.out (fun _ hk => hk.1)⟩, ⟨by (with_reducible repeat (first | apply Kd.V_alloc | apply Kd.V_drewN | apply Kd.V_drew)); exact Kd.V_mono HO_7.out (fun _ hk => ⟨hk.1.1, hk.2⟩)⟩, ⟨by repeat (first | (with_reducible first | exact HB.out | apply below_alloc | apply pw_below_drewN | apply below_drew1 | refine below_set ?_ GE183.out) | exact HB.out)⟩⟩
              · rw [if_neg c8] at H
                exact absurd H (by simp)
          · rw [if_neg c4] at H
            exact absurd H (by simp)
        · rw [if_neg c3] at H
          exact absurd H (by simp)
      · rw [if_neg c2] at H
        have c2b0 : decide (x9_1 < (l0.length : Int)) = false := decide_eq_false c2
        clear c2
        simp only [Option.some.injEq, Prod.mk.injEq] at H
        obtain ⟨rfl, rfl⟩ := H
        go_wp2
        go_ret2
        exact ⟨_, by first | rfl | (simp [errW_none, errW_some] <;> rfl) | (simp [*, errW_none, errW_some] <;> rfl), by (with_reducible repeat (first | apply Kd.N_alloc | apply Kd.N_drewN | apply Kd.N_drew)); exact HO_4.out, by repeat (first | (with_reducible first | exact HB.out | apply below_alloc | apply pw_below_drewN | apply below_drew1) | exact HB.out)⟩
def kissgateref19_Class.j0 : Nat → Int → Bool → Int → Int → Bool → Int → Int → Int → ByteArray → Option (Int)
  | 0, _, _, _, _, _, _, _, _, _ => none
  | k + 1, x5, x14, x189000, x189001, x189002, x189003, x189004, x189005, x189006 => if x14 = true then (if x189003 < 1 then (some 0) else (if x189003 > 4094 then (some 0) else (some x189003))) else (if x5 < 1 then (some 0) else (if x5 > 4094 then (some 0) else (some x5)))
def kissgateref19_Class.f (k : Nat) (a0_0 : Int) (a0_1 : Int) (a0_2 : Bool) (l0_3 : List Int) (a1_0 : Int) (a1_1 : Int) (a1_2 : Bool) (a1_3 : Int) (a1_4 : Int) (a1_5 : Int) (a1_6 : ByteArray) : Option (Int) := if a1_2 = true then (kissgateref19_Class.j0 k a0_1 (a1_3 != 0) a1_0 a1_1 a1_2 a1_3 a1_4 a1_5 a1_6) else (kissgateref19_Class.j0 k a0_1 false a1_0 a1_1 a1_2 a1_3 a1_4 a1_5 a1_6)
set_option maxHeartbeats 8000000 in
set_option maxRecDepth 100000 in
theorem kissgateref19_Class.calls (k : Nat) (a0_0 : Int) (a0_1 : Int) (a0_2 : Bool) (A0_3 : Option Addr) (c0_3 : Nat) (l0_3 : List Int) (a1_0 : Int) (a1_1 : Int) (a1_2 : Bool) (a1_3 : Int) (a1_4 : Int) (a1_5 : Int) (a1_6 : ByteArray) (r : Int) (w : World) (hr0_3 : Kd.C (Kd.int .i64) w A0_3 l0_3.length l0_3) (hc0_3 : l0_3.length ≤ c0_3) (h : kissgateref19_Class.f k a0_0 a0_1 a0_2 l0_3 a1_0 a1_1 a1_2 a1_3 a1_4 a1_5 a1_6 = some r) :
    Calls Try.prog 30 #[.agg #[.int .i64 a0_0, .int .i64 a0_1, .bool a0_2, .slice A0_3 l0_3.length c0_3], .agg #[.int .i64 a1_0, .int .i64 a1_1, .bool a1_2, .int .i64 a1_3, .int .i64 a1_4, .int .i64 a1_5, .string a1_6]] w fun e w' => e = .returned (.int .i64 r) ∧ Below w.heap.size w w' := by
  have hu64 := Try.underlying64
  have hu49 := Try.underlying49
  have HR0_3 := Aside0.mk hr0_3
  have HC0_3 := Aside0.mk hc0_3
  clear hr0_3 hc0_3
  have HB := Aside0.mk (Below.refl w.heap.size w)
  have H : (if a1_2 = true then (kissgateref19_Class.j0 k a0_1 (a1_3 != 0) a1_0 a1_1 a1_2 a1_3 a1_4 a1_5 a1_6) else (kissgateref19_Class.j0 k a0_1 false a1_0 a1_1 a1_2 a1_3 a1_4 a1_5 a1_6)) = some r := h
  clear h
  have HC3 := Aside0.mk H
  clear H
  go_enter Try.func30, Try.ntmps30
  go_upto_region 2 with (first | ((with_reducible refine gate_dst (N := 2) rfl ?_); refine box_event ?hg (N := 2) ?hd (cs := #[.int .i64 a0_0, .int .i64 a0_1, .bool a0_2, .slice A0_3 l0_3.length c0_3]) (t := 64) ?hr ?_; (case hd => rfl); (case hg => rfl); (case hr => first | (go_simp; done) | (go_simp; rfl)); intro gb187 hg w4 hbox hb; have n0_ := Aside0.mk (below_step (by repeat (first | (with_reducible first | exact HB.out | apply below_alloc | apply pw_below_drewN | apply below_drew1) | exact HB.out)) hb); have n1_ := Aside0.mk (hbox); have n2_ := Aside0.mk ((by rw [hg]; exact (below_size (by repeat (first | (with_reducible first | exact HB.out | apply below_alloc | apply pw_below_drewN | apply below_drew1) | exact HB.out))) : w.heap.size ≤ gb187)); have n3_ := Aside0.mk ((by rw [hg]; exact (below_size (by repeat (first | (with_reducible first | exact HB.out | apply below_alloc | apply pw_below_drewN | apply below_drew1) | exact HB.out))) : w.heap.size ≤ gb187)); clear HB; have HB := n0_; have BK187 := n1_; have GW187 := n2_; have GE187 := n3_; clear n0_ n1_ n2_ n3_; clear hb hbox hg) | ((with_reducible refine gate_dst (N := 3) rfl ?_); refine box_event ?hg (N := 3) ?hd (cs := #[.int .i64 a1_0, .int .i64 a1_1, .bool a1_2, .int .i64 a1_3, .int .i64 a1_4, .int .i64 a1_5, .string a1_6]) (t := 49) ?hr ?_; (case hd => rfl); (case hg => rfl); (case hr => first | (go_simp; done) | (go_simp; rfl)); intro gb188 hg w5 hbox hb; have n0_ := Aside0.mk (blk_below (g := gb187) (o := .cells #[.int .i64 a0_0, .int .i64 a0_1, .bool a0_2, .slice A0_3 l0_3.length c0_3] 64 (0, 0)) (by (with_reducible repeat (first | refine blk_drewN ?_ _ | refine blk_drew ?_ | refine blk_alloc ?_ _)); exact BK187.out) hb); have n1_ := Aside0.mk (below_step (by repeat (first | (with_reducible first | exact HB.out | apply below_alloc | apply pw_below_drewN | apply below_drew1 | refine below_set ?_ GE187.out) | exact HB.out)) hb); have n2_ := Aside0.mk (hbox); have n3_ := Aside0.mk ((by rw [hg]; exact (below_size (by repeat (first | (with_reducible first | exact HB.out | apply below_alloc | apply pw_below_drewN | apply below_drew1 | refine below_set ?_ GE187.out) | exact HB.out))) : w.heap.size ≤ gb188)); have n4_ := Aside0.mk ((by rw [hg]; exact (below_size (by repeat (first | (with_reducible first | exact HB.out | apply below_alloc | apply pw_below_drewN | apply below_drew1 | refine below_set ?_ GE187.out) | exact HB.out))) : w.heap.size ≤ gb188)); have n5_ := Aside0.mk ((by rw [hg]; exact Nat.ne_of_lt (blk_lt (g := gb187) (o := .cells #[.int .i64 a0_0, .int .i64 a0_1, .bool a0_2, .slice A0_3 l0_3.length c0_3] 64 (0, 0)) (by (with_reducible repeat (first | refine blk_drewN ?_ _ | refine blk_drew ?_ | refine blk_alloc ?_ _)); exact BK187.out)) : gb187 ≠ gb188)); have n6_ := Aside0.mk ((by rw [hg]; exact Nat.ne_of_gt (blk_lt (g := gb187) (o := .cells #[.int .i64 a0_0, .int .i64 a0_1, .bool a0_2, .slice A0_3 l0_3.length c0_3] 64 (0, 0)) (by (with_reducible repeat (first | refine blk_drewN ?_ _ | refine blk_drew ?_ | refine blk_alloc ?_ _)); exact BK187.out)) : gb188 ≠ gb187)); clear BK187; clear HB; have BK187 := n0_; have HB := n1_; have BK188 := n2_; have GW188 := n3_; have GE188 := n4_; have NB187_188 := n5_; have NB188_187 := n6_; clear n0_ n1_ n2_ n3_ n4_ n5_ n6_; clear hb hbox hg; have hnb6 := NB187_188.out; have hnc6 := NB188_187.out; have hcz7_0 : w5.cell? ⟨gb187, 0, none⟩ = some (.int .i64 a0_0) := (blk_cell BK187.out 0).trans rfl; have hcz7_1 : w5.cell? ⟨gb187, 1, none⟩ = some (.int .i64 a0_1) := (blk_cell BK187.out 1).trans rfl; have hcz7_2 : w5.cell? ⟨gb187, 2, none⟩ = some (.bool a0_2) := (blk_cell BK187.out 2).trans rfl; have hcz7_3 : w5.cell? ⟨gb187, 3, none⟩ = some (.slice A0_3 l0_3.length c0_3) := (blk_cell BK187.out 3).trans rfl; have hfz7_0 := blk_frozen BK187.out 0; have hfz7_1 := blk_frozen BK187.out 1; have hfz7_2 := blk_frozen BK187.out 2; have hfz7_3 := blk_frozen BK187.out 3))
  (try simp only [Act.put, List.setIfInBounds_toArray, List.set_cons_zero, List.set_cons_succ])
  go_cut [14] (fun v14 wc => ∃ (kq : Nat) (x14_2 : Bool), v14 = .bool x14_2 ∧ Aside0 (kissgateref19_Class.j0 kq a0_1 x14_2 a1_0 a1_1 a1_2 a1_3 a1_4 a1_5 a1_6 = some r) ∧ Aside0 (kq ≤ k) ∧ Aside0 (wc.heap[gb187]? = some (.cells #[.int .i64 a0_0, .int .i64 a0_1, .bool a0_2, (.slice A0_3 l0_3.length c0_3)] 64 (0, 0))) ∧ Aside0 (wc.heap[gb188]? = some (.cells #[.int .i64 a1_0, .int .i64 a1_1, .bool a1_2, .int .i64 a1_3, .int .i64 a1_4, .int .i64 a1_5, .string a1_6] 49 (0, 0))) ∧ Aside0 (Below w.heap.size w wc))
  case first =>
    have H := HC3.out
    clear HC3
    by_cases c8 : a1_2 = true
    · subst c8
      have H1 : (kissgateref19_Class.j0 k a0_1 (a1_3 != 0) a1_0 a1_1 true a1_3 a1_4 a1_5 a1_6) = some r := by rw [if_pos rfl] at H; exact H
      clear H
      have H := H1
      clear H1
      have H' := Aside0.mk H
      clear H
      have hnb9 := NB188_187.out
      have hnc9 := NB187_188.out
      have hcz10_0 : w5.cell? ⟨gb188, 0, none⟩ = some (.int .i64 a1_0) := (blk_cell BK188.out 0).trans rfl
      have hcz10_1 : w5.cell? ⟨gb188, 1, none⟩ = some (.int .i64 a1_1) := (blk_cell BK188.out 1).trans rfl
      have hcz10_2 : w5.cell? ⟨gb188, 2, none⟩ = some (.bool true) := (blk_cell BK188.out 2).trans rfl
      have hcz10_3 : w5.cell? ⟨gb188, 3, none⟩ = some (.int .i64 a1_3) := (blk_cell BK188.out 3).trans rfl
      have hcz10_4 : w5.cell? ⟨gb188, 4, none⟩ = some (.int .i64 a1_4) := (blk_cell BK188.out 4).trans rfl
      have hcz10_5 : w5.cell? ⟨gb188, 5, none⟩ = some (.int .i64 a1_5) := (blk_cell BK188.out 5).trans rfl
      have hcz10_6 : w5.cell? ⟨gb188, 6, none⟩ = some (.string a1_6) := (blk_cell BK188.out 6).trans rfl
      have hfz10_0 := blk_frozen BK188.out 0
      have hfz10_1 := blk_frozen BK188.out 1
      have hfz10_2 := blk_frozen BK188.out 2
      have hfz10_3 := blk_frozen BK188.out 3
      have hfz10_4 := blk_frozen BK188.out 4
      have hfz10_5 := blk_frozen BK188.out 5
      have hfz10_6 := blk_frozen BK188.out 6
      go_wp2
      go_meet
      case rel => exact ⟨_, ((a1_3 != 0)), (by first | rfl | (simp; done) | (simp [*]; done)), H', ⟨by first | omega | exact Nat.le_refl _⟩, ⟨by (with_reducible repeat (first | refine blk_drewN ?_ _ | refine blk_drew ?_ | refine blk_alloc ?_ _)); exact BK187.out⟩, ⟨by (with_reducible repeat (first | refine blk_drewN ?_ _ | refine blk_drew ?_ | refine blk_alloc ?_ _)); exact BK188.out⟩, ⟨by repeat (first | (with_reducible first | exact HB.out | apply below_alloc | apply pw_below_drewN | apply below_drew1 | refine below_set ?_ GE187.out | refine below_set ?_ GE188.out) | exact HB.out)⟩⟩
    · replace c8 := Bool.eq_false_iff.mpr c8
      subst c8
      have H1 : (kissgateref19_Class.j0 k a0_1 false a1_0 a1_1 false a1_3 a1_4 a1_5 a1_6) = some r := by rw [if_neg (show ¬ (false = true) by decide)] at H; exact H
      clear H
      have H := H1
      clear H1
      have H' := Aside0.mk H
      clear H
      have hnb11 := NB188_187.out
      have hnc11 := NB187_188.out
      have hcz12_0 : w5.cell? ⟨gb188, 0, none⟩ = some (.int .i64 a1_0) := (blk_cell BK188.out 0).trans rfl
      have hcz12_1 : w5.cell? ⟨gb188, 1, none⟩ = some (.int .i64 a1_1) := (blk_cell BK188.out 1).trans rfl
      have hcz12_2 : w5.cell? ⟨gb188, 2, none⟩ = some (.bool false) := (blk_cell BK188.out 2).trans rfl
      have hcz12_3 : w5.cell? ⟨gb188, 3, none⟩ = some (.int .i64 a1_3) := (blk_cell BK188.out 3).trans rfl
      have hcz12_4 : w5.cell? ⟨gb188, 4, none⟩ = some (.int .i64 a1_4) := (blk_cell BK188.out 4).trans rfl
      have hcz12_5 : w5.cell? ⟨gb188, 5, none⟩ = some (.int .i64 a1_5) := (blk_cell BK188.out 5).trans rfl
      have hcz12_6 : w5.cell? ⟨gb188, 6, none⟩ = some (.string a1_6) := (blk_cell BK188.out 6).trans rfl
      have hfz12_0 := blk_frozen BK188.out 0
      have hfz12_1 := blk_frozen BK188.out 1
      have hfz12_2 := blk_frozen BK188.out 2
      have hfz12_3 := blk_frozen BK188.out 3
      have hfz12_4 := blk_frozen BK188.out 4
      have hfz12_5 := blk_frozen BK188.out 5
      have hfz12_6 := blk_frozen BK188.out 6
      go_wp2
      go_meet
      case rel => exact ⟨_, (false), (by first | rfl | (simp; done) | (simp [*]; done)), H', ⟨by first | omega | exact Nat.le_refl _⟩, ⟨by (with_reducible repeat (first | refine blk_drewN ?_ _ | refine blk_drew ?_ | refine blk_alloc ?_ _)); exact BK187.out⟩, ⟨by (with_reducible repeat (first | refine blk_drewN ?_ _ | refine blk_drew ?_ | refine blk_alloc ?_ _)); exact BK188.out⟩, ⟨by repeat (first | (with_reducible first | exact HB.out | apply below_alloc | apply pw_below_drewN | apply below_drew1 | refine below_set ?_ GE187.out | refine below_set ?_ GE188.out) | exact HB.out)⟩⟩
  case rest =>
    clear HC3
    try clear c1
    try clear p2
    try clear c3
    try clear c6
    try clear c8
    try clear c9
    try clear c11
    try clear hcz10_0
    try clear hcz10_1
    try clear hcz10_2
    try clear hcz10_3
    try clear hcz10_4
    try clear hcz10_5
    try clear hcz10_6
    try clear hcz12_0
    try clear hcz12_1
    try clear hcz12_2
    try clear hcz12_3
    try clear hcz12_4
    try clear hcz12_5
    try clear hcz12_6
    try clear hcz7_0
    try clear hcz7_1
    try clear hcz7_2
    try clear hcz7_3
    try clear hfz10_0
    try clear hfz10_1
    try clear hfz10_2
    try clear hfz10_3
    try clear hfz10_4
    try clear hfz10_5
    try clear hfz10_6
    try clear hfz12_0
    try clear hfz12_1
    try clear hfz12_2
    try clear hfz12_3
    try clear hfz12_4
    try clear hfz12_5
    try clear hfz12_6
    try clear hfz7_0
    try clear hfz7_1
    try clear hfz7_2
    try clear hfz7_3
    obtain ⟨kq, x14_2, rfl, HA, HJ2, BK187, BK188, HB⟩ := hcut
    cases kq with
    | zero => exact absurd HA.out (by simp [kissgateref19_Class.j0])
    | succ kj2 =>
      have H := HA.out
      clear HA
      simp only [kissgateref19_Class.j0] at H
      by_cases c13 : x14_2 = true
      · subst c13
        have H1 : (if a1_3 < 1 then (some 0) else (if a1_3 > 4094 then (some 0) else (some a1_3))) = some r := by rw [if_pos rfl] at H; exact H
        clear H
        have H := H1
        clear H1
        by_cases c14 : a1_3 < 1
        · rw [if_pos c14] at H
          have c14b0 : decide (a1_3 < 1) = true := decide_eq_true c14
          clear c14
          obtain rfl := Option.some.inj H
          have hnb15 := NB188_187.out
          have hnc15 := NB187_188.out
          have hcz16_0 : wc.cell? ⟨gb188, 0, none⟩ = some (.int .i64 a1_0) := (blk_cell BK188.out 0).trans rfl
          have hcz16_1 : wc.cell? ⟨gb188, 1, none⟩ = some (.int .i64 a1_1) := (blk_cell BK188.out 1).trans rfl
          have hcz16_2 : wc.cell? ⟨gb188, 2, none⟩ = some (.bool a1_2) := (blk_cell BK188.out 2).trans rfl
          have hcz16_3 : wc.cell? ⟨gb188, 3, none⟩ = some (.int .i64 a1_3) := (blk_cell BK188.out 3).trans rfl
          have hcz16_4 : wc.cell? ⟨gb188, 4, none⟩ = some (.int .i64 a1_4) := (blk_cell BK188.out 4).trans rfl
          have hcz16_5 : wc.cell? ⟨gb188, 5, none⟩ = some (.int .i64 a1_5) := (blk_cell BK188.out 5).trans rfl
          have hcz16_6 : wc.cell? ⟨gb188, 6, none⟩ = some (.string a1_6) := (blk_cell BK188.out 6).trans rfl
          have hfz16_0 := blk_frozen BK188.out 0
          have hfz16_1 := blk_frozen BK188.out 1
          have hfz16_2 := blk_frozen BK188.out 2
          have hfz16_3 := blk_frozen BK188.out 3
          have hfz16_4 := blk_frozen BK188.out 4
          have hfz16_5 := blk_frozen BK188.out 5
          have hfz16_6 := blk_frozen BK188.out 6
          go_wp2
          go_ret
          exact ⟨by first | rfl | (simp [errW_none, errW_some] <;> rfl) | (simp [*, errW_none, errW_some] <;> rfl), by repeat (first | (with_reducible first | exact HB.out | apply below_alloc | apply pw_below_drewN | apply below_drew1 | refine below_set ?_ GE187.out | refine below_set ?_ GE188.out) | exact HB.out)⟩
        · rw [if_neg c14] at H
          have c14b0 : decide (a1_3 < 1) = false := decide_eq_false c14
          clear c14
          by_cases c17 : a1_3 > 4094
          · rw [if_pos c17] at H
            have c17b0 : decide (4094 < a1_3) = true := decide_eq_true c17
            clear c17
            obtain rfl := Option.some.inj H
            have hnb18 := NB188_187.out
            have hnc18 := NB187_188.out
            have hcz19_0 : wc.cell? ⟨gb188, 0, none⟩ = some (.int .i64 a1_0) := (blk_cell BK188.out 0).trans rfl
            have hcz19_1 : wc.cell? ⟨gb188, 1, none⟩ = some (.int .i64 a1_1) := (blk_cell BK188.out 1).trans rfl
            have hcz19_2 : wc.cell? ⟨gb188, 2, none⟩ = some (.bool a1_2) := (blk_cell BK188.out 2).trans rfl
            have hcz19_3 : wc.cell? ⟨gb188, 3, none⟩ = some (.int .i64 a1_3) := (blk_cell BK188.out 3).trans rfl
            have hcz19_4 : wc.cell? ⟨gb188, 4, none⟩ = some (.int .i64 a1_4) := (blk_cell BK188.out 4).trans rfl
            have hcz19_5 : wc.cell? ⟨gb188, 5, none⟩ = some (.int .i64 a1_5) := (blk_cell BK188.out 5).trans rfl
            have hcz19_6 : wc.cell? ⟨gb188, 6, none⟩ = some (.string a1_6) := (blk_cell BK188.out 6).trans rfl
            have hfz19_0 := blk_frozen BK188.out 0
            have hfz19_1 := blk_frozen BK188.out 1
            have hfz19_2 := blk_frozen BK188.out 2
            have hfz19_3 := blk_frozen BK188.out 3
            have hfz19_4 := blk_frozen BK188.out 4
            have hfz19_5 := blk_frozen BK188.out 5
            have hfz19_6 := blk_frozen BK188.out 6
            go_wp2
            go_ret
            exact ⟨by first | rfl | (simp [errW_none, errW_some] <;> rfl) | (simp [*, errW_none, errW_some] <;> rfl), by repeat (first | (with_reducible first | exact HB.out | apply below_alloc | apply pw_below_drewN | apply below_drew1 | refine below_set ?_ GE187.out | refine below_set ?_ GE188.out) | exact HB.out)⟩
          · rw [if_neg c17] at H
            have c17b0 : decide (4094 < a1_3) = false := decide_eq_false c17
            clear c17
            obtain rfl := Option.some.inj H
            have hnb20 := NB188_187.out
            have hnc20 := NB187_188.out
            have hcz21_0 : wc.cell? ⟨gb188, 0, none⟩ = some (.int .i64 a1_0) := (blk_cell BK188.out 0).trans rfl
            have hcz21_1 : wc.cell? ⟨gb188, 1, none⟩ = some (.int .i64 a1_1) := (blk_cell BK188.out 1).trans rfl
            have hcz21_2 : wc.cell? ⟨gb188, 2, none⟩ = some (.bool a1_2) := (blk_cell BK188.out 2).trans rfl
            have hcz21_3 : wc.cell? ⟨gb188, 3, none⟩ = some (.int .i64 a1_3) := (blk_cell BK188.out 3).trans rfl
            have hcz21_4 : wc.cell? ⟨gb188, 4, none⟩ = some (.int .i64 a1_4) := (blk_cell BK188.out 4).trans rfl
            have hcz21_5 : wc.cell? ⟨gb188, 5, none⟩ = some (.int .i64 a1_5) := (blk_cell BK188.out 5).trans rfl
            have hcz21_6 : wc.cell? ⟨gb188, 6, none⟩ = some (.string a1_6) := (blk_cell BK188.out 6).trans rfl
            have hfz21_0 := blk_frozen BK188.out 0
            have hfz21_1 := blk_frozen BK188.out 1
            have hfz21_2 := blk_frozen BK188.out 2
            have hfz21_3 := blk_frozen BK188.out 3
            have hfz21_4 := blk_frozen BK188.out 4
            have hfz21_5 := blk_frozen BK188.out 5
            have hfz21_6 := blk_frozen BK188.out 6
            go_wp2
            go_ret
            exact ⟨by first | rfl | (simp [errW_none, errW_some] <;> rfl) | (simp [*, errW_none, errW_some] <;> rfl), by repeat (first | (with_reducible first | exact HB.out | apply below_alloc | apply pw_below_drewN | apply below_drew1 | refine below_set ?_ GE187.out | refine below_set ?_ GE188.out) | exact HB.out)⟩
      · replace c13 := Bool.eq_false_iff.mpr c13
        subst c13
        have H1 : (if a0_1 < 1 then (some 0) else (if a0_1 > 4094 then (some 0) else (some a0_1))) = some r := by rw [if_neg (show ¬ (false = true) by decide)] at H; exact H
        clear H
        have H := H1
        clear H1
        by_cases c22 : a0_1 < 1
        · rw [if_pos c22] at H
          have c22b0 : decide (a0_1 < 1) = true := decide_eq_true c22
          clear c22
          obtain rfl := Option.some.inj H
          go_wp2
          go_ret
          exact ⟨by first | rfl | (simp [errW_none, errW_some] <;> rfl) | (simp [*, errW_none, errW_some] <;> rfl), by repeat (first | (with_reducible first | exact HB.out | apply below_alloc | apply pw_below_drewN | apply below_drew1 | refine below_set ?_ GE187.out | refine below_set ?_ GE188.out) | exact HB.out)⟩
        · rw [if_neg c22] at H
          have c22b0 : decide (a0_1 < 1) = false := decide_eq_false c22
          clear c22
          by_cases c23 : a0_1 > 4094
          · rw [if_pos c23] at H
            have c23b0 : decide (4094 < a0_1) = true := decide_eq_true c23
            clear c23
            obtain rfl := Option.some.inj H
            go_wp2
            go_ret
            exact ⟨by first | rfl | (simp [errW_none, errW_some] <;> rfl) | (simp [*, errW_none, errW_some] <;> rfl), by repeat (first | (with_reducible first | exact HB.out | apply below_alloc | apply pw_below_drewN | apply below_drew1 | refine below_set ?_ GE187.out | refine below_set ?_ GE188.out) | exact HB.out)⟩
          · rw [if_neg c23] at H
            have c23b0 : decide (4094 < a0_1) = false := decide_eq_false c23
            clear c23
            obtain rfl := Option.some.inj H
            go_wp2
            go_ret
            exact ⟨by first | rfl | (simp [errW_none, errW_some] <;> rfl) | (simp [*, errW_none, errW_some] <;> rfl), by repeat (first | (with_reducible first | exact HB.out | apply below_alloc | apply pw_below_drewN | apply below_drew1 | refine below_set ?_ GE187.out | refine below_set ?_ GE188.out) | exact HB.out)⟩
end Go.Proofs.Ytjhkbmdblfdlnaa.QRlb
