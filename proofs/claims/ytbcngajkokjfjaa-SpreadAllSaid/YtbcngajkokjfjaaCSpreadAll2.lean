/- Functions of the program as plain Lean functions, what their calls do, and what follows of it. Conditions: each theorem's own. -/
import Derived.Test.YtbcngajkokjfjaaCSpreadAll1
namespace Go.Proofs.Ytbcngajkokjfjaa.QAll
open Go.RowKit Go.Proofs.YtbcngajkokjfjaaW.PrintWords Go.Proofs.YtbcngajkokjfjaaW.PrintLast Go.Proofs.YtbcngajkokjfjaaW.PrintMore
attribute [local go_sem] max2_int min2_int max_two min_two max_three min_three max_four min_four
set_option linter.unusedVariables false
set_option linter.unusedSimpArgs false
structure CX {α : Type} (d : Kd α) (A : Option Addr) (n : Nat) (xs : List α) (W0 W : World) : Prop where
  row : Kd.C d W0 A n xs
  bel : Below W0.heap.size W0 W
section
variable {α : Type} {d : Kd α} {A : Option Addr} {n : Nat} {xs : List α} {W0 W W1 : World}
theorem CX.start (h : Kd.C d W A n xs) : CX d A n xs W W := ⟨h, Below.refl _ _⟩
theorem CX.step (h : CX d A n xs W0 W) (hb : Below W.heap.size W W1) : CX d A n xs W0 W1 := ⟨h.row, below_step h.bel hb⟩
theorem CX.alloc (h : CX d A n xs W0 W) (o : Obj) : CX d A n xs W0 (W.alloc o) := ⟨h.row, below_alloc h.bel o⟩
theorem CX.drewN (h : CX d A n xs W0 W) (k : Nat) : CX d A n xs W0 (W.drewN k) := ⟨h.row, pw_below_drewN h.bel k⟩
theorem CX.drew (h : CX d A n xs W0 W) : CX d A n xs W0 W.drew := ⟨h.row, below_drew1 h.bel⟩
theorem CX.set {g j : Nat} {v : Value} (h : CX d A n xs W0 W) (hg : W0.heap.size ≤ g) : CX d A n xs W0 (W.setCell ⟨g, j, none⟩ v) := ⟨h.row, below_set h.bel hg⟩
theorem CX.le (h : CX d A n xs W0 W) : W0.heap.size ≤ W.heap.size := below_size h.bel
theorem CX.now (h : CX d A n xs W0 W) : Kd.C d W A n xs := Kd.C_below h.row h.bel
end
mutual
def kissgatelaw17_SpreadAll.l0 : Nat → List (S49) → List (S38) → List (S47) → List (S38) → List (S38) → Int → Int → Int → Int → Option (Bool)
  | 0, _, _, _, _, _, _, _, _, _ => none
  | k + 1, x0, x1, x7, x9, x39, x40, x41, x183000, x183001 => if x41 < x40 then (if 0 ≤ x41 then (if x41 < (x39.length : Int) then (if x41 > 0 then (if 0 ≤ (wrap64 (x41 - 1)) then (if (wrap64 (x41 - 1)) < (x9.length : Int) then ((kissgateref07_Less.f ((rd_T38 x9 (wrap64 (x41 - 1))).f0) ((rd_T38 x9 (wrap64 (x41 - 1))).f1) ((rd_T38 x39 x41).f0) ((rd_T38 x39 x41).f1)).bind fun t194 => (if t194 = true then ((kissgateref17_Has.f k false x1 ([] : List Int) ((rd_T38 x39 x41).f0) ((rd_T38 x39 x41).f1)).bind fun t195 => (kissgatelaw17_SpreadAll.l1 k x0 x1 x7 x9 t195 x39 x40 x41 x7 (x7.length : Int) 0 x183000 x183001 ((rd_T38 x39 x41).f0) ((rd_T38 x39 x41).f1))) else (some false))) else (none)) else (none)) else ((kissgateref17_Has.f k false x1 ([] : List Int) ((rd_T38 x39 x41).f0) ((rd_T38 x39 x41).f1)).bind fun t199 => (kissgatelaw17_SpreadAll.l1 k x0 x1 x7 x9 t199 x39 x40 x41 x7 (x7.length : Int) 0 x183000 x183001 ((rd_T38 x39 x41).f0) ((rd_T38 x39 x41).f1)))) else (none)) else (none)) else (kissgatelaw17_SpreadAll.l2 k x0 x1 x9 ([] : List Int) x7 (x7.length : Int) 0 x183000 x183001)
def kissgatelaw17_SpreadAll.l1 : Nat → List (S49) → List (S38) → List (S47) → List (S38) → Bool → List (S38) → Int → Int → List (S47) → Int → Int → Int → Int → Int → Int → Option (Bool)
  | 0, _, _, _, _, _, _, _, _, _, _, _, _, _, _, _ => none
  | k + 1, x0, x1, x7, x9, x12, x39, x40, x41, x62, x63, x64, x183000, x183001, x193000, x193001 => if x64 < x63 then (if 0 ≤ x64 then (if x64 < (x62.length : Int) then (if x12 = true then (kissgatelaw17_SpreadAll.l1 k x0 x1 x7 x9 true x39 x40 x41 x62 x63 (wrap64 (x64 + 1)) x183000 x183001 x193000 x193001) else ((kissgateref17_Has.f k ((rd_T47 x62 x64).f0) ((rd_T47 x62 x64).f1) ((rd_T47 x62 x64).f2) x193000 x193001).bind fun t198 => (kissgatelaw17_SpreadAll.l1 k x0 x1 x7 x9 t198 x39 x40 x41 x62 x63 (wrap64 (x64 + 1)) x183000 x183001 x193000 x193001))) else (none)) else (none)) else (if x12 = true then (kissgatelaw17_SpreadAll.l0 k x0 x1 x7 x9 x39 x40 (wrap64 (x41 + 1)) x183000 x183001) else (some false))
def kissgatelaw17_SpreadAll.l2 : Nat → List (S49) → List (S38) → List (S38) → List Int → List (S47) → Int → Int → Int → Int → Option (Bool)
  | 0, _, _, _, _, _, _, _, _, _ => none
  | k + 1, x0, x1, x9, x15, x78, x79, x80, x183000, x183001 => if x80 < x79 then (if 0 ≤ x80 then (if x80 < (x78.length : Int) then ((kissgateref17_Has.f k ((rd_T47 x78 x80).f0) ((rd_T47 x78 x80).f1) ((rd_T47 x78 x80).f2) x183000 x183001).bind fun t202 => (if t202 = true then (if x15.length < 17592186044416 then (kissgatelaw17_SpreadAll.l3 k x0 x1 x9 (x15 ++ [x80]) x78 x79 x80 ((rd_T47 x78 x80).f1) (((rd_T47 x78 x80).f1).length : Int) 0 x183000 x183001) else (none)) else (kissgatelaw17_SpreadAll.l3 k x0 x1 x9 x15 x78 x79 x80 ((rd_T47 x78 x80).f1) (((rd_T47 x78 x80).f1).length : Int) 0 x183000 x183001))) else (none)) else (none)) else (kissgatelaw17_SpreadAll.l4 k x0 x9 x15 x1 (x1.length : Int) 0 x183000 x183001)
def kissgatelaw17_SpreadAll.l3 : Nat → List (S49) → List (S38) → List (S38) → List Int → List (S47) → Int → Int → List (S38) → Int → Int → Int → Int → Option (Bool)
  | 0, _, _, _, _, _, _, _, _, _, _, _, _ => none
  | k + 1, x0, x1, x9, x15, x78, x79, x80, x93, x94, x95, x183000, x183001 => if x95 < x94 then (if 0 ≤ x95 then (if x95 < (x93.length : Int) then ((kissgateref17_Has.f k false x9 ([] : List Int) ((rd_T38 x93 x95).f0) ((rd_T38 x93 x95).f1)).bind fun t208 => (if t208 = true then (kissgatelaw17_SpreadAll.l3 k x0 x1 x9 x15 x78 x79 x80 x93 x94 (wrap64 (x95 + 1)) x183000 x183001) else (some false))) else (none)) else (none)) else (kissgatelaw17_SpreadAll.l2 k x0 x1 x9 x15 x78 x79 (wrap64 (x80 + 1)) x183000 x183001)
def kissgatelaw17_SpreadAll.l4 : Nat → List (S49) → List (S38) → List Int → List (S38) → Int → Int → Int → Int → Option (Bool)
  | 0, _, _, _, _, _, _, _, _ => none
  | k + 1, x0, x9, x15, x106, x107, x108, x183000, x183001 => if x108 < x107 then (if 0 ≤ x108 then (if x108 < (x106.length : Int) then ((kissgateref17_Has.f k false x9 ([] : List Int) ((rd_T38 x106 x108).f0) ((rd_T38 x106 x108).f1)).bind fun t211 => (if t211 = true then (kissgatelaw17_SpreadAll.l4 k x0 x9 x15 x106 x107 (wrap64 (x108 + 1)) x183000 x183001) else (some false))) else (none)) else (none)) else ((spread_Members.f k x0 x183000 x183001).bind fun t212 => ((kissgateref06_Same.f k t212 x15).bind fun t215 => (some t215)))
end
def kissgatelaw17_SpreadAll.f (k : Nat) (l0 : List (S49)) (l1 : List (S38)) (a2_0 : Int) (a2_1 : Int) : Option (Bool) := (kissgatelaw17_alive.f k).bind fun t183 => (if t183 = true then ((kissgatelaw17_plain.f k l0).bind fun bt184 => (if bt184.2 = true then (if (l1.length : Int) > 40 then (some true) else ((spread_All.f k l0 l1).bind fun t188 => (kissgatelaw17_SpreadAll.l0 k l0 l1 bt184.1 t188 t188 (t188.length : Int) 0 a2_0 a2_1))) else (some true))) else (some false))
def kissgatelaw17_SpreadAll.T10 : Bool × List (List Nat × List Nat) := (true, [([], []), ([0], [0]), ([1], [1]), ([2], [2]), ([2], [2]), ([4, 2], [2, 4]), ([3, 5, 2], [2, 3, 5]), ([6, 2], [2, 6]), ([2], [2]), ([7, 8, 2, 2], [2, 7, 8]), ([9, 2], [2, 9]), ([2, 10], [2, 10])])
def kissgatelaw17_SpreadAll.B10 : List Nat := [0, 1, 3, 7, 7, 23, 63, 127, 7, 511, 1023, 2047]
theorem kissgatelaw17_SpreadAll.tab10 : rtab .any (opsOf Try.f13 10) = kissgatelaw17_SpreadAll.T10 := by kernel_rfl
theorem kissgatelaw17_SpreadAll.bits10 : waitsOk kissgatelaw17_SpreadAll.T10.2 kissgatelaw17_SpreadAll.B10 = true := by kernel_rfl
set_option maxHeartbeats 8000000 in
set_option maxRecDepth 100000 in
theorem kissgatelaw17_SpreadAll.calls (k : Nat) (A0 : Option Addr) (c0 : Nat) (l0 : List (S49)) (A1 : Option Addr) (c1 : Nat) (l1 : List (S38)) (a2_0 : Int) (a2_1 : Int) (r : Bool) (hT : r = true) (w : World) (hr0 : Kd.C k49 w A0 l0.length l0) (hc0 : l0.length ≤ c0) (hr1 : Kd.C k38 w A1 l1.length l1) (hc1 : l1.length ≤ c1) (h : kissgatelaw17_SpreadAll.f k l0 l1 a2_0 a2_1 = some r) :
    Calls Try.prog 13 #[.slice A0 l0.length c0, .slice A1 l1.length c1, .agg #[.int .i64 a2_0, .int .i64 a2_1]] w fun e w' => e = .returned (.bool r) ∧ Below w.heap.size w w' := by
  have HRT := Aside0.mk hT
  clear hT
  have hu38 := Try.underlying38
  have hu47 := Try.underlying47
  have HR0 := Aside0.mk hr0
  have HC0 := Aside0.mk hc0
  clear hr0 hc0
  have HR1 := Aside0.mk hr1
  have HC1 := Aside0.mk hc1
  clear hr1 hc1
  have HB := Aside0.mk (Below.refl w.heap.size w)
  have H : ((kissgatelaw17_alive.f k).bind fun t183 => (if t183 = true then ((kissgatelaw17_plain.f k l0).bind fun bt184 => (if bt184.2 = true then (if (l1.length : Int) > 40 then (some true) else ((spread_All.f k l0 l1).bind fun t188 => (kissgatelaw17_SpreadAll.l0 k l0 l1 bt184.1 t188 t188 (t188.length : Int) 0 a2_0 a2_1))) else (some true))) else (some false))) = some r := h
  clear h
  replace H := Option.bind_eq_some_iff.mp H
  obtain ⟨t183, A40, H⟩ := H
  replace H : (if t183 = true then ((kissgatelaw17_plain.f k l0).bind fun bt184 => (if bt184.2 = true then (if (l1.length : Int) > 40 then (some true) else ((spread_All.f k l0 l1).bind fun t188 => (kissgatelaw17_SpreadAll.l0 k l0 l1 bt184.1 t188 t188 (t188.length : Int) 0 a2_0 a2_1))) else (some true))) else (some false)) = some r := H
  have A4 := Aside0.mk A40
  clear A40
  by_cases c5 : t183 = true
  · subst c5
    have H1 : ((kissgatelaw17_plain.f k l0).bind fun bt184 => (if bt184.2 = true then (if (l1.length : Int) > 40 then (some true) else ((spread_All.f k l0 l1).bind fun t188 => (kissgatelaw17_SpreadAll.l0 k l0 l1 bt184.1 t188 t188 (t188.length : Int) 0 a2_0 a2_1))) else (some true))) = some r := by rw [if_pos rfl] at H; exact H
    clear H
    have H := H1
    clear H1
    replace H := Option.bind_eq_some_iff.mp H
    obtain ⟨⟨t184, t187⟩, A60, H⟩ := H
    replace H : (if t187 = true then (if (l1.length : Int) > 40 then (some true) else ((spread_All.f k l0 l1).bind fun t188 => (kissgatelaw17_SpreadAll.l0 k l0 l1 t184 t188 t188 (t188.length : Int) 0 a2_0 a2_1))) else (some true)) = some r := H
    have A6 := Aside0.mk A60
    clear A60
    by_cases c7 : t187 = true
    · subst c7
      have H1 : (if (l1.length : Int) > 40 then (some true) else ((spread_All.f k l0 l1).bind fun t188 => (kissgatelaw17_SpreadAll.l0 k l0 l1 t184 t188 t188 (t188.length : Int) 0 a2_0 a2_1))) = some r := by rw [if_pos rfl] at H; exact H
      clear H
      have H := H1
      clear H1
      by_cases c8 : (l1.length : Int) > 40
      · rw [if_pos c8] at H
        have c8b0 : decide (40 < (l1.length : Int)) = true := decide_eq_true c8
        have c8b1 : decide (40 < l1.length) = true := decide_eq_true (by omega)
        clear c8
        obtain rfl := Option.some.inj H
        go_enter Try.func13, Try.ntmps13
        go_wp2_with (first | ((with_reducible refine gate_dst (N := 5) rfl ?_); (try (refine gate_guard (by rfl) ?_; dsimp only)); refine box_event ?hg (N := 5) ?hd (cs := #[.int .i64 a2_0, .int .i64 a2_1]) (t := 38) ?hr ?_; (case hd => rfl); (case hg => rfl); (case hr => first | (go_simp; done) | (go_simp; rfl)); intro gb182 hg w9 hbox hb; have n0_ := Aside0.mk (below_step (by repeat (first | (with_reducible first | exact HB.out | apply below_alloc | apply pw_below_drewN | apply below_drew1) | exact HB.out)) hb); have n1_ := Aside0.mk (hbox); have n2_ := Aside0.mk ((by rw [hg]; exact (below_size (by repeat (first | (with_reducible first | exact HB.out | apply below_alloc | apply pw_below_drewN | apply below_drew1) | exact HB.out))) : w.heap.size ≤ gb182)); have n3_ := Aside0.mk ((by rw [hg]; exact (below_size (by repeat (first | (with_reducible first | exact HB.out | apply below_alloc | apply pw_below_drewN | apply below_drew1) | exact HB.out))) : w.heap.size ≤ gb182)); clear HB; have HB := n0_; have BK182 := n1_; have GW182 := n2_; have GE182 := n3_; clear n0_ n1_ n2_ n3_; clear hb hbox hg) | ((with_reducible refine gate_callee (f := 19) rfl ?_); refine goesL_ (some 22) rfl rfl Try.func19 (by kernel_rfl) rfl #[] rfl (by (try simp only [List.map_toArray, List.map_cons, List.map_nil]); first | done | rfl | (simp only [List.length_drop, List.length_take]; rfl)) ?_; (with_reducible refine (kissgatelaw17_alive.calls k  true _ A4.out).mono ?_); rintro e w10 ⟨rfl, hb⟩; refine ⟨_, rfl, ?_⟩; have n0_ := Aside0.mk (blk_below (g := gb182) (o := .cells #[.int .i64 a2_0, .int .i64 a2_1] 38 (0, 0)) (by (with_reducible repeat (first | refine blk_drewN ?_ _ | refine blk_drew ?_ | refine blk_alloc ?_ _)); exact BK182.out) hb); have n1_ := Aside0.mk (below_step (by repeat (first | (with_reducible first | exact HB.out | apply below_alloc | apply pw_below_drewN | apply below_drew1 | refine below_set ?_ GE182.out) | exact HB.out)) hb); clear BK182; clear HB; have BK182 := n0_; have HB := n1_; clear n0_ n1_; (try clear hb); (try clear hb2); (try clear hk); (try clear hi)) | ((with_reducible refine gate_callee (f := 20) rfl ?_); refine goesL_ (some 26) rfl rfl Try.func20 (by kernel_rfl) rfl #[.slice A0 l0.length c0] rfl (by (try simp only [List.map_toArray, List.map_cons, List.map_nil]); first | done | rfl | (simp only [List.length_drop, List.length_take]; rfl)) ?_; (with_reducible refine (kissgatelaw17_plain.calls k (fun k_ => k_ < w.heap.size) _ _ l0 t184 true _ ?side1 A6.out).mono ?_); (case side1 => exact Kd.V_mk HC0.out (Kd.F_below (Kd.C_F k49_heap HR0.out) (by repeat (first | (with_reducible first | exact HB.out | apply below_alloc | apply pw_below_drewN | apply below_drew1 | refine below_set ?_ GE182.out) | exact HB.out)))); rintro e w11 ⟨v185, rfl, ho0, hb⟩; refine ⟨_, rfl, ?_⟩; have n0_ := Aside0.mk (Kd.N_lower (Kd.N_mono (ok' := fun k_ => k_ ≠ gb182) ho0 (fun k_ hk_ => Or.elim hk_ (fun hs_ => fun e_ => Nat.not_le.2 hs_ (by rw [e_]; exact GW182.out)) (fun hn_ => (Kd.freshB (g := gb182) (o := .cells #[.int .i64 a2_0, .int .i64 a2_1] 38 (0, 0)) (by (with_reducible repeat (first | refine blk_drewN ?_ _ | refine blk_drew ?_ | refine blk_alloc ?_ _)); exact BK182.out) k_ hn_)))) (below_size (by repeat (first | (with_reducible first | exact HB.out | apply below_alloc | apply pw_below_drewN | apply below_drew1 | refine below_set ?_ GE182.out) | exact HB.out)))); have n1_ := Aside0.mk (blk_below (g := gb182) (o := .cells #[.int .i64 a2_0, .int .i64 a2_1] 38 (0, 0)) (by (with_reducible repeat (first | refine blk_drewN ?_ _ | refine blk_drew ?_ | refine blk_alloc ?_ _)); exact BK182.out) hb); have n2_ := Aside0.mk (below_step (by repeat (first | (with_reducible first | exact HB.out | apply below_alloc | apply pw_below_drewN | apply below_drew1 | refine below_set ?_ GE182.out) | exact HB.out)) hb); clear BK182; clear HB; have HO186 := n0_; have BK182 := n1_; have HB := n2_; clear n0_ n1_ n2_; (try clear hb); (try clear hb2); (try clear hk); (try clear hi); (try clear ho0)))
        go_ret
        exact ⟨by first | rfl | (simp [errW_none, errW_some] <;> rfl) | (simp [*, errW_none, errW_some] <;> rfl), by repeat (first | (with_reducible first | exact HB.out | apply below_alloc | apply pw_below_drewN | apply below_drew1 | refine below_set ?_ GE182.out) | exact HB.out)⟩
      · rw [if_neg c8] at H
        have c8b0 : decide (40 < (l1.length : Int)) = false := decide_eq_false c8
        have c8b1 : decide (40 < l1.length) = false := decide_eq_false (by omega)
        clear c8
        replace H := Option.bind_eq_some_iff.mp H
        obtain ⟨t188, A120, H⟩ := H
        replace H : (kissgatelaw17_SpreadAll.l0 k l0 l1 t184 t188 t188 (t188.length : Int) 0 a2_0 a2_1) = some r := H
        have A12 := Aside0.mk A120
        clear A120
        have H' := Aside0.mk H
        clear H
        go_enter Try.func13, Try.ntmps13
        go_wp2_with (first | ((with_reducible refine gate_dst (N := 5) rfl ?_); (try (refine gate_guard (by rfl) ?_; dsimp only)); refine box_event ?hg (N := 5) ?hd (cs := #[.int .i64 a2_0, .int .i64 a2_1]) (t := 38) ?hr ?_; (case hd => rfl); (case hg => rfl); (case hr => first | (go_simp; done) | (go_simp; rfl)); intro gb182 hg w13 hbox hb; have n0_ := Aside0.mk (below_step (by repeat (first | (with_reducible first | exact HB.out | apply below_alloc | apply pw_below_drewN | apply below_drew1) | exact HB.out)) hb); have n1_ := Aside0.mk (hbox); have n2_ := Aside0.mk ((by rw [hg]; exact (below_size (by repeat (first | (with_reducible first | exact HB.out | apply below_alloc | apply pw_below_drewN | apply below_drew1) | exact HB.out))) : w.heap.size ≤ gb182)); have n3_ := Aside0.mk ((by rw [hg]; exact (below_size (by repeat (first | (with_reducible first | exact HB.out | apply below_alloc | apply pw_below_drewN | apply below_drew1) | exact HB.out))) : w.heap.size ≤ gb182)); clear HB; have HB := n0_; have BK182 := n1_; have GW182 := n2_; have GE182 := n3_; clear n0_ n1_ n2_ n3_; clear hb hbox hg) | ((with_reducible refine gate_callee (f := 19) rfl ?_); refine goesL_ (some 22) rfl rfl Try.func19 (by kernel_rfl) rfl #[] rfl (by (try simp only [List.map_toArray, List.map_cons, List.map_nil]); first | done | rfl | (simp only [List.length_drop, List.length_take]; rfl)) ?_; (with_reducible refine (kissgatelaw17_alive.calls k  true _ A4.out).mono ?_); rintro e w14 ⟨rfl, hb⟩; refine ⟨_, rfl, ?_⟩; have n0_ := Aside0.mk (blk_below (g := gb182) (o := .cells #[.int .i64 a2_0, .int .i64 a2_1] 38 (0, 0)) (by (with_reducible repeat (first | refine blk_drewN ?_ _ | refine blk_drew ?_ | refine blk_alloc ?_ _)); exact BK182.out) hb); have n1_ := Aside0.mk (below_step (by repeat (first | (with_reducible first | exact HB.out | apply below_alloc | apply pw_below_drewN | apply below_drew1 | refine below_set ?_ GE182.out) | exact HB.out)) hb); clear BK182; clear HB; have BK182 := n0_; have HB := n1_; clear n0_ n1_; (try clear hb); (try clear hb2); (try clear hk); (try clear hi)) | ((with_reducible refine gate_callee (f := 20) rfl ?_); refine goesL_ (some 26) rfl rfl Try.func20 (by kernel_rfl) rfl #[.slice A0 l0.length c0] rfl (by (try simp only [List.map_toArray, List.map_cons, List.map_nil]); first | done | rfl | (simp only [List.length_drop, List.length_take]; rfl)) ?_; (with_reducible refine (kissgatelaw17_plain.calls k (fun k_ => k_ < w.heap.size) _ _ l0 t184 true _ ?side1 A6.out).mono ?_); (case side1 => exact Kd.V_mk HC0.out (Kd.F_below (Kd.C_F k49_heap HR0.out) (by repeat (first | (with_reducible first | exact HB.out | apply below_alloc | apply pw_below_drewN | apply below_drew1 | refine below_set ?_ GE182.out) | exact HB.out)))); rintro e w15 ⟨v185, rfl, ho0, hb⟩; refine ⟨_, rfl, ?_⟩; have n0_ := Aside0.mk (Kd.N_lower (Kd.N_mono (ok' := fun k_ => k_ ≠ gb182) ho0 (fun k_ hk_ => Or.elim hk_ (fun hs_ => fun e_ => Nat.not_le.2 hs_ (by rw [e_]; exact GW182.out)) (fun hn_ => (Kd.freshB (g := gb182) (o := .cells #[.int .i64 a2_0, .int .i64 a2_1] 38 (0, 0)) (by (with_reducible repeat (first | refine blk_drewN ?_ _ | refine blk_drew ?_ | refine blk_alloc ?_ _)); exact BK182.out) k_ hn_)))) (below_size (by repeat (first | (with_reducible first | exact HB.out | apply below_alloc | apply pw_below_drewN | apply below_drew1 | refine below_set ?_ GE182.out) | exact HB.out)))); have n1_ := Aside0.mk (blk_below (g := gb182) (o := .cells #[.int .i64 a2_0, .int .i64 a2_1] 38 (0, 0)) (by (with_reducible repeat (first | refine blk_drewN ?_ _ | refine blk_drew ?_ | refine blk_alloc ?_ _)); exact BK182.out) hb); have n2_ := Aside0.mk (below_step (by repeat (first | (with_reducible first | exact HB.out | apply below_alloc | apply pw_below_drewN | apply below_drew1 | refine below_set ?_ GE182.out) | exact HB.out)) hb); clear BK182; clear HB; have HO186 := n0_; have BK182 := n1_; have HB := n2_; clear n0_ n1_ n2_; (try clear hb); (try clear hb2); (try clear hk); (try clear hi); (try clear ho0)) | ((with_reducible refine gate_callee (f := 33) rfl ?_); refine goesL_ (some 38) rfl rfl Try.func33 (by kernel_rfl) rfl #[.slice A0 l0.length c0, .slice A1 l1.length c1] rfl (by (try simp only [List.map_toArray, List.map_cons, List.map_nil]); first | done | rfl | (simp only [List.length_drop, List.length_take]; rfl)) ?_; (with_reducible refine (spread_All.calls k _ _ l0 _ _ l1 t188 _ ?side1 ?side2 ?side3 ?side4 A12.out).mono ?_); (case side1 => repeat (first | exact (Kd.C_below HR0.out HB.out) | (with_reducible refine Kd.C_alloc ?_ _) | (with_reducible refine Kd.C_drewN ?_ _) | (with_reducible refine Kd.C_drew ?_))); (case side2 => exact HC0.out); (case side3 => repeat (first | exact (Kd.C_below HR1.out HB.out) | (with_reducible refine Kd.C_alloc ?_ _) | (with_reducible refine Kd.C_drewN ?_ _) | (with_reducible refine Kd.C_drew ?_))); (case side4 => exact HC1.out); rintro e w16 ⟨v189, rfl, ho0, hb⟩; refine ⟨_, rfl, ?_⟩; have n0_ := Aside0.mk (Kd.N_elder' (by (with_reducible repeat (first | apply Kd.N_alloc | apply Kd.N_drewN | apply Kd.N_drew)); exact HO186.out) (Kd.R_base ho0) hb); have n1_ := Aside0.mk (Kd.R_lower (Kd.R_newB ho0 (g := gb182) (o := .cells #[.int .i64 a2_0, .int .i64 a2_1] 38 (0, 0)) (by (with_reducible repeat (first | refine blk_drewN ?_ _ | refine blk_drew ?_ | refine blk_alloc ?_ _)); exact BK182.out)) (below_size (by repeat (first | (with_reducible first | exact HB.out | apply below_alloc | apply pw_below_drewN | apply below_drew1 | refine below_set ?_ GE182.out) | exact HB.out)))); have n2_ := Aside0.mk (blk_below (g := gb182) (o := .cells #[.int .i64 a2_0, .int .i64 a2_1] 38 (0, 0)) (by (with_reducible repeat (first | refine blk_drewN ?_ _ | refine blk_drew ?_ | refine blk_alloc ?_ _)); exact BK182.out) hb); have n3_ := Aside0.mk (below_step (by repeat (first | (with_reducible first | exact HB.out | apply below_alloc | apply pw_below_drewN | apply below_drew1 | refine below_set ?_ GE182.out) | exact HB.out)) hb); clear HO186; clear BK182; clear HB; have HO186 := n0_; have HO190 := n1_; have BK182 := n2_; have HB := n3_; clear n0_ n1_ n2_ n3_; (try clear hb); (try clear hb2); (try clear hk); (try clear hi); (try clear ho0); obtain ⟨Ao17, co17, eo17⟩ := Kd.R_slice HO190.out; subst eo17))
        go_loopg [41] k (fun kq v41 w' => ∃ (x41_1 : Int), v41 = .int .i64 x41_1 ∧ Aside0 (kissgatelaw17_SpreadAll.l0 kq l0 l1 t184 t188 t188 (t188.length : Int) x41_1 a2_0 a2_1 = some r) ∧ Aside0 (kq ≤ k) ∧ Aside0 (Kd.N k47 47 w' w.heap.size (fun k_ => some k_ ≠ ((.slice Ao17 t188.length co17) : Value).ownBlock ∧ some k_ ≠ ((.slice Ao17 t188.length co17) : Value).ownBlock ∧ k_ ≠ gb182) v185 t184) ∧ Aside0 (Kd.R k38 38 w' w.heap.size (fun k_ => k_ ≠ gb182) (.slice Ao17 t188.length co17) t188) ∧ Aside0 (Kd.R k38 38 w' w.heap.size (fun k_ => k_ ≠ gb182) (.slice Ao17 t188.length co17) t188) ∧ Aside0 (w'.heap[gb182]? = some (.cells #[.int .i64 a2_0, .int .i64 a2_1] 38 (0, 0))) ∧ Aside0 (Below w.heap.size w w'))
        case atStart => exact ⟨(0), (by first | rfl | (simp; done) | (simp [*]; done)), H', ⟨Nat.le_refl _⟩, ⟨by (with_reducible repeat (first | apply Kd.N_alloc | apply Kd.N_drewN | apply Kd.N_drew)); exact Kd.N_mono HO186.out (fun _ hk => ⟨hk.2, ⟨hk.2, hk.1⟩⟩)⟩, ⟨by (with_reducible repeat (first | apply Kd.R_alloc | apply Kd.R_drewN | apply Kd.R_drew)); exact Kd.R_mono HO190.out (fun _ hk => hk.2)⟩, ⟨by (with_reducible repeat (first | apply Kd.R_alloc | apply Kd.R_drewN | apply Kd.R_drew)); exact Kd.R_mono HO190.out (fun _ hk => hk.2)⟩, ⟨by (with_reducible repeat (first | refine blk_drewN ?_ _ | refine blk_drew ?_ | refine blk_alloc ?_ _)); exact BK182.out⟩, ⟨by repeat (first | (with_reducible first | exact HB.out | apply below_alloc | apply pw_below_drewN | apply below_drew1 | refine below_set ?_ GE182.out) | exact HB.out)⟩⟩
        case round =>
          clear H'
          try clear c1
          try clear c2
          try clear p2
          try clear c3
          try clear c5
          try clear c7
          try clear c8
          try clear c8b0
          try clear c8b1
          try clear c13
          obtain ⟨x41_1, rfl, HA, HK1, HO_7, HO_9, HO_39, BK182, HB⟩ := hrel
          cases gk with
          | zero => exact absurd HA.out (by simp [kissgatelaw17_SpreadAll.l0])
          | succ k1 =>
            have H := HA.out
            clear HA
            simp only [kissgatelaw17_SpreadAll.l0] at H
            by_cases c18 : x41_1 < (t188.length : Int)
            · rw [if_pos c18] at H
              have c18b0 : decide (x41_1 < (t188.length : Int)) = true := decide_eq_true c18
              clear c18
              by_cases c19 : 0 ≤ x41_1
              · rw [if_pos c19] at H
                have c19b0 : decide (0 ≤ x41_1) = true := decide_eq_true c19
                clear c19
                by_cases c20 : x41_1 < (t188.length : Int)
                · rw [if_pos c20] at H
                  have c20b0 : decide (x41_1 < (t188.length : Int)) = true := decide_eq_true c20
                  clear c20
                  by_cases c21 : x41_1 > 0
                  · rw [if_pos c21] at H
                    have c21b0 : decide (0 < x41_1) = true := decide_eq_true c21
                    clear c21
                    obtain ⟨ji22, hji22⟩ : ∃ j_ : Int, (wrap64 (x41_1 - 1)) = j_ := ⟨_, rfl⟩
                    replace H : (if 0 ≤ (ji22) then (if (ji22) < (t188.length : Int) then ((kissgateref07_Less.f ((rd_T38 t188 (ji22)).f0) ((rd_T38 t188 (ji22)).f1) ((rd_T38 t188 x41_1).f0) ((rd_T38 t188 x41_1).f1)).bind fun t194 => (if t194 = true then ((kissgateref17_Has.f k1 false l1 ([] : List Int) ((rd_T38 t188 x41_1).f0) ((rd_T38 t188 x41_1).f1)).bind fun t195 => (kissgatelaw17_SpreadAll.l1 k1 l0 l1 t184 t188 t195 t188 (t188.length : Int) x41_1 t184 (t184.length : Int) 0 a2_0 a2_1 ((rd_T38 t188 x41_1).f0) ((rd_T38 t188 x41_1).f1))) else (some false))) else (none)) else (none)) = some r := by first | (rw [hji22] at H; exact H) | (simp only [hji22] at H ⊢; exact H)
                    have hji22w : (IntKind.i64.wrap (x41_1 - 1)) = ji22 := (i64_w _).trans hji22
                    by_cases c23 : 0 ≤ (ji22)
                    · rw [if_pos c23] at H
                      have c23b0 : decide (0 ≤ (ji22)) = true := decide_eq_true c23
                      clear c23
                      by_cases c24 : (ji22) < (t188.length : Int)
                      · rw [if_pos c24] at H
                        have c24b0 : decide ((ji22) < (t188.length : Int)) = true := decide_eq_true c24
                        clear c24
                        replace H := Option.bind_eq_some_iff.mp H
                        obtain ⟨t194, A250, H⟩ := H
                        replace H : (if t194 = true then ((kissgateref17_Has.f k1 false l1 ([] : List Int) ((rd_T38 t188 x41_1).f0) ((rd_T38 t188 x41_1).f1)).bind fun t195 => (kissgatelaw17_SpreadAll.l1 k1 l0 l1 t184 t188 t195 t188 (t188.length : Int) x41_1 t184 (t184.length : Int) 0 a2_0 a2_1 ((rd_T38 t188 x41_1).f0) ((rd_T38 t188 x41_1).f1))) else (some false)) = some r := H
                        have A25 := Aside0.mk A250
                        clear A250
                        by_cases c26 : t194 = true
                        · subst c26
                          have H1 : ((kissgateref17_Has.f k1 false l1 ([] : List Int) ((rd_T38 t188 x41_1).f0) ((rd_T38 t188 x41_1).f1)).bind fun t195 => (kissgatelaw17_SpreadAll.l1 k1 l0 l1 t184 t188 t195 t188 (t188.length : Int) x41_1 t184 (t184.length : Int) 0 a2_0 a2_1 ((rd_T38 t188 x41_1).f0) ((rd_T38 t188 x41_1).f1))) = some r := by rw [if_pos rfl] at H; exact H
                          clear H
                          have H := H1
                          clear H1
                          replace H := Option.bind_eq_some_iff.mp H
                          obtain ⟨t195, A270, H⟩ := H
                          replace H : (kissgatelaw17_SpreadAll.l1 k1 l0 l1 t184 t188 t195 t188 (t188.length : Int) x41_1 t184 (t184.length : Int) 0 a2_0 a2_1 ((rd_T38 t188 x41_1).f0) ((rd_T38 t188 x41_1).f1)) = some r := H
                          have A27 := Aside0.mk A270
                          clear A270
                          have H' := Aside0.mk H
                          clear H
                          have p191 : 0 ≤ (x41_1 : Int) := of_decide_eq_true (by first | (with_reducible assumption) | assumption)
                          have q191 : x41_1 < (t188.length : Int) := of_decide_eq_true (by first | (with_reducible assumption) | assumption)
                          obtain ⟨ad191, e191, hx191_0, hx191_1⟩ := at_T38 (Kd.R_reads' HO_39.out).2.2 x41_1 p191 q191
                          cases e191
                          replace p191 := eq_true p191
                          replace q191 := eq_true q191
                          try go_wp2_with (first | ((with_reducible refine gate_dst (N := 11) rfl ?_); (try (refine gate_guard (by rfl) ?_; dsimp only)); refine box_event ?hg (N := 11) ?hd (cs := #[.int .i64 0, .int .i64 0]) (t := 38) ?hr ?_; (case hd => rfl); (case hg => rfl); (case hr => first | (go_simp; done) | (go_simp; rfl)); intro gb192 hg w28 hbox hb; have n0_ := Aside0.mk (Kd.N_below (Kd.N_elderB (by (with_reducible repeat (first | apply Kd.N_alloc | apply Kd.N_drewN | apply Kd.N_drew)); exact HO_7.out) gb192 (Nat.le_of_eq hg.symm)) hb); have n1_ := Aside0.mk (Kd.R_below (Kd.R_elderB (by (with_reducible repeat (first | apply Kd.R_alloc | apply Kd.R_drewN | apply Kd.R_drew)); exact HO_9.out) gb192 (Nat.le_of_eq hg.symm)) hb); have n2_ := Aside0.mk (Kd.R_below (Kd.R_elderB (by (with_reducible repeat (first | apply Kd.R_alloc | apply Kd.R_drewN | apply Kd.R_drew)); exact HO_39.out) gb192 (Nat.le_of_eq hg.symm)) hb); have n3_ := Aside0.mk (blk_below (g := gb182) (o := .cells #[.int .i64 a2_0, .int .i64 a2_1] 38 (0, 0)) (by (with_reducible repeat (first | refine blk_drewN ?_ _ | refine blk_drew ?_ | refine blk_alloc ?_ _)); exact BK182.out) hb); have n4_ := Aside0.mk (below_step (by repeat (first | (with_reducible first | exact HB.out | apply below_alloc | apply pw_below_drewN | apply below_drew1 | refine below_set ?_ GE182.out) | exact HB.out)) hb); have n5_ := Aside0.mk (hbox); have n6_ := Aside0.mk ((by rw [hg]; exact (below_size (by repeat (first | (with_reducible first | exact HB.out | apply below_alloc | apply pw_below_drewN | apply below_drew1 | refine below_set ?_ GE182.out) | exact HB.out))) : w.heap.size ≤ gb192)); have n7_ := Aside0.mk ((by rw [hg]; exact (below_size (by repeat (first | (with_reducible first | exact HB.out | apply below_alloc | apply pw_below_drewN | apply below_drew1 | refine below_set ?_ GE182.out) | exact HB.out))) : w.heap.size ≤ gb192)); have n8_ := Aside0.mk ((by rw [hg]; exact Nat.ne_of_lt (blk_lt (g := gb182) (o := .cells #[.int .i64 a2_0, .int .i64 a2_1] 38 (0, 0)) (by (with_reducible repeat (first | refine blk_drewN ?_ _ | refine blk_drew ?_ | refine blk_alloc ?_ _)); exact BK182.out)) : gb182 ≠ gb192)); have n9_ := Aside0.mk ((by rw [hg]; exact Nat.ne_of_gt (blk_lt (g := gb182) (o := .cells #[.int .i64 a2_0, .int .i64 a2_1] 38 (0, 0)) (by (with_reducible repeat (first | refine blk_drewN ?_ _ | refine blk_drew ?_ | refine blk_alloc ?_ _)); exact BK182.out)) : gb192 ≠ gb182)); clear HO_7; clear HO_9; clear HO_39; clear BK182; clear HB; have HO_7 := n0_; have HO_9 := n1_; have HO_39 := n2_; have BK182 := n3_; have HB := n4_; have BK192 := n5_; have GW192 := n6_; have GE192 := n7_; have NB182_192 := n8_; have NB192_182 := n9_; clear n0_ n1_ n2_ n3_ n4_ n5_ n6_ n7_ n8_ n9_; clear hb hbox hg; have hnb29 := NB192_182.out; have hnc29 := NB182_192.out; have hcz30_0 : w28.cell? ⟨gb192, 0, none⟩ = some (.int .i64 0) := (blk_cell BK192.out 0).trans rfl; have hcz30_1 : w28.cell? ⟨gb192, 1, none⟩ = some (.int .i64 0) := (blk_cell BK192.out 1).trans rfl; have hfz30_0 := blk_frozen BK192.out 0; have hfz30_1 := blk_frozen BK192.out 1))
                          have n0_ : Aside0 (Kd.N k47 47 ((w28.setCell ⟨gb192, 0, none⟩ (.int .i64 ((rd_T38 t188 x41_1).f0))).setCell ⟨gb192, 1, none⟩ (.int .i64 ((rd_T38 t188 x41_1).f1))) w.heap.size (fun k_ => some k_ ≠ (.slice (some ad191) t188.length co17 : Value).ownBlock ∧ some k_ ≠ (.slice (some ad191) t188.length co17 : Value).ownBlock ∧ k_ ≠ gb182 ∧ k_ ≠ gb192) v185 t184) := ⟨by (with_reducible repeat (first | apply Kd.N_alloc | apply Kd.N_drewN | apply Kd.N_drew)); exact Kd.N_mono (Kd.N_far (p := ⟨gb192, 1, none⟩) (Kd.N_far (p := ⟨gb192, 0, none⟩) (Kd.N_mono HO_7.out (fun k_ hk => (⟨hk, hk.2⟩ : _ ∧ k_ ≠ gb192))) (fun _ hk => hk.2) (.int .i64 ((rd_T38 t188 x41_1).f0))) (fun _ hk => hk.2) (.int .i64 ((rd_T38 t188 x41_1).f1))) (fun _ hk => ⟨hk.1.1.1, ⟨hk.1.1.2.1, ⟨hk.1.1.2.2, hk.1.2⟩⟩⟩)⟩
                          have n1_ : Aside0 (Kd.R k38 38 ((w28.setCell ⟨gb192, 0, none⟩ (.int .i64 ((rd_T38 t188 x41_1).f0))).setCell ⟨gb192, 1, none⟩ (.int .i64 ((rd_T38 t188 x41_1).f1))) w.heap.size (fun k_ => k_ ≠ gb182 ∧ k_ ≠ gb192) (.slice (some ad191) t188.length co17) t188) := ⟨by (with_reducible repeat (first | apply Kd.R_alloc | apply Kd.R_drewN | apply Kd.R_drew)); exact Kd.R_mono (Kd.R_far (p := ⟨gb192, 1, none⟩) (Kd.R_far (p := ⟨gb192, 0, none⟩) (Kd.R_mono HO_9.out (fun k_ hk => (⟨hk, hk.2⟩ : _ ∧ k_ ≠ gb192))) (fun _ hk => hk.2) (.int .i64 ((rd_T38 t188 x41_1).f0))) (fun _ hk => hk.2) (.int .i64 ((rd_T38 t188 x41_1).f1))) (fun _ hk => ⟨hk.1.1, hk.1.2⟩)⟩
                          have n2_ : Aside0 (Kd.R k38 38 ((w28.setCell ⟨gb192, 0, none⟩ (.int .i64 ((rd_T38 t188 x41_1).f0))).setCell ⟨gb192, 1, none⟩ (.int .i64 ((rd_T38 t188 x41_1).f1))) w.heap.size (fun k_ => k_ ≠ gb182 ∧ k_ ≠ gb192) (.slice (some ad191) t188.length co17) t188) := ⟨by (with_reducible repeat (first | apply Kd.R_alloc | apply Kd.R_drewN | apply Kd.R_drew)); exact Kd.R_mono (Kd.R_far (p := ⟨gb192, 1, none⟩) (Kd.R_far (p := ⟨gb192, 0, none⟩) (Kd.R_mono HO_39.out (fun k_ hk => (⟨hk, hk.2⟩ : _ ∧ k_ ≠ gb192))) (fun _ hk => hk.2) (.int .i64 ((rd_T38 t188 x41_1).f0))) (fun _ hk => hk.2) (.int .i64 ((rd_T38 t188 x41_1).f1))) (fun _ hk => ⟨hk.1.1, hk.1.2⟩)⟩
                          have n3_ : Aside0 (((w28.setCell ⟨gb192, 0, none⟩ (.int .i64 ((rd_T38 t188 x41_1).f0))).setCell ⟨gb192, 1, none⟩ (.int .i64 ((rd_T38 t188 x41_1).f1))).heap[gb182]? = some (.cells #[.int .i64 a2_0, .int .i64 a2_1] 38 (0, 0))) := ⟨by (with_reducible repeat (first | refine blk_drewN ?_ _ | refine blk_drew ?_ | refine blk_alloc ?_ _)); refine blk_far ?_ NB182_192.out _; (with_reducible repeat (first | refine blk_drewN ?_ _ | refine blk_drew ?_ | refine blk_alloc ?_ _)); refine blk_far ?_ NB182_192.out _; (with_reducible repeat (first | refine blk_drewN ?_ _ | refine blk_drew ?_ | refine blk_alloc ?_ _)); exact BK182.out⟩
                          have n4_ : Aside0 (((w28.setCell ⟨gb192, 0, none⟩ (.int .i64 ((rd_T38 t188 x41_1).f0))).setCell ⟨gb192, 1, none⟩ (.int .i64 ((rd_T38 t188 x41_1).f1))).heap[gb192]? = some (.cells #[.int .i64 ((rd_T38 t188 x41_1).f0), .int .i64 ((rd_T38 t188 x41_1).f1)] 38 (0, 0))) := ⟨by (with_reducible repeat (first | refine blk_drewN ?_ _ | refine blk_drew ?_ | refine blk_alloc ?_ _)); refine blk_put (cs := #[.int .i64 ((rd_T38 t188 x41_1).f0), .int .i64 0]) ?_ 1 _ rfl; (with_reducible repeat (first | refine blk_drewN ?_ _ | refine blk_drew ?_ | refine blk_alloc ?_ _)); refine blk_put (cs := #[.int .i64 0, .int .i64 0]) ?_ 0 _ rfl; (with_reducible repeat (first | refine blk_drewN ?_ _ | refine blk_drew ?_ | refine blk_alloc ?_ _)); exact BK192.out⟩
                          have n5_ : Aside0 (Below w.heap.size w ((w28.setCell ⟨gb192, 0, none⟩ (.int .i64 ((rd_T38 t188 x41_1).f0))).setCell ⟨gb192, 1, none⟩ (.int .i64 ((rd_T38 t188 x41_1).f1)))) := ⟨by repeat (first | (with_reducible first | exact HB.out | apply below_alloc | apply pw_below_drewN | apply below_drew1 | refine below_set ?_ GE182.out | refine below_set ?_ GE192.out) | exact HB.out)⟩
                          (try clear HO_7)
                          (try clear HO_9)
                          (try clear HO_39)
                          (try clear BK182)
                          (try clear BK192)
                          (try clear HB)
                          generalize ((w28.setCell ⟨gb192, 0, none⟩ (.int .i64 ((rd_T38 t188 x41_1).f0))).setCell ⟨gb192, 1, none⟩ (.int .i64 ((rd_T38 t188 x41_1).f1))) = w31 at n0_ n1_ n2_ n3_ n4_ n5_ ⊢
                          have HO_7 := n0_
                          have HO_9 := n1_
                          have HO_39 := n2_
                          have BK182 := n3_
                          have BK192 := n4_
                          have HB := n5_
                          clear n0_ n1_ n2_ n3_ n4_ n5_
                          have n0_ := Aside0.mk (Kd.N_drew HO_7.out)
                          have n1_ := Aside0.mk (Kd.R_drew HO_9.out)
                          have n2_ := Aside0.mk (Kd.R_drew HO_39.out)
                          have n3_ := Aside0.mk (blk_drew BK182.out)
                          have n4_ := Aside0.mk (blk_drew BK192.out)
                          have n5_ := Aside0.mk (below_drew1 HB.out)
                          clear HO_7
                          clear HO_9
                          clear HO_39
                          clear BK182
                          clear BK192
                          clear HB
                          have HO_7 := n0_
                          have HO_9 := n1_
                          have HO_39 := n2_
                          have BK182 := n3_
                          have BK192 := n4_
                          have HB := n5_
                          clear n0_ n1_ n2_ n3_ n4_ n5_
                          have p193 : 0 ≤ ((ji22) : Int) := of_decide_eq_true (by first | (with_reducible assumption) | assumption)
                          have q193 : (ji22) < (t188.length : Int) := of_decide_eq_true (by first | (with_reducible assumption) | assumption)
                          obtain ⟨ad193, e193, hx193_0, hx193_1⟩ := at_T38 (Kd.R_reads' HO_9.out).2.2 (ji22) p193 q193
                          obtain rfl : ad191 = ad193 := (by injection e193)
                          replace p193 := eq_true p193
                          replace q193 := eq_true q193
                          refine start_ (n := 12) (S := fun w' => w'.cell? ⟨gb192, 0, none⟩ = some (.int .i64 ((rd_T38 t188 x41_1).f0)) ∧ w'.cell? ⟨gb192, 1, none⟩ = some (.int .i64 ((rd_T38 t188 x41_1).f1)) ∧ w'.cell? (ad191.add (((ji22)).toNat * 2)) = some (.int .i64 ((rd_T38 t188 (ji22)).f0)) ∧ w'.cell? ⟨(ad191.add (((ji22)).toNat * 2)).block, (ad191.add (((ji22)).toNat * 2)).off + 1, none⟩ = some (.int .i64 ((rd_T38 t188 (ji22)).f1))) (ds := []) #[false, false, false, false, false, false, false, false, false, false, false, false] (by kernel_rfl) rfl rfl ⟨(blk_cell BK192.out 0).trans rfl, (blk_cell BK192.out 1).trans rfl, hx193_0, hx193_1⟩ (fun hHeld => ?_); refine with_tabW kissgatelaw17_SpreadAll.tab10 kissgatelaw17_SpreadAll.bits10 (fun HT_ HW_ => ?_)
                          generalize w31.drew = w32 at HO_7 HO_9 HO_39 BK182 BK192 HB hx193_0 hx193_1 hHeld ⊢
                          refine pure_ (i := 0) (N := some 46) (v := ?_) (a' := ?_) #[true, false, false, false, false, false, false, false, false, false, false, false] rfl rfl (any_of HT_.out (by kernel_rfl)) (fun _ _ _ h => h) (Or.inl ⟨by rfl, ?_⟩) ?_ ?_
                          rotate_left
                          · intro w'
                            go_simp
                            with_reducible rfl
                          rotate_left
                          · simp only [Act.put, List.setIfInBounds_toArray, List.set_cons_zero, List.set_cons_succ, i64_w, i32_w]
                            rfl
                          refine pure_ (i := 1) (N := some 47) (v := ?_) (a' := ?_) #[true, true, false, false, false, false, false, false, false, false, false, false] rfl rfl (any_of HT_.out (by kernel_rfl)) (fun _ _ _ h => h) (Or.inl ⟨by rfl, ?_⟩) ?_ ?_
                          rotate_left
                          · intro w'
                            go_simp
                            with_reducible rfl
                          rotate_left
                          · simp only [Act.put, List.setIfInBounds_toArray, List.set_cons_zero, List.set_cons_succ, i64_w, i32_w]
                            rfl
                          refine pure_ (i := 2) (N := some 48) (v := ?_) (a' := ?_) #[true, true, true, false, false, false, false, false, false, false, false, false] rfl rfl (any_of HT_.out (by kernel_rfl)) (fun _ _ _ h => h) (Or.inl ⟨by rfl, ?_⟩) ?_ ?_
                          rotate_left
                          · intro w'
                            go_simp
                            with_reducible rfl
                          rotate_left
                          · simp only [Act.put, List.setIfInBounds_toArray, List.set_cons_zero, List.set_cons_succ, i64_w, i32_w]
                            rfl
                          refine pure_ (i := 3) (N := some 49) (v := ?_) (a' := ?_) #[true, true, true, true, false, false, false, false, false, false, false, false] rfl rfl (any_of HT_.out (by kernel_rfl)) (fun _ _ _ h => h) (Or.inl ⟨by rfl, ?_⟩) ?_ ?_
                          rotate_left
                          · intro w'
                            go_simp
                            with_reducible rfl
                          rotate_left
                          · simp only [Act.put, List.setIfInBounds_toArray, List.set_cons_zero, List.set_cons_succ, i64_w, i32_w]
                            rfl
                          refine pure_ (i := 4) (N := some 50) (v := ?_) (a' := ?_) #[true, true, true, true, true, false, false, false, false, false, false, false] rfl rfl (any_of HT_.out (by kernel_rfl)) (fun _ _ _ h => h) (Or.inl ⟨by rfl, ?_⟩) ?_ ?_
                          rotate_left
                          · intro w'
                            go_simp
                            with_reducible rfl
                          rotate_left
                          · simp only [Act.put, List.setIfInBounds_toArray, List.set_cons_zero, List.set_cons_succ, i64_w, i32_w]
                            rfl
                          refine pure_ (i := 5) (N := some 51) (v := ?_) (a' := ?_) #[true, true, true, true, true, true, false, false, false, false, false, false] rfl rfl (any_of HT_.out (by kernel_rfl)) (fun _ _ _ h => h) (Or.inl ⟨by rfl, ?_⟩) ?_ ?_
                          rotate_left
                          · intro w'
                            go_simp
                            with_reducible rfl
                          rotate_left
                          · simp only [Act.put, List.setIfInBounds_toArray, List.set_cons_zero, List.set_cons_succ, i64_w, i32_w]
                            rfl
                          refine pure_ (i := 6) (N := some 52) (v := ?_) (a' := ?_) #[true, true, true, true, true, true, true, false, false, false, false, false] rfl rfl (any_of HT_.out (by kernel_rfl)) (fun _ _ _ h => h) (Or.inl ⟨by rfl, ?_⟩) ?_ ?_
                          rotate_left
                          · intro w'
                            go_simp
                            with_reducible rfl
                          rotate_left
                          · simp only [Act.put, List.setIfInBounds_toArray, List.set_cons_zero, List.set_cons_succ, i64_w, i32_w]
                            rfl
                          refine take_ (i := 7) (N := some 53) (v := ?_) (a' := ?_) #[true, true, true, true, true, true, true, true, false, false, false, false] rfl rfl (take_ofW HT_.out HW_.out (by kernel_rfl)) (fun _ _ _ h => h) (Or.inl ⟨by rfl, ?_⟩) hHeld ?_ ?_
                          rotate_left
                          · rintro w' ⟨s0, s1, s2, s3⟩
                            go_simp
                            with_reducible rfl
                          rotate_left
                          · simp only [Act.put, List.setIfInBounds_toArray, List.set_cons_zero, List.set_cons_succ, i64_w, i32_w]
                            rfl
                          refine take_ (i := 8) (N := some 54) (v := ?_) (a' := ?_) #[true, true, true, true, true, true, true, true, true, false, false, false] rfl rfl (take_ofW HT_.out HW_.out (by kernel_rfl)) (fun _ _ _ h => h) (Or.inl ⟨by rfl, ?_⟩) hHeld ?_ ?_
                          rotate_left
                          · rintro w' ⟨s0, s1, s2, s3⟩
                            go_simp
                            with_reducible rfl
                          rotate_left
                          · simp only [Act.put, List.setIfInBounds_toArray, List.set_cons_zero, List.set_cons_succ, i64_w, i32_w]
                            rfl
                          refine one_ (i := 9) (N := some 55) #[true, true, true, true, true, true, true, true, true, true, false, false] rfl rfl (one_of HT_.out (by kernel_rfl)) (by decide) (fun K hK => ?_)
                          refine goes_ Try.func34 (by kernel_rfl) rfl #[.agg #[.int .i64 ((rd_T38 t188 (ji22)).f0), .int .i64 ((rd_T38 t188 (ji22)).f1)], .agg #[.int .i64 ((rd_T38 t188 x41_1).f0), .int .i64 ((rd_T38 t188 x41_1).f1)]] (by rfl) rfl rfl (by (try simp only [List.map_toArray, List.map_cons, List.map_nil]); first | done | (simp only [hji22]; rfl) | rfl | (simp only [List.length_drop, List.length_take]; rfl)) ?_
                          with_reducible refine (kissgateref07_Less.calls ((rd_T38 t188 (ji22)).f0) ((rd_T38 t188 (ji22)).f1) ((rd_T38 t188 x41_1).f0) ((rd_T38 t188 x41_1).f1) true _ A25.out).mono ?_
                          rintro e w33 ⟨rfl, hb⟩
                          have HS2_ := (hb.cell (World.block_lt_of_cell? _ _ (hHeld.2.2.1))).trans (hHeld.2.2.1)
                          have HS3_ := (hb.cell (World.block_lt_of_cell? _ _ (hHeld.2.2.2))).trans (hHeld.2.2.2)
                          refine ⟨_, rfl, ?_⟩
                          have n0_ := Aside0.mk (Kd.N_below (by (with_reducible repeat (first | apply Kd.N_alloc | apply Kd.N_drewN | apply Kd.N_drew)); exact HO_7.out) hb)
                          have n1_ := Aside0.mk (Kd.R_below (by (with_reducible repeat (first | apply Kd.R_alloc | apply Kd.R_drewN | apply Kd.R_drew)); exact HO_9.out) hb)
                          have n2_ := Aside0.mk (Kd.R_below (by (with_reducible repeat (first | apply Kd.R_alloc | apply Kd.R_drewN | apply Kd.R_drew)); exact HO_39.out) hb)
                          have n3_ := Aside0.mk (blk_below (g := gb182) (o := .cells #[.int .i64 a2_0, .int .i64 a2_1] 38 (0, 0)) (by (with_reducible repeat (first | refine blk_drewN ?_ _ | refine blk_drew ?_ | refine blk_alloc ?_ _)); exact BK182.out) hb)
                          have n4_ := Aside0.mk (blk_below (g := gb192) (o := .cells #[.int .i64 ((rd_T38 t188 x41_1).f0), .int .i64 ((rd_T38 t188 x41_1).f1)] 38 (0, 0)) (by (with_reducible repeat (first | refine blk_drewN ?_ _ | refine blk_drew ?_ | refine blk_alloc ?_ _)); exact BK192.out) hb)
                          have n5_ := Aside0.mk (below_step (by repeat (first | (with_reducible first | exact HB.out | apply below_alloc | apply pw_below_drewN | apply below_drew1 | refine below_set ?_ GE182.out | refine below_set ?_ GE192.out) | exact HB.out)) hb)
                          clear HO_7
                          clear HO_9
                          clear HO_39
                          clear BK182
                          clear BK192
                          clear HB
                          have HO_7 := n0_
                          have HO_9 := n1_
                          have HO_39 := n2_
                          have BK182 := n3_
                          have BK192 := n4_
                          have HB := n5_
                          clear n0_ n1_ n2_ n3_ n4_ n5_
                          (try clear hb)
                          (try clear hb2)
                          (try clear hk)
                          (try clear hi)
                          refine hK.out _ _ ⟨(blk_cell BK192.out 0).trans rfl, (blk_cell BK192.out 1).trans rfl, HS2_, HS3_⟩ (fun hHeld => ?_)
                          clear hK K
                          refine norm_ (a' := ?_) ?_ ?_
                          rotate_left
                          · show Act.put _ (some 55) _ = _
                            simp only [Act.put, List.setIfInBounds_toArray, List.set_cons_zero, List.set_cons_succ, i64_w, i32_w]
                            rfl
                          refine pure_ (i := 10) (N := some 56) (v := ?_) (a' := ?_) #[true, true, true, true, true, true, true, true, true, true, true, false] rfl rfl (any_of HT_.out (by kernel_rfl)) (fun _ _ _ h => h) (Or.inl ⟨by rfl, ?_⟩) ?_ ?_
                          rotate_left
                          · intro w'
                            go_simp
                            with_reducible rfl
                          rotate_left
                          · simp only [Act.put, List.setIfInBounds_toArray, List.set_cons_zero, List.set_cons_succ, i64_w, i32_w]
                            rfl
                          refine pure_ (i := 11) (N := some 57) (v := ?_) (a' := ?_) #[true, true, true, true, true, true, true, true, true, true, true, true] rfl rfl (any_of HT_.out (by kernel_rfl)) (fun _ _ _ h => h) (Or.inl ⟨by rfl, ?_⟩) ?_ ?_
                          rotate_left
                          · intro w'
                            go_simp
                            with_reducible rfl
                          rotate_left
                          · simp only [Act.put, List.setIfInBounds_toArray, List.set_cons_zero, List.set_cons_succ, i64_w, i32_w]
                            rfl
                          refine done_ (done_of HT_.out (by kernel_rfl)) ?_
                          have hcz34_0 : w33.cell? ⟨gb192, 0, none⟩ = some (.int .i64 ((rd_T38 t188 x41_1).f0)) := (blk_cell BK192.out 0).trans rfl
                          have hcz34_1 : w33.cell? ⟨gb192, 1, none⟩ = some (.int .i64 ((rd_T38 t188 x41_1).f1)) := (blk_cell BK192.out 1).trans rfl
                          have hfz34_0 := blk_frozen BK192.out 0
                          have hfz34_1 := blk_frozen BK192.out 1
                          try go_wp2_with (first | ((with_reducible refine gate_callee (f := 35) rfl ?_); refine goesL_ (some 61) rfl rfl Try.func35 (by kernel_rfl) rfl #[.agg #[.bool false, .slice A1 l1.length c1, .slice none 0 0], .agg #[.int .i64 ((rd_T38 t188 x41_1).f0), .int .i64 ((rd_T38 t188 x41_1).f1)]] rfl (by (try simp only [List.map_toArray, List.map_cons, List.map_nil]); first | done | rfl | (simp only [List.length_drop, List.length_take]; rfl)) ?_; (refine (kissgateref17_Has.calls k1 false _ _ l1 _ _ ([] : List Int) ((rd_T38 t188 x41_1).f0) ((rd_T38 t188 x41_1).f1) t195 _ ?side1 ?side2 ?side3 ?side4 A27.out).mono ?_); (case side1 => repeat (first | exact (Kd.C_below HR1.out HB.out) | (with_reducible refine Kd.C_alloc ?_ _) | (with_reducible refine Kd.C_drewN ?_ _) | (with_reducible refine Kd.C_drew ?_))); (case side2 => exact HC1.out); (case side3 => exact Kd.C_nil _ _); (case side4 => exact Nat.le_refl _); rintro e w35 ⟨rfl, hb⟩; refine ⟨_, rfl, ?_⟩; have n0_ := Aside0.mk (Kd.N_below (by (with_reducible repeat (first | apply Kd.N_alloc | apply Kd.N_drewN | apply Kd.N_drew)); exact HO_7.out) hb); have n1_ := Aside0.mk (Kd.R_below (by (with_reducible repeat (first | apply Kd.R_alloc | apply Kd.R_drewN | apply Kd.R_drew)); exact HO_9.out) hb); have n2_ := Aside0.mk (Kd.R_below (by (with_reducible repeat (first | apply Kd.R_alloc | apply Kd.R_drewN | apply Kd.R_drew)); exact HO_39.out) hb); have n3_ := Aside0.mk (blk_below (g := gb182) (o := .cells #[.int .i64 a2_0, .int .i64 a2_1] 38 (0, 0)) (by (with_reducible repeat (first | refine blk_drewN ?_ _ | refine blk_drew ?_ | refine blk_alloc ?_ _)); exact BK182.out) hb); have n4_ := Aside0.mk (blk_below (g := gb192) (o := .cells #[.int .i64 ((rd_T38 t188 x41_1).f0), .int .i64 ((rd_T38 t188 x41_1).f1)] 38 (0, 0)) (by (with_reducible repeat (first | refine blk_drewN ?_ _ | refine blk_drew ?_ | refine blk_alloc ?_ _)); exact BK192.out) hb); have n5_ := Aside0.mk (below_step (by repeat (first | (with_reducible first | exact HB.out | apply below_alloc | apply pw_below_drewN | apply below_drew1 | refine below_set ?_ GE182.out | refine below_set ?_ GE192.out) | exact HB.out)) hb); clear HO_7; clear HO_9; clear HO_39; clear BK182; clear BK192; clear HB; have HO_7 := n0_; have HO_9 := n1_; have HO_39 := n2_; have BK182 := n3_; have BK192 := n4_; have HB := n5_; clear n0_ n1_ n2_ n3_ n4_ n5_; (try clear hb); (try clear hb2); (try clear hk); (try clear hi); obtain ⟨Ao36, co36, eo36⟩ := Kd.N_slice HO_7.out; subst eo36))
                          go_loopg [12, 64] k1 (fun kq v12 v64 w' => ∃ (x12_2 : Bool) (x64_2 : Int), v12 = .bool x12_2 ∧ v64 = .int .i64 x64_2 ∧ Aside0 (kissgatelaw17_SpreadAll.l1 kq l0 l1 t184 t188 x12_2 t188 (t188.length : Int) x41_1 t184 (t184.length : Int) x64_2 a2_0 a2_1 ((rd_T38 t188 x41_1).f0) ((rd_T38 t188 x41_1).f1) = some r) ∧ Aside0 (kq ≤ k1) ∧ Aside0 (Kd.N k47 47 w' w.heap.size (fun k_ => some k_ ≠ ((.slice (some ad191) t188.length co17) : Value).ownBlock ∧ some k_ ≠ ((.slice (some ad191) t188.length co17) : Value).ownBlock ∧ k_ ≠ gb182 ∧ k_ ≠ gb192) (.slice Ao36 t184.length co36) t184) ∧ Aside0 (Kd.R k38 38 w' w.heap.size (fun k_ => k_ ≠ gb182 ∧ k_ ≠ gb192) (.slice (some ad191) t188.length co17) t188) ∧ Aside0 (Kd.R k38 38 w' w.heap.size (fun k_ => k_ ≠ gb182 ∧ k_ ≠ gb192) (.slice (some ad191) t188.length co17) t188) ∧ Aside0 (Kd.N k47 47 w' w.heap.size (fun k_ => some k_ ≠ ((.slice (some ad191) t188.length co17) : Value).ownBlock ∧ some k_ ≠ ((.slice (some ad191) t188.length co17) : Value).ownBlock ∧ k_ ≠ gb182 ∧ k_ ≠ gb192) (.slice Ao36 t184.length co36) t184) ∧ Aside0 (w'.heap[gb182]? = some (.cells #[.int .i64 a2_0, .int .i64 a2_1] 38 (0, 0))) ∧ Aside0 (w'.heap[gb192]? = some (.cells #[.int .i64 ((rd_T38 t188 x41_1).f0), .int .i64 ((rd_T38 t188 x41_1).f1)] 38 (0, 0))) ∧ Aside0 (Below w.heap.size w w'))
                          case atStart => exact ⟨(t195), (0), (by first | rfl | (simp; done) | (simp [*]; done)), (by first | rfl | (simp; done) | (simp [*]; done)), H', ⟨Nat.le_refl _⟩, ⟨by (with_reducible repeat (first | apply Kd.N_alloc | apply Kd.N_drewN | apply Kd.N_drew)); exact HO_7.out⟩, ⟨by (with_reducible repeat (first | apply Kd.R_alloc | apply Kd.R_drewN | apply Kd.R_drew)); exact HO_9.out⟩, ⟨by (with_reducible repeat (first | apply Kd.R_alloc | apply Kd.R_drewN | apply Kd.R_drew)); exact HO_39.out⟩, ⟨by (with_reducible repeat (first | apply Kd.N_alloc | apply Kd.N_drewN | apply Kd.N_drew)); exact HO_7.out⟩, ⟨by (with_reducible repeat (first | refine blk_drewN ?_ _ | refine blk_drew ?_ | refine blk_alloc ?_ _)); exact BK182.out⟩, ⟨by (with_reducible repeat (first | refine blk_drewN ?_ _ | refine blk_drew ?_ | refine blk_alloc ?_ _)); exact BK192.out⟩, ⟨by repeat (first | (with_reducible first | exact HB.out | apply below_alloc | apply pw_below_drewN | apply below_drew1 | refine below_set ?_ GE182.out | refine below_set ?_ GE192.out) | exact HB.out)⟩⟩
                          case round =>
                            clear H'
                            try clear c1
                            try clear p1
                            try clear q1
                            try clear hx1
                            try clear c2
                            try clear p2
                            try clear c3
                            try clear c5
                            try clear p6
                            try clear c7
                            try clear c8
                            try clear c8b0
                            try clear c8b1
                            try clear c13
                            try clear c18
                            try clear c18b0
                            try clear c19
                            try clear c19b0
                            try clear p19
                            try clear q19
                            try clear hx19
                            try clear c20
                            try clear c20b0
                            try clear c21
                            try clear c21b0
                            try clear c23
                            try clear c23b0
                            try clear c24
                            try clear c24b0
                            try clear c26
                            try clear c29
                            try clear c33
                            try clear c34
                            try clear c35
                            try clear hcz30_0
                            try clear hcz30_1
                            try clear hcz34_0
                            try clear hcz34_1
                            try clear hfz30_0
                            try clear hfz30_1
                            try clear hfz34_0
                            try clear hfz34_1
                            try clear hx191_0
                            try clear hx191_1
                            try clear hx193_0
                            try clear hx193_1
                            try clear p191
                            try clear p193
                            try clear p2
                            try clear q191
                            try clear q193
                            obtain ⟨x12_2, x64_2, rfl, rfl, HA, HK2, HO_7, HO_9, HO_39, HO_62, BK182, BK192, HB⟩ := hrel
                            cases gk with
                            | zero => exact absurd HA.out (by simp [kissgatelaw17_SpreadAll.l1])
                            | succ k2 =>
                              have H := HA.out
                              clear HA
                              simp only [kissgatelaw17_SpreadAll.l1] at H
                              by_cases c37 : x64_2 < (t184.length : Int)
                              · rw [if_pos c37] at H
                                have c37b0 : decide (x64_2 < (t184.length : Int)) = true := decide_eq_true c37
                                clear c37
                                by_cases c38 : 0 ≤ x64_2
                                · rw [if_pos c38] at H
                                  have c38b0 : decide (0 ≤ x64_2) = true := decide_eq_true c38
                                  clear c38
                                  by_cases c39 : x64_2 < (t184.length : Int)
                                  · rw [if_pos c39] at H
                                    have c39b0 : decide (x64_2 < (t184.length : Int)) = true := decide_eq_true c39
                                    clear c39
                                    by_cases c40 : x12_2 = true
                                    · subst c40
                                      have H1 : (kissgatelaw17_SpreadAll.l1 k2 l0 l1 t184 t188 true t188 (t188.length : Int) x41_1 t184 (t184.length : Int) (wrap64 (x64_2 + 1)) a2_0 a2_1 ((rd_T38 t188 x41_1).f0) ((rd_T38 t188 x41_1).f1)) = some r := by rw [if_pos rfl] at H; exact H
                                      clear H
                                      have H := H1
                                      clear H1
                                      have H' := Aside0.mk H
                                      clear H
                                      have p196 : 0 ≤ (x64_2 : Int) := of_decide_eq_true (by first | (with_reducible assumption) | assumption)
                                      have q196 : x64_2 < (t184.length : Int) := of_decide_eq_true (by first | (with_reducible assumption) | assumption)
                                      obtain ⟨ad196, A196_1, c196_1, A196_2, c196_2, e196, hx196_0, hx196_1, hx196_2, hl196_1, hi196_1, hl196_2, hi196_2⟩ := at_T47 (Kd.N_reads' HO_62.out).2.2 x64_2 p196 q196
                                      cases e196
                                      obtain ⟨ce196, hce196, hMe196, hcc196⟩ := Kd.N_get HO_62.out z47 x64_2 p196 (by first | exact q196 | exact of_decide_eq_true (by first | (with_reducible assumption) | assumption) | (have e_ := (Kd.N_reads' HO_62.out).1; omega))
                                      obtain ⟨ua196_1, uc196_1, ua196_2, uc196_2, rfl, ul196_1, ge196_1, ul196_2, ge196_2⟩ := k47_openF hMe196
                                      have hv196_1 := hcc196 1 _ rfl
                                      rw [add_field _ _ 1 (by omega)] at hv196_1
                                      replace hv196_1 := Option.some.inj (hv196_1.symm.trans hx196_1)
                                      injection hv196_1 with hva_ hvn_ hvc_
                                      rw [hva_] at ge196_1
                                      rw [hvc_] at ul196_1
                                      have HL196_1 := Aside0.mk (show Kd.V k38 38 _ w.heap.size _ _ ((rd_T47 t184 x64_2).f1) from Kd.V_mk ul196_1 ge196_1)
                                      clear hva_ hvn_ hvc_ ge196_1 ul196_1
                                      have hv196_2 := hcc196 2 _ rfl
                                      rw [add_field _ _ 2 (by omega)] at hv196_2
                                      replace hv196_2 := Option.some.inj (hv196_2.symm.trans hx196_2)
                                      injection hv196_2 with hva_ hvn_ hvc_
                                      rw [hva_] at ge196_2
                                      rw [hvc_] at ul196_2
                                      have HL196_2 := Aside0.mk (show Kd.V (Kd.int .i64) 3 _ w.heap.size _ _ ((rd_T47 t184 x64_2).f2) from Kd.V_mk ul196_2 ge196_2)
                                      clear hva_ hvn_ hvc_ ge196_2 ul196_2
                                      clear hcc196 hce196
                                      have HR196_1 := Aside0.mk hi196_1
                                      have HC196_1 := Aside0.mk hl196_1
                                      clear hi196_1 hl196_1
                                      have HR196_2 := Aside0.mk hi196_2
                                      have HC196_2 := Aside0.mk hl196_2
                                      clear hi196_2 hl196_2
                                      replace p196 := eq_true p196
                                      replace q196 := eq_true q196
                                      go_wp2_with (first | ((with_reducible refine gate_dst (N := 14) rfl ?_); (try (refine gate_guard (by rfl) ?_; dsimp only)); refine box_event ?hg (N := 14) ?hd (cs := #[.bool false, .slice none 0 0, .slice none 0 0]) (t := 47) ?hr ?_; (case hd => rfl); (case hg => rfl); (case hr => first | (go_simp; done) | (go_simp; rfl)); intro gb197 hg w41 hbox hb; have n0_ := Aside0.mk (Kd.N_below (Kd.N_elderB (by (with_reducible repeat (first | apply Kd.N_alloc | apply Kd.N_drewN | apply Kd.N_drew)); exact HO_7.out) gb197 (Nat.le_of_eq hg.symm)) hb); have n1_ := Aside0.mk (Kd.R_below (by (with_reducible repeat (first | apply Kd.R_alloc | apply Kd.R_drewN | apply Kd.R_drew)); exact HO_9.out) hb); have n2_ := Aside0.mk (Kd.R_below (by (with_reducible repeat (first | apply Kd.R_alloc | apply Kd.R_drewN | apply Kd.R_drew)); exact HO_39.out) hb); have n3_ := Aside0.mk (Kd.N_below (Kd.N_elderB (by (with_reducible repeat (first | apply Kd.N_alloc | apply Kd.N_drewN | apply Kd.N_drew)); exact HO_62.out) gb197 (Nat.le_of_eq hg.symm)) hb); have n4_ := Aside0.mk (Kd.V_below (Kd.V_elderB (by (with_reducible repeat (first | apply Kd.V_alloc | apply Kd.V_drewN | apply Kd.V_drew)); exact HL196_1.out) gb197 (Nat.le_of_eq hg.symm)) hb); have n5_ := Aside0.mk (Kd.V_below (Kd.V_elderB (by (with_reducible repeat (first | apply Kd.V_alloc | apply Kd.V_drewN | apply Kd.V_drew)); exact HL196_2.out) gb197 (Nat.le_of_eq hg.symm)) hb); have n6_ := Aside0.mk (blk_below (g := gb182) (o := .cells #[.int .i64 a2_0, .int .i64 a2_1] 38 (0, 0)) (by (with_reducible repeat (first | refine blk_drewN ?_ _ | refine blk_drew ?_ | refine blk_alloc ?_ _)); exact BK182.out) hb); have n7_ := Aside0.mk (blk_below (g := gb192) (o := .cells #[.int .i64 ((rd_T38 t188 x41_1).f0), .int .i64 ((rd_T38 t188 x41_1).f1)] 38 (0, 0)) (by (with_reducible repeat (first | refine blk_drewN ?_ _ | refine blk_drew ?_ | refine blk_alloc ?_ _)); exact BK192.out) hb); have n8_ := Aside0.mk (Kd.C_below (by repeat (first | (with_reducible exact HR196_1.out) | (with_reducible refine Kd.C_alloc ?_ _) | (with_reducible refine Kd.C_drewN ?_ _) | (with_reducible refine Kd.C_drew ?_) | exact HR196_1.out)) hb); have n9_ := Aside0.mk (Kd.C_below (by repeat (first | (with_reducible exact HR196_2.out) | (with_reducible refine Kd.C_alloc ?_ _) | (with_reducible refine Kd.C_drewN ?_ _) | (with_reducible refine Kd.C_drew ?_) | exact HR196_2.out)) hb); have n10_ := Aside0.mk (below_step (by repeat (first | (with_reducible first | exact HB.out | apply below_alloc | apply pw_below_drewN | apply below_drew1 | refine below_set ?_ GE182.out | refine below_set ?_ GE192.out) | exact HB.out)) hb); have n11_ := Aside0.mk (hbox); have n12_ := Aside0.mk ((by rw [hg]; exact (below_size (by repeat (first | (with_reducible first | exact HB.out | apply below_alloc | apply pw_below_drewN | apply below_drew1 | refine below_set ?_ GE182.out | refine below_set ?_ GE192.out) | exact HB.out))) : w.heap.size ≤ gb197)); have n13_ := Aside0.mk ((by rw [hg]; exact (below_size (by repeat (first | (with_reducible first | exact HB.out | apply below_alloc | apply pw_below_drewN | apply below_drew1 | refine below_set ?_ GE182.out | refine below_set ?_ GE192.out) | exact HB.out))) : w.heap.size ≤ gb197)); have n14_ := Aside0.mk ((by rw [hg]; exact Nat.ne_of_lt (blk_lt (g := gb182) (o := .cells #[.int .i64 a2_0, .int .i64 a2_1] 38 (0, 0)) (by (with_reducible repeat (first | refine blk_drewN ?_ _ | refine blk_drew ?_ | refine blk_alloc ?_ _)); exact BK182.out)) : gb182 ≠ gb197)); have n15_ := Aside0.mk ((by rw [hg]; exact Nat.ne_of_gt (blk_lt (g := gb182) (o := .cells #[.int .i64 a2_0, .int .i64 a2_1] 38 (0, 0)) (by (with_reducible repeat (first | refine blk_drewN ?_ _ | refine blk_drew ?_ | refine blk_alloc ?_ _)); exact BK182.out)) : gb197 ≠ gb182)); have n16_ := Aside0.mk ((by rw [hg]; exact Nat.ne_of_lt (blk_lt (g := gb192) (o := .cells #[.int .i64 ((rd_T38 t188 x41_1).f0), .int .i64 ((rd_T38 t188 x41_1).f1)] 38 (0, 0)) (by (with_reducible repeat (first | refine blk_drewN ?_ _ | refine blk_drew ?_ | refine blk_alloc ?_ _)); exact BK192.out)) : gb192 ≠ gb197)); have n17_ := Aside0.mk ((by rw [hg]; exact Nat.ne_of_gt (blk_lt (g := gb192) (o := .cells #[.int .i64 ((rd_T38 t188 x41_1).f0), .int .i64 ((rd_T38 t188 x41_1).f1)] 38 (0, 0)) (by (with_reducible repeat (first | refine blk_drewN ?_ _ | refine blk_drew ?_ | refine blk_alloc ?_ _)); exact BK192.out)) : gb197 ≠ gb192)); clear HO_7; clear HO_9; clear HO_39; clear HO_62; clear HL196_1; clear HL196_2; clear BK182; clear BK192; clear HR196_1; clear HR196_2; clear HB; have HO_7 := n0_; have HO_9 := n1_; have HO_39 := n2_; have HO_62 := n3_; have HL196_1 := n4_; have HL196_2 := n5_; have BK182 := n6_; have BK192 := n7_; have HR196_1 := n8_; have HR196_2 := n9_; have HB := n10_; have BK197 := n11_; have GW197 := n12_; have GE197 := n13_; have NB182_197 := n14_; have NB197_182 := n15_; have NB192_197 := n16_; have NB197_192 := n17_; clear n0_ n1_ n2_ n3_ n4_ n5_ n6_ n7_ n8_ n9_ n10_ n11_ n12_ n13_ n14_ n15_ n16_ n17_; clear hb hbox hg; have hnb42 := NB197_182.out; have hnc42 := NB182_197.out; have hnb43 := NB197_192.out; have hnc43 := NB192_197.out; have hcz44_0 : w41.cell? ⟨gb197, 0, none⟩ = some (.bool false) := (blk_cell BK197.out 0).trans rfl; have hcz44_1 : w41.cell? ⟨gb197, 1, none⟩ = some (.slice none 0 0) := (blk_cell BK197.out 1).trans rfl; have hcz44_2 : w41.cell? ⟨gb197, 2, none⟩ = some (.slice none 0 0) := (blk_cell BK197.out 2).trans rfl; have hfz44_0 := blk_frozen BK197.out 0; have hfz44_1 := blk_frozen BK197.out 1; have hfz44_2 := blk_frozen BK197.out 2))
                                      go_roundg k2
                                      case measure => have := HK1.out; have := HK2.out; omega
                                      case rel => exact ⟨(true), (wrap64 (x64_2 + 1)), (by first | rfl | (simp; done) | (simp [*]; done)), (by first | rfl | (simp; done) | (simp [*]; done)), H', ⟨by have := HK1.out; have := HK2.out; omega⟩, ⟨by (with_reducible repeat (first | apply Kd.N_alloc | apply Kd.N_drewN | apply Kd.N_drew)); exact Kd.N_mono (Kd.N_far (p := ⟨gb197, 2, none⟩) (Kd.N_far (p := ⟨gb197, 1, none⟩) (Kd.N_far (p := ⟨gb197, 0, none⟩) (Kd.N_mono HO_7.out (fun k_ hk => (⟨hk, hk.2⟩ : _ ∧ k_ ≠ gb197))) (fun _ hk => hk.2) (.bool ((rd_T47 t184 x64_2).f0))) (fun _ hk => hk.2) (.slice A196_1 ((rd_T47 t184 x64_2).f1).length c196_1)) (fun _ hk => hk.2) (.slice A196_2 ((rd_T47 t184 x64_2).f2).length c196_2)) (fun _ hk => ⟨hk.1.1.1, ⟨hk.1.1.2.1, ⟨hk.1.1.2.2.1, hk.1.1.2.2.2⟩⟩⟩)⟩, ⟨by (with_reducible repeat (first | apply Kd.R_alloc | apply Kd.R_drewN | apply Kd.R_drew)); exact Kd.R_mono (Kd.R_far (p := ⟨gb197, 2, none⟩) (Kd.R_far (p := ⟨gb197, 1, none⟩) (Kd.R_far (p := ⟨gb197, 0, none⟩) (Kd.R_types HO_9.out BK197.out (by decide)) (fun _ hk => hk.2) (.bool ((rd_T47 t184 x64_2).f0))) (fun _ hk => hk.2) (.slice A196_1 ((rd_T47 t184 x64_2).f1).length c196_1)) (fun _ hk => hk.2) (.slice A196_2 ((rd_T47 t184 x64_2).f2).length c196_2)) (fun _ hk => ⟨hk.1.1, hk.1.2⟩)⟩, ⟨by (with_reducible repeat (first | apply Kd.R_alloc | apply Kd.R_drewN | apply Kd.R_drew)); exact Kd.R_mono (Kd.R_far (p := ⟨gb197, 2, none⟩) (Kd.R_far (p := ⟨gb197, 1, none⟩) (Kd.R_far (p := ⟨gb197, 0, none⟩) (Kd.R_types HO_39.out BK197.out (by decide)) (fun _ hk => hk.2) (.bool ((rd_T47 t184 x64_2).f0))) (fun _ hk => hk.2) (.slice A196_1 ((rd_T47 t184 x64_2).f1).length c196_1)) (fun _ hk => hk.2) (.slice A196_2 ((rd_T47 t184 x64_2).f2).length c196_2)) (fun _ hk => ⟨hk.1.1, hk.1.2⟩)⟩, ⟨by (with_reducible repeat (first | apply Kd.N_alloc | apply Kd.N_drewN | apply Kd.N_drew)); exact Kd.N_mono (Kd.N_far (p := ⟨gb197, 2, none⟩) (Kd.N_far (p := ⟨gb197, 1, none⟩) (Kd.N_far (p := ⟨gb197, 0, none⟩) (Kd.N_mono HO_62.out (fun k_ hk => (⟨hk, hk.2⟩ : _ ∧ k_ ≠ gb197))) (fun _ hk => hk.2) (.bool ((rd_T47 t184 x64_2).f0))) (fun _ hk => hk.2) (.slice A196_1 ((rd_T47 t184 x64_2).f1).length c196_1)) (fun _ hk => hk.2) (.slice A196_2 ((rd_T47 t184 x64_2).f2).length c196_2)) (fun _ hk => ⟨hk.1.1.1, ⟨hk.1.1.2.1, ⟨hk.1.1.2.2.1, hk.1.1.2.2.2⟩⟩⟩)⟩, ⟨by (with_reducible repeat (first | refine blk_drewN ?_ _ | refine blk_drew ?_ | refine blk_alloc ?_ _)); refine blk_far ?_ NB182_197.out _; (with_reducible repeat (first | refine blk_drewN ?_ _ | refine blk_drew ?_ | refine blk_alloc ?_ _)); refine blk_far ?_ NB182_197.out _; (with_reducible repeat (first | refine blk_drewN ?_ _ | refine blk_drew ?_ | refine blk_alloc ?_ _)); refine blk_far ?_ NB182_197.out _; (with_reducible repeat (first | refine blk_drewN ?_ _ | refine blk_drew ?_ | refine blk_alloc ?_ _)); exact BK182.out⟩, ⟨by (with_reducible repeat (first | refine blk_drewN ?_ _ | refine blk_drew ?_ | refine blk_alloc ?_ _)); refine blk_far ?_ NB192_197.out _; (with_reducible repeat (first | refine blk_drewN ?_ _ | refine blk_drew ?_ | refine blk_alloc ?_ _)); refine blk_far ?_ NB192_197.out _; (with_reducible repeat (first | refine blk_drewN ?_ _ | refine blk_drew ?_ | refine blk_alloc ?_ _)); refine blk_far ?_ NB192_197.out _; (with_reducible repeat (first | refine blk_drewN ?_ _ | refine blk_drew ?_ | refine blk_alloc ?_ _)); exact BK192.out⟩, ⟨by repeat (first | (with_reducible first | exact HB.out | apply below_alloc | apply pw_below_drewN | apply below_drew1 | refine below_set ?_ GE182.out | refine below_set ?_ GE192.out | refine below_set ?_ GE197.out) | exact HB.out)⟩⟩
                                    · replace c40 := Bool.eq_false_iff.mpr c40
                                      subst c40
                                      have H1 : ((kissgateref17_Has.f k2 ((rd_T47 t184 x64_2).f0) ((rd_T47 t184 x64_2).f1) ((rd_T47 t184 x64_2).f2) ((rd_T38 t188 x41_1).f0) ((rd_T38 t188 x41_1).f1)).bind fun t198 => (kissgatelaw17_SpreadAll.l1 k2 l0 l1 t184 t188 t198 t188 (t188.length : Int) x41_1 t184 (t184.length : Int) (wrap64 (x64_2 + 1)) a2_0 a2_1 ((rd_T38 t188 x41_1).f0) ((rd_T38 t188 x41_1).f1))) = some r := by rw [if_neg (show ¬ (false = true) by decide)] at H; exact H
                                      clear H
                                      have H := H1
                                      clear H1
                                      replace H := Option.bind_eq_some_iff.mp H
                                      obtain ⟨t198, A450, H⟩ := H
                                      replace H : (kissgatelaw17_SpreadAll.l1 k2 l0 l1 t184 t188 t198 t188 (t188.length : Int) x41_1 t184 (t184.length : Int) (wrap64 (x64_2 + 1)) a2_0 a2_1 ((rd_T38 t188 x41_1).f0) ((rd_T38 t188 x41_1).f1)) = some r := H
                                      have A45 := Aside0.mk A450
                                      clear A450
                                      have H' := Aside0.mk H
                                      clear H
                                      have p196 : 0 ≤ (x64_2 : Int) := of_decide_eq_true (by first | (with_reducible assumption) | assumption)
                                      have q196 : x64_2 < (t184.length : Int) := of_decide_eq_true (by first | (with_reducible assumption) | assumption)
                                      obtain ⟨ad196, A196_1, c196_1, A196_2, c196_2, e196, hx196_0, hx196_1, hx196_2, hl196_1, hi196_1, hl196_2, hi196_2⟩ := at_T47 (Kd.N_reads' HO_62.out).2.2 x64_2 p196 q196
                                      cases e196
                                      obtain ⟨ce196, hce196, hMe196, hcc196⟩ := Kd.N_get HO_62.out z47 x64_2 p196 (by first | exact q196 | exact of_decide_eq_true (by first | (with_reducible assumption) | assumption) | (have e_ := (Kd.N_reads' HO_62.out).1; omega))
                                      obtain ⟨ua196_1, uc196_1, ua196_2, uc196_2, rfl, ul196_1, ge196_1, ul196_2, ge196_2⟩ := k47_openF hMe196
                                      have hv196_1 := hcc196 1 _ rfl
                                      rw [add_field _ _ 1 (by omega)] at hv196_1
                                      replace hv196_1 := Option.some.inj (hv196_1.symm.trans hx196_1)
                                      injection hv196_1 with hva_ hvn_ hvc_
                                      rw [hva_] at ge196_1
                                      rw [hvc_] at ul196_1
                                      have HL196_1 := Aside0.mk (show Kd.V k38 38 _ w.heap.size _ _ ((rd_T47 t184 x64_2).f1) from Kd.V_mk ul196_1 ge196_1)
                                      clear hva_ hvn_ hvc_ ge196_1 ul196_1
                                      have hv196_2 := hcc196 2 _ rfl
                                      rw [add_field _ _ 2 (by omega)] at hv196_2
                                      replace hv196_2 := Option.some.inj (hv196_2.symm.trans hx196_2)
                                      injection hv196_2 with hva_ hvn_ hvc_
                                      rw [hva_] at ge196_2
                                      rw [hvc_] at ul196_2
                                      have HL196_2 := Aside0.mk (show Kd.V (Kd.int .i64) 3 _ w.heap.size _ _ ((rd_T47 t184 x64_2).f2) from Kd.V_mk ul196_2 ge196_2)
                                      clear hva_ hvn_ hvc_ ge196_2 ul196_2
                                      clear hcc196 hce196
                                      have HR196_1 := Aside0.mk hi196_1
                                      have HC196_1 := Aside0.mk hl196_1
                                      clear hi196_1 hl196_1
                                      have HR196_2 := Aside0.mk hi196_2
                                      have HC196_2 := Aside0.mk hl196_2
                                      clear hi196_2 hl196_2
                                      replace p196 := eq_true p196
                                      replace q196 := eq_true q196
                                      go_wp2_with (first | ((with_reducible refine gate_dst (N := 14) rfl ?_); (try (refine gate_guard (by rfl) ?_; dsimp only)); refine box_event ?hg (N := 14) ?hd (cs := #[.bool false, .slice none 0 0, .slice none 0 0]) (t := 47) ?hr ?_; (case hd => rfl); (case hg => rfl); (case hr => first | (go_simp; done) | (go_simp; rfl)); intro gb197 hg w46 hbox hb; have n0_ := Aside0.mk (Kd.N_below (Kd.N_elderB (by (with_reducible repeat (first | apply Kd.N_alloc | apply Kd.N_drewN | apply Kd.N_drew)); exact HO_7.out) gb197 (Nat.le_of_eq hg.symm)) hb); have n1_ := Aside0.mk (Kd.R_below (by (with_reducible repeat (first | apply Kd.R_alloc | apply Kd.R_drewN | apply Kd.R_drew)); exact HO_9.out) hb); have n2_ := Aside0.mk (Kd.R_below (by (with_reducible repeat (first | apply Kd.R_alloc | apply Kd.R_drewN | apply Kd.R_drew)); exact HO_39.out) hb); have n3_ := Aside0.mk (Kd.N_below (Kd.N_elderB (by (with_reducible repeat (first | apply Kd.N_alloc | apply Kd.N_drewN | apply Kd.N_drew)); exact HO_62.out) gb197 (Nat.le_of_eq hg.symm)) hb); have n4_ := Aside0.mk (Kd.V_below (Kd.V_elderB (by (with_reducible repeat (first | apply Kd.V_alloc | apply Kd.V_drewN | apply Kd.V_drew)); exact HL196_1.out) gb197 (Nat.le_of_eq hg.symm)) hb); have n5_ := Aside0.mk (Kd.V_below (Kd.V_elderB (by (with_reducible repeat (first | apply Kd.V_alloc | apply Kd.V_drewN | apply Kd.V_drew)); exact HL196_2.out) gb197 (Nat.le_of_eq hg.symm)) hb); have n6_ := Aside0.mk (blk_below (g := gb182) (o := .cells #[.int .i64 a2_0, .int .i64 a2_1] 38 (0, 0)) (by (with_reducible repeat (first | refine blk_drewN ?_ _ | refine blk_drew ?_ | refine blk_alloc ?_ _)); exact BK182.out) hb); have n7_ := Aside0.mk (blk_below (g := gb192) (o := .cells #[.int .i64 ((rd_T38 t188 x41_1).f0), .int .i64 ((rd_T38 t188 x41_1).f1)] 38 (0, 0)) (by (with_reducible repeat (first | refine blk_drewN ?_ _ | refine blk_drew ?_ | refine blk_alloc ?_ _)); exact BK192.out) hb); have n8_ := Aside0.mk (Kd.C_below (by repeat (first | (with_reducible exact HR196_1.out) | (with_reducible refine Kd.C_alloc ?_ _) | (with_reducible refine Kd.C_drewN ?_ _) | (with_reducible refine Kd.C_drew ?_) | exact HR196_1.out)) hb); have n9_ := Aside0.mk (Kd.C_below (by repeat (first | (with_reducible exact HR196_2.out) | (with_reducible refine Kd.C_alloc ?_ _) | (with_reducible refine Kd.C_drewN ?_ _) | (with_reducible refine Kd.C_drew ?_) | exact HR196_2.out)) hb); have n10_ := Aside0.mk (below_step (by repeat (first | (with_reducible first | exact HB.out | apply below_alloc | apply pw_below_drewN | apply below_drew1 | refine below_set ?_ GE182.out | refine below_set ?_ GE192.out) | exact HB.out)) hb); have n11_ := Aside0.mk (hbox); have n12_ := Aside0.mk ((by rw [hg]; exact (below_size (by repeat (first | (with_reducible first | exact HB.out | apply below_alloc | apply pw_below_drewN | apply below_drew1 | refine below_set ?_ GE182.out | refine below_set ?_ GE192.out) | exact HB.out))) : w.heap.size ≤ gb197)); have n13_ := Aside0.mk ((by rw [hg]; exact (below_size (by repeat (first | (with_reducible first | exact HB.out | apply below_alloc | apply pw_below_drewN | apply below_drew1 | refine below_set ?_ GE182.out | refine below_set ?_ GE192.out) | exact HB.out))) : w.heap.size ≤ gb197)); have n14_ := Aside0.mk ((by rw [hg]; exact Nat.ne_of_lt (blk_lt (g := gb182) (o := .cells #[.int .i64 a2_0, .int .i64 a2_1] 38 (0, 0)) (by (with_reducible repeat (first | refine blk_drewN ?_ _ | refine blk_drew ?_ | refine blk_alloc ?_ _)); exact BK182.out)) : gb182 ≠ gb197)); have n15_ := Aside0.mk ((by rw [hg]; exact Nat.ne_of_gt (blk_lt (g := gb182) (o := .cells #[.int .i64 a2_0, .int .i64 a2_1] 38 (0, 0)) (by (with_reducible repeat (first | refine blk_drewN ?_ _ | refine blk_drew ?_ | refine blk_alloc ?_ _)); exact BK182.out)) : gb197 ≠ gb182)); have n16_ := Aside0.mk ((by rw [hg]; exact Nat.ne_of_lt (blk_lt (g := gb192) (o := .cells #[.int .i64 ((rd_T38 t188 x41_1).f0), .int .i64 ((rd_T38 t188 x41_1).f1)] 38 (0, 0)) (by (with_reducible repeat (first | refine blk_drewN ?_ _ | refine blk_drew ?_ | refine blk_alloc ?_ _)); exact BK192.out)) : gb192 ≠ gb197)); have n17_ := Aside0.mk ((by rw [hg]; exact Nat.ne_of_gt (blk_lt (g := gb192) (o := .cells #[.int .i64 ((rd_T38 t188 x41_1).f0), .int .i64 ((rd_T38 t188 x41_1).f1)] 38 (0, 0)) (by (with_reducible repeat (first | refine blk_drewN ?_ _ | refine blk_drew ?_ | refine blk_alloc ?_ _)); exact BK192.out)) : gb197 ≠ gb192)); clear HO_7; clear HO_9; clear HO_39; clear HO_62; clear HL196_1; clear HL196_2; clear BK182; clear BK192; clear HR196_1; clear HR196_2; clear HB; have HO_7 := n0_; have HO_9 := n1_; have HO_39 := n2_; have HO_62 := n3_; have HL196_1 := n4_; have HL196_2 := n5_; have BK182 := n6_; have BK192 := n7_; have HR196_1 := n8_; have HR196_2 := n9_; have HB := n10_; have BK197 := n11_; have GW197 := n12_; have GE197 := n13_; have NB182_197 := n14_; have NB197_182 := n15_; have NB192_197 := n16_; have NB197_192 := n17_; clear n0_ n1_ n2_ n3_ n4_ n5_ n6_ n7_ n8_ n9_ n10_ n11_ n12_ n13_ n14_ n15_ n16_ n17_; clear hb hbox hg; have hnb47 := NB197_182.out; have hnc47 := NB182_197.out; have hnb48 := NB197_192.out; have hnc48 := NB192_197.out; have hcz49_0 : w46.cell? ⟨gb197, 0, none⟩ = some (.bool false) := (blk_cell BK197.out 0).trans rfl; have hcz49_1 : w46.cell? ⟨gb197, 1, none⟩ = some (.slice none 0 0) := (blk_cell BK197.out 1).trans rfl; have hcz49_2 : w46.cell? ⟨gb197, 2, none⟩ = some (.slice none 0 0) := (blk_cell BK197.out 2).trans rfl; have hfz49_0 := blk_frozen BK197.out 0; have hfz49_1 := blk_frozen BK197.out 1; have hfz49_2 := blk_frozen BK197.out 2; have hnb50 := NB192_182.out; have hnc50 := NB182_192.out; have hcz51_0 : w46.cell? ⟨gb192, 0, none⟩ = some (.int .i64 ((rd_T38 t188 x41_1).f0)) := (blk_cell BK192.out 0).trans rfl; have hcz51_1 : w46.cell? ⟨gb192, 1, none⟩ = some (.int .i64 ((rd_T38 t188 x41_1).f1)) := (blk_cell BK192.out 1).trans rfl; have hfz51_0 := blk_frozen BK192.out 0; have hfz51_1 := blk_frozen BK192.out 1) | (go_at_call 35; (with_reducible refine (kissgateref17_Has.calls k2 ((rd_T47 t184 x64_2).f0) _ _ ((rd_T47 t184 x64_2).f1) _ _ ((rd_T47 t184 x64_2).f2) ((rd_T38 t188 x41_1).f0) ((rd_T38 t188 x41_1).f1) t198 _ ?side1 ?side2 ?side3 ?side4 A45.out).mono ?_); (case side1 => repeat (first | exact ((Kd.V_reads' (by (with_reducible repeat (first | apply Kd.V_alloc | apply Kd.V_drewN | apply Kd.V_drew)); exact (Kd.V_mono (Kd.V_far (p := ⟨gb197, 2, none⟩) (Kd.V_far (p := ⟨gb197, 1, none⟩) (Kd.V_far (p := ⟨gb197, 0, none⟩) (Kd.V_mono HL196_1.out (fun k_ hk => (⟨hk, hk.2⟩ : _ ∧ k_ ≠ gb197))) (fun _ hk => hk.2) (.bool ((rd_T47 t184 x64_2).f0))) (fun _ hk => hk.2) (.slice A196_1 ((rd_T47 t184 x64_2).f1).length c196_1)) (fun _ hk => hk.2) (.slice A196_2 ((rd_T47 t184 x64_2).f2).length c196_2)) (fun _ h_ => h_.1)))).2.2) | (with_reducible refine Kd.C_alloc ?_ _) | (with_reducible refine Kd.C_drewN ?_ _) | (with_reducible refine Kd.C_drew ?_))); (case side2 => exact HC196_1.out); (case side3 => repeat (first | exact ((Kd.V_reads' (by (with_reducible repeat (first | apply Kd.V_alloc | apply Kd.V_drewN | apply Kd.V_drew)); exact (Kd.V_mono (Kd.V_far (p := ⟨gb197, 2, none⟩) (Kd.V_far (p := ⟨gb197, 1, none⟩) (Kd.V_far (p := ⟨gb197, 0, none⟩) (Kd.V_mono HL196_2.out (fun k_ hk => (⟨hk, hk.2⟩ : _ ∧ k_ ≠ gb197))) (fun _ hk => hk.2) (.bool ((rd_T47 t184 x64_2).f0))) (fun _ hk => hk.2) (.slice A196_1 ((rd_T47 t184 x64_2).f1).length c196_1)) (fun _ hk => hk.2) (.slice A196_2 ((rd_T47 t184 x64_2).f2).length c196_2)) (fun _ h_ => h_.1)))).2.2) | (with_reducible refine Kd.C_alloc ?_ _) | (with_reducible refine Kd.C_drewN ?_ _) | (with_reducible refine Kd.C_drew ?_))); (case side4 => exact HC196_2.out); rintro e w52 ⟨rfl, hb⟩; have n0_ := Aside0.mk (Kd.N_below (by (with_reducible repeat (first | apply Kd.N_alloc | apply Kd.N_drewN | apply Kd.N_drew)); exact (Kd.N_mono (Kd.N_far (p := ⟨gb197, 2, none⟩) (Kd.N_far (p := ⟨gb197, 1, none⟩) (Kd.N_far (p := ⟨gb197, 0, none⟩) (Kd.N_mono HO_7.out (fun k_ hk => (⟨hk, hk.2⟩ : _ ∧ k_ ≠ gb197))) (fun _ hk => hk.2) (.bool ((rd_T47 t184 x64_2).f0))) (fun _ hk => hk.2) (.slice A196_1 ((rd_T47 t184 x64_2).f1).length c196_1)) (fun _ hk => hk.2) (.slice A196_2 ((rd_T47 t184 x64_2).f2).length c196_2)) (fun _ h_ => h_.1))) hb); have n1_ := Aside0.mk (Kd.R_below (by (with_reducible repeat (first | apply Kd.R_alloc | apply Kd.R_drewN | apply Kd.R_drew)); exact (Kd.R_mono (Kd.R_far (p := ⟨gb197, 2, none⟩) (Kd.R_far (p := ⟨gb197, 1, none⟩) (Kd.R_far (p := ⟨gb197, 0, none⟩) (Kd.R_types HO_9.out BK197.out (by decide)) (fun _ hk => hk.2) (.bool ((rd_T47 t184 x64_2).f0))) (fun _ hk => hk.2) (.slice A196_1 ((rd_T47 t184 x64_2).f1).length c196_1)) (fun _ hk => hk.2) (.slice A196_2 ((rd_T47 t184 x64_2).f2).length c196_2)) (fun _ h_ => h_.1))) hb); have n2_ := Aside0.mk (Kd.R_below (by (with_reducible repeat (first | apply Kd.R_alloc | apply Kd.R_drewN | apply Kd.R_drew)); exact (Kd.R_mono (Kd.R_far (p := ⟨gb197, 2, none⟩) (Kd.R_far (p := ⟨gb197, 1, none⟩) (Kd.R_far (p := ⟨gb197, 0, none⟩) (Kd.R_types HO_39.out BK197.out (by decide)) (fun _ hk => hk.2) (.bool ((rd_T47 t184 x64_2).f0))) (fun _ hk => hk.2) (.slice A196_1 ((rd_T47 t184 x64_2).f1).length c196_1)) (fun _ hk => hk.2) (.slice A196_2 ((rd_T47 t184 x64_2).f2).length c196_2)) (fun _ h_ => h_.1))) hb); have n3_ := Aside0.mk (Kd.N_below (by (with_reducible repeat (first | apply Kd.N_alloc | apply Kd.N_drewN | apply Kd.N_drew)); exact (Kd.N_mono (Kd.N_far (p := ⟨gb197, 2, none⟩) (Kd.N_far (p := ⟨gb197, 1, none⟩) (Kd.N_far (p := ⟨gb197, 0, none⟩) (Kd.N_mono HO_62.out (fun k_ hk => (⟨hk, hk.2⟩ : _ ∧ k_ ≠ gb197))) (fun _ hk => hk.2) (.bool ((rd_T47 t184 x64_2).f0))) (fun _ hk => hk.2) (.slice A196_1 ((rd_T47 t184 x64_2).f1).length c196_1)) (fun _ hk => hk.2) (.slice A196_2 ((rd_T47 t184 x64_2).f2).length c196_2)) (fun _ h_ => h_.1))) hb); have n4_ := Aside0.mk (Kd.V_below (by (with_reducible repeat (first | apply Kd.V_alloc | apply Kd.V_drewN | apply Kd.V_drew)); exact (Kd.V_mono (Kd.V_far (p := ⟨gb197, 2, none⟩) (Kd.V_far (p := ⟨gb197, 1, none⟩) (Kd.V_far (p := ⟨gb197, 0, none⟩) (Kd.V_mono HL196_1.out (fun k_ hk => (⟨hk, hk.2⟩ : _ ∧ k_ ≠ gb197))) (fun _ hk => hk.2) (.bool ((rd_T47 t184 x64_2).f0))) (fun _ hk => hk.2) (.slice A196_1 ((rd_T47 t184 x64_2).f1).length c196_1)) (fun _ hk => hk.2) (.slice A196_2 ((rd_T47 t184 x64_2).f2).length c196_2)) (fun _ h_ => h_.1))) hb); have n5_ := Aside0.mk (Kd.V_below (by (with_reducible repeat (first | apply Kd.V_alloc | apply Kd.V_drewN | apply Kd.V_drew)); exact (Kd.V_mono (Kd.V_far (p := ⟨gb197, 2, none⟩) (Kd.V_far (p := ⟨gb197, 1, none⟩) (Kd.V_far (p := ⟨gb197, 0, none⟩) (Kd.V_mono HL196_2.out (fun k_ hk => (⟨hk, hk.2⟩ : _ ∧ k_ ≠ gb197))) (fun _ hk => hk.2) (.bool ((rd_T47 t184 x64_2).f0))) (fun _ hk => hk.2) (.slice A196_1 ((rd_T47 t184 x64_2).f1).length c196_1)) (fun _ hk => hk.2) (.slice A196_2 ((rd_T47 t184 x64_2).f2).length c196_2)) (fun _ h_ => h_.1))) hb); have n6_ := Aside0.mk (blk_below (g := gb182) (o := .cells #[.int .i64 a2_0, .int .i64 a2_1] 38 (0, 0)) (by (with_reducible repeat (first | refine blk_drewN ?_ _ | refine blk_drew ?_ | refine blk_alloc ?_ _)); refine blk_far ?_ NB182_197.out _; (with_reducible repeat (first | refine blk_drewN ?_ _ | refine blk_drew ?_ | refine blk_alloc ?_ _)); refine blk_far ?_ NB182_197.out _; (with_reducible repeat (first | refine blk_drewN ?_ _ | refine blk_drew ?_ | refine blk_alloc ?_ _)); refine blk_far ?_ NB182_197.out _; (with_reducible repeat (first | refine blk_drewN ?_ _ | refine blk_drew ?_ | refine blk_alloc ?_ _)); exact BK182.out) hb); have n7_ := Aside0.mk (blk_below (g := gb192) (o := .cells #[.int .i64 ((rd_T38 t188 x41_1).f0), .int .i64 ((rd_T38 t188 x41_1).f1)] 38 (0, 0)) (by (with_reducible repeat (first | refine blk_drewN ?_ _ | refine blk_drew ?_ | refine blk_alloc ?_ _)); refine blk_far ?_ NB192_197.out _; (with_reducible repeat (first | refine blk_drewN ?_ _ | refine blk_drew ?_ | refine blk_alloc ?_ _)); refine blk_far ?_ NB192_197.out _; (with_reducible repeat (first | refine blk_drewN ?_ _ | refine blk_drew ?_ | refine blk_alloc ?_ _)); refine blk_far ?_ NB192_197.out _; (with_reducible repeat (first | refine blk_drewN ?_ _ | refine blk_drew ?_ | refine blk_alloc ?_ _)); exact BK192.out) hb); have n8_ := Aside0.mk (Kd.C_below ((Kd.V_reads' (by (with_reducible repeat (first | apply Kd.V_alloc | apply Kd.V_drewN | apply Kd.V_drew)); exact (Kd.V_mono (Kd.V_far (p := ⟨gb197, 2, none⟩) (Kd.V_far (p := ⟨gb197, 1, none⟩) (Kd.V_far (p := ⟨gb197, 0, none⟩) (Kd.V_mono HL196_1.out (fun k_ hk => (⟨hk, hk.2⟩ : _ ∧ k_ ≠ gb197))) (fun _ hk => hk.2) (.bool ((rd_T47 t184 x64_2).f0))) (fun _ hk => hk.2) (.slice A196_1 ((rd_T47 t184 x64_2).f1).length c196_1)) (fun _ hk => hk.2) (.slice A196_2 ((rd_T47 t184 x64_2).f2).length c196_2)) (fun _ h_ => h_.1)))).2.2) hb); have n9_ := Aside0.mk (Kd.C_below ((Kd.V_reads' (by (with_reducible repeat (first | apply Kd.V_alloc | apply Kd.V_drewN | apply Kd.V_drew)); exact (Kd.V_mono (Kd.V_far (p := ⟨gb197, 2, none⟩) (Kd.V_far (p := ⟨gb197, 1, none⟩) (Kd.V_far (p := ⟨gb197, 0, none⟩) (Kd.V_mono HL196_2.out (fun k_ hk => (⟨hk, hk.2⟩ : _ ∧ k_ ≠ gb197))) (fun _ hk => hk.2) (.bool ((rd_T47 t184 x64_2).f0))) (fun _ hk => hk.2) (.slice A196_1 ((rd_T47 t184 x64_2).f1).length c196_1)) (fun _ hk => hk.2) (.slice A196_2 ((rd_T47 t184 x64_2).f2).length c196_2)) (fun _ h_ => h_.1)))).2.2) hb); have n10_ := Aside0.mk (blk_below (g := gb197) (o := .cells #[.bool ((rd_T47 t184 x64_2).f0), .slice A196_1 ((rd_T47 t184 x64_2).f1).length c196_1, .slice A196_2 ((rd_T47 t184 x64_2).f2).length c196_2] 47 (0, 0)) (by (with_reducible repeat (first | refine blk_drewN ?_ _ | refine blk_drew ?_ | refine blk_alloc ?_ _)); refine blk_put (cs := #[.bool ((rd_T47 t184 x64_2).f0), .slice A196_1 ((rd_T47 t184 x64_2).f1).length c196_1, .slice none 0 0]) ?_ 2 _ rfl; (with_reducible repeat (first | refine blk_drewN ?_ _ | refine blk_drew ?_ | refine blk_alloc ?_ _)); refine blk_put (cs := #[.bool ((rd_T47 t184 x64_2).f0), .slice none 0 0, .slice none 0 0]) ?_ 1 _ rfl; (with_reducible repeat (first | refine blk_drewN ?_ _ | refine blk_drew ?_ | refine blk_alloc ?_ _)); refine blk_put (cs := #[.bool false, .slice none 0 0, .slice none 0 0]) ?_ 0 _ rfl; (with_reducible repeat (first | refine blk_drewN ?_ _ | refine blk_drew ?_ | refine blk_alloc ?_ _)); exact BK197.out) hb); have n11_ := Aside0.mk (below_step (by repeat (first | (with_reducible first | exact HB.out | apply below_alloc | apply pw_below_drewN | apply below_drew1 | refine below_set ?_ GE182.out | refine below_set ?_ GE192.out | refine below_set ?_ GE197.out) | exact HB.out)) hb); clear HO_7; clear HO_9; clear HO_39; clear HO_62; clear HL196_1; clear HL196_2; clear BK182; clear BK192; clear HR196_1; clear HR196_2; clear BK197; clear HB; have HO_7 := n0_; have HO_9 := n1_; have HO_39 := n2_; have HO_62 := n3_; have HL196_1 := n4_; have HL196_2 := n5_; have BK182 := n6_; have BK192 := n7_; have HR196_1 := n8_; have HR196_2 := n9_; have BK197 := n10_; have HB := n11_; clear n0_ n1_ n2_ n3_ n4_ n5_ n6_ n7_ n8_ n9_ n10_ n11_; (try clear hb); (try clear hb2); (try clear hk); (try clear hi)))
                                      go_roundg k2
                                      case measure => have := HK1.out; have := HK2.out; omega
                                      case rel => exact ⟨(t198), (wrap64 (x64_2 + 1)), (by first | rfl | (simp; done) | (simp [*]; done)), (by first | rfl | (simp; done) | (simp [*]; done)), H', ⟨by have := HK1.out; have := HK2.out; omega⟩, ⟨by (with_reducible repeat (first | apply Kd.N_alloc | apply Kd.N_drewN | apply Kd.N_drew)); exact Kd.N_mono HO_7.out (fun _ hk => ⟨hk.1.1, ⟨hk.1.2.1, ⟨hk.1.2.2.1, hk.1.2.2.2⟩⟩⟩)⟩, ⟨by (with_reducible repeat (first | apply Kd.R_alloc | apply Kd.R_drewN | apply Kd.R_drew)); exact HO_9.out⟩, ⟨by (with_reducible repeat (first | apply Kd.R_alloc | apply Kd.R_drewN | apply Kd.R_drew)); exact HO_39.out⟩, ⟨by (with_reducible repeat (first | apply Kd.N_alloc | apply Kd.N_drewN | apply Kd.N_drew)); exact Kd.N_mono HO_62.out (fun _ hk => ⟨hk.1.1, ⟨hk.1.2.1, ⟨hk.1.2.2.1, hk.1.2.2.2⟩⟩⟩)⟩, ⟨by (with_reducible repeat (first | refine blk_drewN ?_ _ | refine blk_drew ?_ | refine blk_alloc ?_ _)); exact BK182.out⟩, ⟨by (with_reducible repeat (first | refine blk_drewN ?_ _ | refine blk_drew ?_ | refine blk_alloc ?_ _)); exact BK192.out⟩, ⟨by repeat (first | (with_reducible first | exact HB.out | apply below_alloc | apply pw_below_drewN | apply below_drew1 | refine below_set ?_ GE182.out | refine below_set ?_ GE192.out | refine below_set ?_ GE197.out) | exact HB.out)⟩⟩
                                  · rw [if_neg c39] at H
                                    exact absurd H (by simp)
                                · rw [if_neg c38] at H
                                  exact absurd H (by simp)
                              · rw [if_neg c37] at H
                                have c37b0 : decide (x64_2 < (t184.length : Int)) = false := decide_eq_false c37
                                clear c37
                                by_cases c53 : x12_2 = true
                                · subst c53
                                  have H1 : (kissgatelaw17_SpreadAll.l0 k2 l0 l1 t184 t188 t188 (t188.length : Int) (wrap64 (x41_1 + 1)) a2_0 a2_1) = some r := by rw [if_pos rfl] at H; exact H
                                  clear H
                                  have H := H1
                                  clear H1
                                  have H' := Aside0.mk H
                                  clear H
                                  go_wp2
                                  go_roundg k2
                                  case measure => have := HK1.out; have := HK2.out; omega
                                  case rel => exact ⟨(wrap64 (x41_1 + 1)), (by first | rfl | (simp; done) | (simp [*]; done)), H', ⟨by have := HK1.out; have := HK2.out; omega⟩, ⟨by (with_reducible repeat (first | apply Kd.N_alloc | apply Kd.N_drewN | apply Kd.N_drew)); exact Kd.N_mono HO_7.out (fun _ hk => ⟨hk.1, ⟨hk.2.1, hk.2.2.1⟩⟩)⟩, ⟨by (with_reducible repeat (first | apply Kd.R_alloc | apply Kd.R_drewN | apply Kd.R_drew)); exact Kd.R_mono HO_9.out (fun _ hk => hk.1)⟩, ⟨by (with_reducible repeat (first | apply Kd.R_alloc | apply Kd.R_drewN | apply Kd.R_drew)); exact Kd.R_mono HO_39.out (fun _ hk => hk.1)⟩, ⟨by (with_reducible repeat (first | refine blk_drewN ?_ _ | refine blk_drew ?_ | refine blk_alloc ?_ _)); exact BK182.out⟩, ⟨by repeat (first | (with_reducible first | exact HB.out | apply below_alloc | apply pw_below_drewN | apply below_drew1 | refine below_set ?_ GE182.out | refine below_set ?_ GE192.out) | exact HB.out)⟩⟩
                                · replace c53 := Bool.eq_false_iff.mpr c53
                                  subst c53
                                  have H1 : (some false) = some r := by rw [if_neg (show ¬ (false = true) by decide)] at H; exact H
                                  clear H
                                  have H := H1
                                  clear H1
                                  exact absurd (Option.some.inj H) (by rw [HRT.out]; decide)
                        · replace c26 := Bool.eq_false_iff.mpr c26
                          subst c26
                          have H1 : (some false) = some r := by rw [if_neg (show ¬ (false = true) by decide)] at H; exact H
                          clear H
                          have H := H1
                          clear H1
                          exact absurd (Option.some.inj H) (by rw [HRT.out]; decide)
                      · rw [if_neg c24] at H
                        exact absurd H (by simp)
                    · rw [if_neg c23] at H
                      exact absurd H (by simp)
                  · rw [if_neg c21] at H
                    have c21b0 : decide (0 < x41_1) = false := decide_eq_false c21
                    clear c21
                    replace H := Option.bind_eq_some_iff.mp H
                    obtain ⟨t199, A600, H⟩ := H
                    replace H : (kissgatelaw17_SpreadAll.l1 k1 l0 l1 t184 t188 t199 t188 (t188.length : Int) x41_1 t184 (t184.length : Int) 0 a2_0 a2_1 ((rd_T38 t188 x41_1).f0) ((rd_T38 t188 x41_1).f1)) = some r := H
                    have A60 := Aside0.mk A600
                    clear A600
                    have H' := Aside0.mk H
                    clear H
                    have p191 : 0 ≤ (x41_1 : Int) := of_decide_eq_true (by first | (with_reducible assumption) | assumption)
                    have q191 : x41_1 < (t188.length : Int) := of_decide_eq_true (by first | (with_reducible assumption) | assumption)
                    obtain ⟨ad191, e191, hx191_0, hx191_1⟩ := at_T38 (Kd.R_reads' HO_39.out).2.2 x41_1 p191 q191
                    cases e191
                    replace p191 := eq_true p191
                    replace q191 := eq_true q191
                    try go_wp2_with (first | ((with_reducible refine gate_dst (N := 11) rfl ?_); (try (refine gate_guard (by rfl) ?_; dsimp only)); refine box_event ?hg (N := 11) ?hd (cs := #[.int .i64 0, .int .i64 0]) (t := 38) ?hr ?_; (case hd => rfl); (case hg => rfl); (case hr => first | (go_simp; done) | (go_simp; rfl)); intro gb192 hg w61 hbox hb; have n0_ := Aside0.mk (Kd.N_below (Kd.N_elderB (by (with_reducible repeat (first | apply Kd.N_alloc | apply Kd.N_drewN | apply Kd.N_drew)); exact HO_7.out) gb192 (Nat.le_of_eq hg.symm)) hb); have n1_ := Aside0.mk (Kd.R_below (Kd.R_elderB (by (with_reducible repeat (first | apply Kd.R_alloc | apply Kd.R_drewN | apply Kd.R_drew)); exact HO_9.out) gb192 (Nat.le_of_eq hg.symm)) hb); have n2_ := Aside0.mk (Kd.R_below (Kd.R_elderB (by (with_reducible repeat (first | apply Kd.R_alloc | apply Kd.R_drewN | apply Kd.R_drew)); exact HO_39.out) gb192 (Nat.le_of_eq hg.symm)) hb); have n3_ := Aside0.mk (blk_below (g := gb182) (o := .cells #[.int .i64 a2_0, .int .i64 a2_1] 38 (0, 0)) (by (with_reducible repeat (first | refine blk_drewN ?_ _ | refine blk_drew ?_ | refine blk_alloc ?_ _)); exact BK182.out) hb); have n4_ := Aside0.mk (below_step (by repeat (first | (with_reducible first | exact HB.out | apply below_alloc | apply pw_below_drewN | apply below_drew1 | refine below_set ?_ GE182.out) | exact HB.out)) hb); have n5_ := Aside0.mk (hbox); have n6_ := Aside0.mk ((by rw [hg]; exact (below_size (by repeat (first | (with_reducible first | exact HB.out | apply below_alloc | apply pw_below_drewN | apply below_drew1 | refine below_set ?_ GE182.out) | exact HB.out))) : w.heap.size ≤ gb192)); have n7_ := Aside0.mk ((by rw [hg]; exact (below_size (by repeat (first | (with_reducible first | exact HB.out | apply below_alloc | apply pw_below_drewN | apply below_drew1 | refine below_set ?_ GE182.out) | exact HB.out))) : w.heap.size ≤ gb192)); have n8_ := Aside0.mk ((by rw [hg]; exact Nat.ne_of_lt (blk_lt (g := gb182) (o := .cells #[.int .i64 a2_0, .int .i64 a2_1] 38 (0, 0)) (by (with_reducible repeat (first | refine blk_drewN ?_ _ | refine blk_drew ?_ | refine blk_alloc ?_ _)); exact BK182.out)) : gb182 ≠ gb192)); have n9_ := Aside0.mk ((by rw [hg]; exact Nat.ne_of_gt (blk_lt (g := gb182) (o := .cells #[.int .i64 a2_0, .int .i64 a2_1] 38 (0, 0)) (by (with_reducible repeat (first | refine blk_drewN ?_ _ | refine blk_drew ?_ | refine blk_alloc ?_ _)); exact BK182.out)) : gb192 ≠ gb182)); clear HO_7; clear HO_9; clear HO_39; clear BK182; clear HB; have HO_7 := n0_; have HO_9 := n1_; have HO_39 := n2_; have BK182 := n3_; have HB := n4_; have BK192 := n5_; have GW192 := n6_; have GE192 := n7_; have NB182_192 := n8_; have NB192_182 := n9_; clear n0_ n1_ n2_ n3_ n4_ n5_ n6_ n7_ n8_ n9_; clear hb hbox hg; have hnb62 := NB192_182.out; have hnc62 := NB182_192.out; have hcz63_0 : w61.cell? ⟨gb192, 0, none⟩ = some (.int .i64 0) := (blk_cell BK192.out 0).trans rfl; have hcz63_1 : w61.cell? ⟨gb192, 1, none⟩ = some (.int .i64 0) := (blk_cell BK192.out 1).trans rfl; have hfz63_0 := blk_frozen BK192.out 0; have hfz63_1 := blk_frozen BK192.out 1))
                    have n0_ : Aside0 (Kd.N k47 47 ((w61.setCell ⟨gb192, 0, none⟩ (.int .i64 ((rd_T38 t188 x41_1).f0))).setCell ⟨gb192, 1, none⟩ (.int .i64 ((rd_T38 t188 x41_1).f1))) w.heap.size (fun k_ => some k_ ≠ (.slice (some ad191) t188.length co17 : Value).ownBlock ∧ some k_ ≠ (.slice (some ad191) t188.length co17 : Value).ownBlock ∧ k_ ≠ gb182 ∧ k_ ≠ gb192) v185 t184) := ⟨by (with_reducible repeat (first | apply Kd.N_alloc | apply Kd.N_drewN | apply Kd.N_drew)); exact Kd.N_mono (Kd.N_far (p := ⟨gb192, 1, none⟩) (Kd.N_far (p := ⟨gb192, 0, none⟩) (Kd.N_mono HO_7.out (fun k_ hk => (⟨hk, hk.2⟩ : _ ∧ k_ ≠ gb192))) (fun _ hk => hk.2) (.int .i64 ((rd_T38 t188 x41_1).f0))) (fun _ hk => hk.2) (.int .i64 ((rd_T38 t188 x41_1).f1))) (fun _ hk => ⟨hk.1.1.1, ⟨hk.1.1.2.1, ⟨hk.1.1.2.2, hk.1.2⟩⟩⟩)⟩
                    have n1_ : Aside0 (Kd.R k38 38 ((w61.setCell ⟨gb192, 0, none⟩ (.int .i64 ((rd_T38 t188 x41_1).f0))).setCell ⟨gb192, 1, none⟩ (.int .i64 ((rd_T38 t188 x41_1).f1))) w.heap.size (fun k_ => k_ ≠ gb182 ∧ k_ ≠ gb192) (.slice (some ad191) t188.length co17) t188) := ⟨by (with_reducible repeat (first | apply Kd.R_alloc | apply Kd.R_drewN | apply Kd.R_drew)); exact Kd.R_mono (Kd.R_far (p := ⟨gb192, 1, none⟩) (Kd.R_far (p := ⟨gb192, 0, none⟩) (Kd.R_mono HO_9.out (fun k_ hk => (⟨hk, hk.2⟩ : _ ∧ k_ ≠ gb192))) (fun _ hk => hk.2) (.int .i64 ((rd_T38 t188 x41_1).f0))) (fun _ hk => hk.2) (.int .i64 ((rd_T38 t188 x41_1).f1))) (fun _ hk => ⟨hk.1.1, hk.1.2⟩)⟩
                    have n2_ : Aside0 (Kd.R k38 38 ((w61.setCell ⟨gb192, 0, none⟩ (.int .i64 ((rd_T38 t188 x41_1).f0))).setCell ⟨gb192, 1, none⟩ (.int .i64 ((rd_T38 t188 x41_1).f1))) w.heap.size (fun k_ => k_ ≠ gb182 ∧ k_ ≠ gb192) (.slice (some ad191) t188.length co17) t188) := ⟨by (with_reducible repeat (first | apply Kd.R_alloc | apply Kd.R_drewN | apply Kd.R_drew)); exact Kd.R_mono (Kd.R_far (p := ⟨gb192, 1, none⟩) (Kd.R_far (p := ⟨gb192, 0, none⟩) (Kd.R_mono HO_39.out (fun k_ hk => (⟨hk, hk.2⟩ : _ ∧ k_ ≠ gb192))) (fun _ hk => hk.2) (.int .i64 ((rd_T38 t188 x41_1).f0))) (fun _ hk => hk.2) (.int .i64 ((rd_T38 t188 x41_1).f1))) (fun _ hk => ⟨hk.1.1, hk.1.2⟩)⟩
                    have n3_ : Aside0 (((w61.setCell ⟨gb192, 0, none⟩ (.int .i64 ((rd_T38 t188 x41_1).f0))).setCell ⟨gb192, 1, none⟩ (.int .i64 ((rd_T38 t188 x41_1).f1))).heap[gb182]? = some (.cells #[.int .i64 a2_0, .int .i64 a2_1] 38 (0, 0))) := ⟨by (with_reducible repeat (first | refine blk_drewN ?_ _ | refine blk_drew ?_ | refine blk_alloc ?_ _)); refine blk_far ?_ NB182_192.out _; (with_reducible repeat (first | refine blk_drewN ?_ _ | refine blk_drew ?_ | refine blk_alloc ?_ _)); refine blk_far ?_ NB182_192.out _; (with_reducible repeat (first | refine blk_drewN ?_ _ | refine blk_drew ?_ | refine blk_alloc ?_ _)); exact BK182.out⟩
                    have n4_ : Aside0 (((w61.setCell ⟨gb192, 0, none⟩ (.int .i64 ((rd_T38 t188 x41_1).f0))).setCell ⟨gb192, 1, none⟩ (.int .i64 ((rd_T38 t188 x41_1).f1))).heap[gb192]? = some (.cells #[.int .i64 ((rd_T38 t188 x41_1).f0), .int .i64 ((rd_T38 t188 x41_1).f1)] 38 (0, 0))) := ⟨by (with_reducible repeat (first | refine blk_drewN ?_ _ | refine blk_drew ?_ | refine blk_alloc ?_ _)); refine blk_put (cs := #[.int .i64 ((rd_T38 t188 x41_1).f0), .int .i64 0]) ?_ 1 _ rfl; (with_reducible repeat (first | refine blk_drewN ?_ _ | refine blk_drew ?_ | refine blk_alloc ?_ _)); refine blk_put (cs := #[.int .i64 0, .int .i64 0]) ?_ 0 _ rfl; (with_reducible repeat (first | refine blk_drewN ?_ _ | refine blk_drew ?_ | refine blk_alloc ?_ _)); exact BK192.out⟩
                    have n5_ : Aside0 (Below w.heap.size w ((w61.setCell ⟨gb192, 0, none⟩ (.int .i64 ((rd_T38 t188 x41_1).f0))).setCell ⟨gb192, 1, none⟩ (.int .i64 ((rd_T38 t188 x41_1).f1)))) := ⟨by repeat (first | (with_reducible first | exact HB.out | apply below_alloc | apply pw_below_drewN | apply below_drew1 | refine below_set ?_ GE182.out | refine below_set ?_ GE192.out) | exact HB.out)⟩
                    (try clear HO_7)
                    (try clear HO_9)
                    (try clear HO_39)
                    (try clear BK182)
                    (try clear BK192)
                    (try clear HB)
                    generalize ((w61.setCell ⟨gb192, 0, none⟩ (.int .i64 ((rd_T38 t188 x41_1).f0))).setCell ⟨gb192, 1, none⟩ (.int .i64 ((rd_T38 t188 x41_1).f1))) = w64 at n0_ n1_ n2_ n3_ n4_ n5_ ⊢
                    have HO_7 := n0_
                    have HO_9 := n1_
                    have HO_39 := n2_
                    have BK182 := n3_
                    have BK192 := n4_
                    have HB := n5_
                    clear n0_ n1_ n2_ n3_ n4_ n5_
                    have n0_ := Aside0.mk (Kd.N_drew HO_7.out)
                    have n1_ := Aside0.mk (Kd.R_drew HO_9.out)
                    have n2_ := Aside0.mk (Kd.R_drew HO_39.out)
                    have n3_ := Aside0.mk (blk_drew BK182.out)
                    have n4_ := Aside0.mk (blk_drew BK192.out)
                    have n5_ := Aside0.mk (below_drew1 HB.out)
                    clear HO_7
                    clear HO_9
                    clear HO_39
                    clear BK182
                    clear BK192
                    clear HB
                    have HO_7 := n0_
                    have HO_9 := n1_
                    have HO_39 := n2_
                    have BK182 := n3_
                    have BK192 := n4_
                    have HB := n5_
                    clear n0_ n1_ n2_ n3_ n4_ n5_
                    refine start_ (n := 12) (S := fun w' => True) (ds := []) #[false, false, false, false, false, false, false, false, false, false, false, false] (by kernel_rfl) rfl rfl trivial (fun hHeld => ?_); refine with_tabW kissgatelaw17_SpreadAll.tab10 kissgatelaw17_SpreadAll.bits10 (fun HT_ HW_ => ?_)
                    generalize w64.drew = w65 at HO_7 HO_9 HO_39 BK182 BK192 HB hHeld ⊢
                    refine pure_ (i := 0) (N := some 46) (v := ?_) (a' := ?_) #[true, false, false, false, false, false, false, false, false, false, false, false] rfl rfl (any_of HT_.out (by kernel_rfl)) (fun _ _ _ h => h) (Or.inl ⟨by rfl, ?_⟩) ?_ ?_
                    rotate_left
                    · intro w'
                      go_simp
                      with_reducible rfl
                    rotate_left
                    · simp only [Act.put, List.setIfInBounds_toArray, List.set_cons_zero, List.set_cons_succ, i64_w, i32_w]
                      rfl
                    refine pure_ (i := 1) (N := some 47) (v := ?_) (a' := ?_) #[true, true, false, false, false, false, false, false, false, false, false, false] rfl rfl (any_of HT_.out (by kernel_rfl)) (fun _ _ _ h => h) (Or.inl ⟨by rfl, ?_⟩) ?_ ?_
                    rotate_left
                    · intro w'
                      go_simp
                      with_reducible rfl
                    rotate_left
                    · simp only [Act.put, List.setIfInBounds_toArray, List.set_cons_zero, List.set_cons_succ, i64_w, i32_w]
                      rfl
                    refine pure_ (i := 2) (N := some 48) (v := ?_) (a' := ?_) #[true, true, true, false, false, false, false, false, false, false, false, false] rfl rfl (any_of HT_.out (by kernel_rfl)) (fun _ _ _ h => h) (Or.inl ⟨by rfl, ?_⟩) ?_ ?_
                    rotate_left
                    · intro w'
                      go_simp
                      with_reducible rfl
                    rotate_left
                    · simp only [Act.put, List.setIfInBounds_toArray, List.set_cons_zero, List.set_cons_succ, i64_w, i32_w]
                      rfl
                    refine pure_ (i := 3) (N := some 49) (v := undef) (a' := ?_) #[true, true, true, true, false, false, false, false, false, false, false, false] rfl rfl (any_of HT_.out (by kernel_rfl)) (fun _ _ _ h => h) (Or.inr ⟨by rfl, rfl⟩) ?_ ?_
                    rotate_left
                    · simp only [Act.put, List.setIfInBounds_toArray, List.set_cons_zero, List.set_cons_succ, i64_w, i32_w]
                      rfl
                    refine pure_ (i := 4) (N := some 50) (v := undef) (a' := ?_) #[true, true, true, true, true, false, false, false, false, false, false, false] rfl rfl (any_of HT_.out (by kernel_rfl)) (fun _ _ _ h => h) (Or.inr ⟨by rfl, rfl⟩) ?_ ?_
                    rotate_left
                    · simp only [Act.put, List.setIfInBounds_toArray, List.set_cons_zero, List.set_cons_succ, i64_w, i32_w]
                      rfl
                    refine pure_ (i := 5) (N := some 51) (v := undef) (a' := ?_) #[true, true, true, true, true, true, false, false, false, false, false, false] rfl rfl (any_of HT_.out (by kernel_rfl)) (fun _ _ _ h => h) (Or.inr ⟨by rfl, rfl⟩) ?_ ?_
                    rotate_left
                    · simp only [Act.put, List.setIfInBounds_toArray, List.set_cons_zero, List.set_cons_succ, i64_w, i32_w]
                      rfl
                    refine pure_ (i := 6) (N := some 52) (v := undef) (a' := ?_) #[true, true, true, true, true, true, true, false, false, false, false, false] rfl rfl (any_of HT_.out (by kernel_rfl)) (fun _ _ _ h => h) (Or.inr ⟨by rfl, rfl⟩) ?_ ?_
                    rotate_left
                    · simp only [Act.put, List.setIfInBounds_toArray, List.set_cons_zero, List.set_cons_succ, i64_w, i32_w]
                      rfl
                    refine pure_ (i := 7) (N := some 53) (v := undef) (a' := ?_) #[true, true, true, true, true, true, true, true, false, false, false, false] rfl rfl (any_of HT_.out (by kernel_rfl)) (fun _ _ _ h => h) (Or.inr ⟨by rfl, rfl⟩) ?_ ?_
                    rotate_left
                    · simp only [Act.put, List.setIfInBounds_toArray, List.set_cons_zero, List.set_cons_succ, i64_w, i32_w]
                      rfl
                    refine pure_ (i := 8) (N := some 54) (v := undef) (a' := ?_) #[true, true, true, true, true, true, true, true, true, false, false, false] rfl rfl (any_of HT_.out (by kernel_rfl)) (fun _ _ _ h => h) (Or.inr ⟨by rfl, rfl⟩) ?_ ?_
                    rotate_left
                    · simp only [Act.put, List.setIfInBounds_toArray, List.set_cons_zero, List.set_cons_succ, i64_w, i32_w]
                      rfl
                    refine pure_ (i := 9) (N := some 55) (v := undef) (a' := ?_) #[true, true, true, true, true, true, true, true, true, true, false, false] rfl rfl (any_of HT_.out (by kernel_rfl)) (fun _ _ _ h => h) (Or.inr ⟨by rfl, rfl⟩) ?_ ?_
                    rotate_left
                    · simp only [Act.put, List.setIfInBounds_toArray, List.set_cons_zero, List.set_cons_succ, i64_w, i32_w]
                      rfl
                    refine pure_ (i := 10) (N := some 56) (v := undef) (a' := ?_) #[true, true, true, true, true, true, true, true, true, true, true, false] rfl rfl (any_of HT_.out (by kernel_rfl)) (fun _ _ _ h => h) (Or.inr ⟨by rfl, rfl⟩) ?_ ?_
                    rotate_left
                    · simp only [Act.put, List.setIfInBounds_toArray, List.set_cons_zero, List.set_cons_succ, i64_w, i32_w]
                      rfl
                    refine pure_ (i := 11) (N := some 57) (v := ?_) (a' := ?_) #[true, true, true, true, true, true, true, true, true, true, true, true] rfl rfl (any_of HT_.out (by kernel_rfl)) (fun _ _ _ h => h) (Or.inl ⟨by rfl, ?_⟩) ?_ ?_
                    rotate_left
                    · intro w'
                      go_simp
                      with_reducible rfl
                    rotate_left
                    · simp only [Act.put, List.setIfInBounds_toArray, List.set_cons_zero, List.set_cons_succ, i64_w, i32_w]
                      rfl
                    refine done_ (done_of HT_.out (by kernel_rfl)) ?_
                    have hcz66_0 : w65.cell? ⟨gb192, 0, none⟩ = some (.int .i64 ((rd_T38 t188 x41_1).f0)) := (blk_cell BK192.out 0).trans rfl
                    have hcz66_1 : w65.cell? ⟨gb192, 1, none⟩ = some (.int .i64 ((rd_T38 t188 x41_1).f1)) := (blk_cell BK192.out 1).trans rfl
                    have hfz66_0 := blk_frozen BK192.out 0
                    have hfz66_1 := blk_frozen BK192.out 1
                    try go_wp2_with (first | ((with_reducible refine gate_callee (f := 35) rfl ?_); refine goesL_ (some 61) rfl rfl Try.func35 (by kernel_rfl) rfl #[.agg #[.bool false, .slice A1 l1.length c1, .slice none 0 0], .agg #[.int .i64 ((rd_T38 t188 x41_1).f0), .int .i64 ((rd_T38 t188 x41_1).f1)]] rfl (by (try simp only [List.map_toArray, List.map_cons, List.map_nil]); first | done | rfl | (simp only [List.length_drop, List.length_take]; rfl)) ?_; (refine (kissgateref17_Has.calls k1 false _ _ l1 _ _ ([] : List Int) ((rd_T38 t188 x41_1).f0) ((rd_T38 t188 x41_1).f1) t199 _ ?side1 ?side2 ?side3 ?side4 A60.out).mono ?_); (case side1 => repeat (first | exact (Kd.C_below HR1.out HB.out) | (with_reducible refine Kd.C_alloc ?_ _) | (with_reducible refine Kd.C_drewN ?_ _) | (with_reducible refine Kd.C_drew ?_))); (case side2 => exact HC1.out); (case side3 => exact Kd.C_nil _ _); (case side4 => exact Nat.le_refl _); rintro e w67 ⟨rfl, hb⟩; refine ⟨_, rfl, ?_⟩; have n0_ := Aside0.mk (Kd.N_below (by (with_reducible repeat (first | apply Kd.N_alloc | apply Kd.N_drewN | apply Kd.N_drew)); exact HO_7.out) hb); have n1_ := Aside0.mk (Kd.R_below (by (with_reducible repeat (first | apply Kd.R_alloc | apply Kd.R_drewN | apply Kd.R_drew)); exact HO_9.out) hb); have n2_ := Aside0.mk (Kd.R_below (by (with_reducible repeat (first | apply Kd.R_alloc | apply Kd.R_drewN | apply Kd.R_drew)); exact HO_39.out) hb); have n3_ := Aside0.mk (blk_below (g := gb182) (o := .cells #[.int .i64 a2_0, .int .i64 a2_1] 38 (0, 0)) (by (with_reducible repeat (first | refine blk_drewN ?_ _ | refine blk_drew ?_ | refine blk_alloc ?_ _)); exact BK182.out) hb); have n4_ := Aside0.mk (blk_below (g := gb192) (o := .cells #[.int .i64 ((rd_T38 t188 x41_1).f0), .int .i64 ((rd_T38 t188 x41_1).f1)] 38 (0, 0)) (by (with_reducible repeat (first | refine blk_drewN ?_ _ | refine blk_drew ?_ | refine blk_alloc ?_ _)); exact BK192.out) hb); have n5_ := Aside0.mk (below_step (by repeat (first | (with_reducible first | exact HB.out | apply below_alloc | apply pw_below_drewN | apply below_drew1 | refine below_set ?_ GE182.out | refine below_set ?_ GE192.out) | exact HB.out)) hb); clear HO_7; clear HO_9; clear HO_39; clear BK182; clear BK192; clear HB; have HO_7 := n0_; have HO_9 := n1_; have HO_39 := n2_; have BK182 := n3_; have BK192 := n4_; have HB := n5_; clear n0_ n1_ n2_ n3_ n4_ n5_; (try clear hb); (try clear hb2); (try clear hk); (try clear hi); obtain ⟨Ao68, co68, eo68⟩ := Kd.N_slice HO_7.out; subst eo68))
                    go_loopg [12, 64] k1 (fun kq v12 v64 w' => ∃ (x12_2 : Bool) (x64_2 : Int), v12 = .bool x12_2 ∧ v64 = .int .i64 x64_2 ∧ Aside0 (kissgatelaw17_SpreadAll.l1 kq l0 l1 t184 t188 x12_2 t188 (t188.length : Int) x41_1 t184 (t184.length : Int) x64_2 a2_0 a2_1 ((rd_T38 t188 x41_1).f0) ((rd_T38 t188 x41_1).f1) = some r) ∧ Aside0 (kq ≤ k1) ∧ Aside0 (Kd.N k47 47 w' w.heap.size (fun k_ => some k_ ≠ ((.slice (some ad191) t188.length co17) : Value).ownBlock ∧ some k_ ≠ ((.slice (some ad191) t188.length co17) : Value).ownBlock ∧ k_ ≠ gb182 ∧ k_ ≠ gb192) (.slice Ao68 t184.length co68) t184) ∧ Aside0 (Kd.R k38 38 w' w.heap.size (fun k_ => k_ ≠ gb182 ∧ k_ ≠ gb192) (.slice (some ad191) t188.length co17) t188) ∧ Aside0 (Kd.R k38 38 w' w.heap.size (fun k_ => k_ ≠ gb182 ∧ k_ ≠ gb192) (.slice (some ad191) t188.length co17) t188) ∧ Aside0 (Kd.N k47 47 w' w.heap.size (fun k_ => some k_ ≠ ((.slice (some ad191) t188.length co17) : Value).ownBlock ∧ some k_ ≠ ((.slice (some ad191) t188.length co17) : Value).ownBlock ∧ k_ ≠ gb182 ∧ k_ ≠ gb192) (.slice Ao68 t184.length co68) t184) ∧ Aside0 (w'.heap[gb182]? = some (.cells #[.int .i64 a2_0, .int .i64 a2_1] 38 (0, 0))) ∧ Aside0 (w'.heap[gb192]? = some (.cells #[.int .i64 ((rd_T38 t188 x41_1).f0), .int .i64 ((rd_T38 t188 x41_1).f1)] 38 (0, 0))) ∧ Aside0 (Below w.heap.size w w'))
                    case atStart => exact ⟨(t199), (0), (by first | rfl | (simp; done) | (simp [*]; done)), (by first | rfl | (simp; done) | (simp [*]; done)), H', ⟨Nat.le_refl _⟩, ⟨by (with_reducible repeat (first | apply Kd.N_alloc | apply Kd.N_drewN | apply Kd.N_drew)); exact HO_7.out⟩, ⟨by (with_reducible repeat (first | apply Kd.R_alloc | apply Kd.R_drewN | apply Kd.R_drew)); exact HO_9.out⟩, ⟨by (with_reducible repeat (first | apply Kd.R_alloc | apply Kd.R_drewN | apply Kd.R_drew)); exact HO_39.out⟩, ⟨by (with_reducible repeat (first | apply Kd.N_alloc | apply Kd.N_drewN | apply Kd.N_drew)); exact HO_7.out⟩, ⟨by (with_reducible repeat (first | refine blk_drewN ?_ _ | refine blk_drew ?_ | refine blk_alloc ?_ _)); exact BK182.out⟩, ⟨by (with_reducible repeat (first | refine blk_drewN ?_ _ | refine blk_drew ?_ | refine blk_alloc ?_ _)); exact BK192.out⟩, ⟨by repeat (first | (with_reducible first | exact HB.out | apply below_alloc | apply pw_below_drewN | apply below_drew1 | refine below_set ?_ GE182.out | refine below_set ?_ GE192.out) | exact HB.out)⟩⟩
                    case round =>
                      clear H'
                      try clear c1
                      try clear p1
                      try clear q1
                      try clear hx1
                      try clear c2
                      try clear p2
                      try clear c3
                      try clear c4
                      try clear c5
                      try clear c6
                      try clear p6
                      try clear c7
                      try clear c8
                      try clear c8b0
                      try clear c8b1
                      try clear c13
                      try clear c18
                      try clear c18b0
                      try clear c19
                      try clear c19b0
                      try clear p19
                      try clear q19
                      try clear hx19
                      try clear c20
                      try clear c20b0
                      try clear c21
                      try clear c21b0
                      try clear c23
                      try clear c23b0
                      try clear c24
                      try clear c24b0
                      try clear c26
                      try clear c29
                      try clear c33
                      try clear c34
                      try clear c35
                      try clear c37
                      try clear c37b0
                      try clear c38
                      try clear c38b0
                      try clear c39
                      try clear c39b0
                      try clear c40
                      try clear c42
                      try clear c43
                      try clear c47
                      try clear c48
                      try clear c50
                      try clear c53
                      try clear c55
                      try clear c62
                      try clear p64
                      try clear hcz30_0
                      try clear hcz30_1
                      try clear hcz34_0
                      try clear hcz34_1
                      try clear hcz44_0
                      try clear hcz44_1
                      try clear hcz44_2
                      try clear hcz49_0
                      try clear hcz49_1
                      try clear hcz49_2
                      try clear hcz51_0
                      try clear hcz51_1
                      try clear hcz56_0
                      try clear hcz56_1
                      try clear hcz63_0
                      try clear hcz63_1
                      try clear hcz66_0
                      try clear hcz66_1
                      try clear hfz30_0
                      try clear hfz30_1
                      try clear hfz34_0
                      try clear hfz34_1
                      try clear hfz44_0
                      try clear hfz44_1
                      try clear hfz44_2
                      try clear hfz49_0
                      try clear hfz49_1
                      try clear hfz49_2
                      try clear hfz51_0
                      try clear hfz51_1
                      try clear hfz56_0
                      try clear hfz56_1
                      try clear hfz63_0
                      try clear hfz63_1
                      try clear hfz66_0
                      try clear hfz66_1
                      try clear hx191_0
                      try clear hx191_1
                      try clear hx193_0
                      try clear hx193_1
                      try clear hx196_0
                      try clear hx196_1
                      try clear hx196_2
                      try clear p1
                      try clear p19
                      try clear p191
                      try clear p193
                      try clear p196
                      try clear p2
                      try clear p6
                      try clear q1
                      try clear q19
                      try clear q191
                      try clear q193
                      try clear q196
                      obtain ⟨x12_2, x64_2, rfl, rfl, HA, HK2, HO_7, HO_9, HO_39, HO_62, BK182, BK192, HB⟩ := hrel
                      cases gk with
                      | zero => exact absurd HA.out (by simp [kissgatelaw17_SpreadAll.l1])
                      | succ k2 =>
                        have H := HA.out
                        clear HA
                        simp only [kissgatelaw17_SpreadAll.l1] at H
                        by_cases c69 : x64_2 < (t184.length : Int)
                        · rw [if_pos c69] at H
                          have c69b0 : decide (x64_2 < (t184.length : Int)) = true := decide_eq_true c69
                          clear c69
                          by_cases c70 : 0 ≤ x64_2
                          · rw [if_pos c70] at H
                            have c70b0 : decide (0 ≤ x64_2) = true := decide_eq_true c70
                            clear c70
                            by_cases c71 : x64_2 < (t184.length : Int)
                            · rw [if_pos c71] at H
                              have c71b0 : decide (x64_2 < (t184.length : Int)) = true := decide_eq_true c71
                              clear c71
                              by_cases c72 : x12_2 = true
                              · subst c72
                                have H1 : (kissgatelaw17_SpreadAll.l1 k2 l0 l1 t184 t188 true t188 (t188.length : Int) x41_1 t184 (t184.length : Int) (wrap64 (x64_2 + 1)) a2_0 a2_1 ((rd_T38 t188 x41_1).f0) ((rd_T38 t188 x41_1).f1)) = some r := by rw [if_pos rfl] at H; exact H
                                clear H
                                have H := H1
                                clear H1
                                have H' := Aside0.mk H
                                clear H
                                have p196 : 0 ≤ (x64_2 : Int) := of_decide_eq_true (by first | (with_reducible assumption) | assumption)
                                have q196 : x64_2 < (t184.length : Int) := of_decide_eq_true (by first | (with_reducible assumption) | assumption)
                                obtain ⟨ad196, A196_1, c196_1, A196_2, c196_2, e196, hx196_0, hx196_1, hx196_2, hl196_1, hi196_1, hl196_2, hi196_2⟩ := at_T47 (Kd.N_reads' HO_62.out).2.2 x64_2 p196 q196
                                cases e196
                                obtain ⟨ce196, hce196, hMe196, hcc196⟩ := Kd.N_get HO_62.out z47 x64_2 p196 (by first | exact q196 | exact of_decide_eq_true (by first | (with_reducible assumption) | assumption) | (have e_ := (Kd.N_reads' HO_62.out).1; omega))
                                obtain ⟨ua196_1, uc196_1, ua196_2, uc196_2, rfl, ul196_1, ge196_1, ul196_2, ge196_2⟩ := k47_openF hMe196
                                have hv196_1 := hcc196 1 _ rfl
                                rw [add_field _ _ 1 (by omega)] at hv196_1
                                replace hv196_1 := Option.some.inj (hv196_1.symm.trans hx196_1)
                                injection hv196_1 with hva_ hvn_ hvc_
                                rw [hva_] at ge196_1
                                rw [hvc_] at ul196_1
                                have HL196_1 := Aside0.mk (show Kd.V k38 38 _ w.heap.size _ _ ((rd_T47 t184 x64_2).f1) from Kd.V_mk ul196_1 ge196_1)
                                clear hva_ hvn_ hvc_ ge196_1 ul196_1
                                have hv196_2 := hcc196 2 _ rfl
                                rw [add_field _ _ 2 (by omega)] at hv196_2
                                replace hv196_2 := Option.some.inj (hv196_2.symm.trans hx196_2)
                                injection hv196_2 with hva_ hvn_ hvc_
                                rw [hva_] at ge196_2
                                rw [hvc_] at ul196_2
                                have HL196_2 := Aside0.mk (show Kd.V (Kd.int .i64) 3 _ w.heap.size _ _ ((rd_T47 t184 x64_2).f2) from Kd.V_mk ul196_2 ge196_2)
                                clear hva_ hvn_ hvc_ ge196_2 ul196_2
                                clear hcc196 hce196
                                have HR196_1 := Aside0.mk hi196_1
                                have HC196_1 := Aside0.mk hl196_1
                                clear hi196_1 hl196_1
                                have HR196_2 := Aside0.mk hi196_2
                                have HC196_2 := Aside0.mk hl196_2
                                clear hi196_2 hl196_2
                                replace p196 := eq_true p196
                                replace q196 := eq_true q196
                                go_wp2_with (first | ((with_reducible refine gate_dst (N := 14) rfl ?_); (try (refine gate_guard (by rfl) ?_; dsimp only)); refine box_event ?hg (N := 14) ?hd (cs := #[.bool false, .slice none 0 0, .slice none 0 0]) (t := 47) ?hr ?_; (case hd => rfl); (case hg => rfl); (case hr => first | (go_simp; done) | (go_simp; rfl)); intro gb197 hg w73 hbox hb; have n0_ := Aside0.mk (Kd.N_below (Kd.N_elderB (by (with_reducible repeat (first | apply Kd.N_alloc | apply Kd.N_drewN | apply Kd.N_drew)); exact HO_7.out) gb197 (Nat.le_of_eq hg.symm)) hb); have n1_ := Aside0.mk (Kd.R_below (by (with_reducible repeat (first | apply Kd.R_alloc | apply Kd.R_drewN | apply Kd.R_drew)); exact HO_9.out) hb); have n2_ := Aside0.mk (Kd.R_below (by (with_reducible repeat (first | apply Kd.R_alloc | apply Kd.R_drewN | apply Kd.R_drew)); exact HO_39.out) hb); have n3_ := Aside0.mk (Kd.N_below (Kd.N_elderB (by (with_reducible repeat (first | apply Kd.N_alloc | apply Kd.N_drewN | apply Kd.N_drew)); exact HO_62.out) gb197 (Nat.le_of_eq hg.symm)) hb); have n4_ := Aside0.mk (Kd.V_below (Kd.V_elderB (by (with_reducible repeat (first | apply Kd.V_alloc | apply Kd.V_drewN | apply Kd.V_drew)); exact HL196_1.out) gb197 (Nat.le_of_eq hg.symm)) hb); have n5_ := Aside0.mk (Kd.V_below (Kd.V_elderB (by (with_reducible repeat (first | apply Kd.V_alloc | apply Kd.V_drewN | apply Kd.V_drew)); exact HL196_2.out) gb197 (Nat.le_of_eq hg.symm)) hb); have n6_ := Aside0.mk (blk_below (g := gb182) (o := .cells #[.int .i64 a2_0, .int .i64 a2_1] 38 (0, 0)) (by (with_reducible repeat (first | refine blk_drewN ?_ _ | refine blk_drew ?_ | refine blk_alloc ?_ _)); exact BK182.out) hb); have n7_ := Aside0.mk (blk_below (g := gb192) (o := .cells #[.int .i64 ((rd_T38 t188 x41_1).f0), .int .i64 ((rd_T38 t188 x41_1).f1)] 38 (0, 0)) (by (with_reducible repeat (first | refine blk_drewN ?_ _ | refine blk_drew ?_ | refine blk_alloc ?_ _)); exact BK192.out) hb); have n8_ := Aside0.mk (Kd.C_below (by repeat (first | (with_reducible exact HR196_1.out) | (with_reducible refine Kd.C_alloc ?_ _) | (with_reducible refine Kd.C_drewN ?_ _) | (with_reducible refine Kd.C_drew ?_) | exact HR196_1.out)) hb); have n9_ := Aside0.mk (Kd.C_below (by repeat (first | (with_reducible exact HR196_2.out) | (with_reducible refine Kd.C_alloc ?_ _) | (with_reducible refine Kd.C_drewN ?_ _) | (with_reducible refine Kd.C_drew ?_) | exact HR196_2.out)) hb); have n10_ := Aside0.mk (below_step (by repeat (first | (with_reducible first | exact HB.out | apply below_alloc | apply pw_below_drewN | apply below_drew1 | refine below_set ?_ GE182.out | refine below_set ?_ GE192.out) | exact HB.out)) hb); have n11_ := Aside0.mk (hbox); have n12_ := Aside0.mk ((by rw [hg]; exact (below_size (by repeat (first | (with_reducible first | exact HB.out | apply below_alloc | apply pw_below_drewN | apply below_drew1 | refine below_set ?_ GE182.out | refine below_set ?_ GE192.out) | exact HB.out))) : w.heap.size ≤ gb197)); have n13_ := Aside0.mk ((by rw [hg]; exact (below_size (by repeat (first | (with_reducible first | exact HB.out | apply below_alloc | apply pw_below_drewN | apply below_drew1 | refine below_set ?_ GE182.out | refine below_set ?_ GE192.out) | exact HB.out))) : w.heap.size ≤ gb197)); have n14_ := Aside0.mk ((by rw [hg]; exact Nat.ne_of_lt (blk_lt (g := gb182) (o := .cells #[.int .i64 a2_0, .int .i64 a2_1] 38 (0, 0)) (by (with_reducible repeat (first | refine blk_drewN ?_ _ | refine blk_drew ?_ | refine blk_alloc ?_ _)); exact BK182.out)) : gb182 ≠ gb197)); have n15_ := Aside0.mk ((by rw [hg]; exact Nat.ne_of_gt (blk_lt (g := gb182) (o := .cells #[.int .i64 a2_0, .int .i64 a2_1] 38 (0, 0)) (by (with_reducible repeat (first | refine blk_drewN ?_ _ | refine blk_drew ?_ | refine blk_alloc ?_ _)); exact BK182.out)) : gb197 ≠ gb182)); have n16_ := Aside0.mk ((by rw [hg]; exact Nat.ne_of_lt (blk_lt (g := gb192) (o := .cells #[.int .i64 ((rd_T38 t188 x41_1).f0), .int .i64 ((rd_T38 t188 x41_1).f1)] 38 (0, 0)) (by (with_reducible repeat (first | refine blk_drewN ?_ _ | refine blk_drew ?_ | refine blk_alloc ?_ _)); exact BK192.out)) : gb192 ≠ gb197)); have n17_ := Aside0.mk ((by rw [hg]; exact Nat.ne_of_gt (blk_lt (g := gb192) (o := .cells #[.int .i64 ((rd_T38 t188 x41_1).f0), .int .i64 ((rd_T38 t188 x41_1).f1)] 38 (0, 0)) (by (with_reducible repeat (first | refine blk_drewN ?_ _ | refine blk_drew ?_ | refine blk_alloc ?_ _)); exact BK192.out)) : gb197 ≠ gb192)); clear HO_7; clear HO_9; clear HO_39; clear HO_62; clear HL196_1; clear HL196_2; clear BK182; clear BK192; clear HR196_1; clear HR196_2; clear HB; have HO_7 := n0_; have HO_9 := n1_; have HO_39 := n2_; have HO_62 := n3_; have HL196_1 := n4_; have HL196_2 := n5_; have BK182 := n6_; have BK192 := n7_; have HR196_1 := n8_; have HR196_2 := n9_; have HB := n10_; have BK197 := n11_; have GW197 := n12_; have GE197 := n13_; have NB182_197 := n14_; have NB197_182 := n15_; have NB192_197 := n16_; have NB197_192 := n17_; clear n0_ n1_ n2_ n3_ n4_ n5_ n6_ n7_ n8_ n9_ n10_ n11_ n12_ n13_ n14_ n15_ n16_ n17_; clear hb hbox hg; have hnb74 := NB197_182.out; have hnc74 := NB182_197.out; have hnb75 := NB197_192.out; have hnc75 := NB192_197.out; have hcz76_0 : w73.cell? ⟨gb197, 0, none⟩ = some (.bool false) := (blk_cell BK197.out 0).trans rfl; have hcz76_1 : w73.cell? ⟨gb197, 1, none⟩ = some (.slice none 0 0) := (blk_cell BK197.out 1).trans rfl; have hcz76_2 : w73.cell? ⟨gb197, 2, none⟩ = some (.slice none 0 0) := (blk_cell BK197.out 2).trans rfl; have hfz76_0 := blk_frozen BK197.out 0; have hfz76_1 := blk_frozen BK197.out 1; have hfz76_2 := blk_frozen BK197.out 2))
                                go_roundg k2
                                case measure => have := HK1.out; have := HK2.out; omega
                                case rel => exact ⟨(true), (wrap64 (x64_2 + 1)), (by first | rfl | (simp; done) | (simp [*]; done)), (by first | rfl | (simp; done) | (simp [*]; done)), H', ⟨by have := HK1.out; have := HK2.out; omega⟩, ⟨by (with_reducible repeat (first | apply Kd.N_alloc | apply Kd.N_drewN | apply Kd.N_drew)); exact Kd.N_mono (Kd.N_far (p := ⟨gb197, 2, none⟩) (Kd.N_far (p := ⟨gb197, 1, none⟩) (Kd.N_far (p := ⟨gb197, 0, none⟩) (Kd.N_mono HO_7.out (fun k_ hk => (⟨hk, hk.2⟩ : _ ∧ k_ ≠ gb197))) (fun _ hk => hk.2) (.bool ((rd_T47 t184 x64_2).f0))) (fun _ hk => hk.2) (.slice A196_1 ((rd_T47 t184 x64_2).f1).length c196_1)) (fun _ hk => hk.2) (.slice A196_2 ((rd_T47 t184 x64_2).f2).length c196_2)) (fun _ hk => ⟨hk.1.1.1, ⟨hk.1.1.2.1, ⟨hk.1.1.2.2.1, hk.1.1.2.2.2⟩⟩⟩)⟩, ⟨by (with_reducible repeat (first | apply Kd.R_alloc | apply Kd.R_drewN | apply Kd.R_drew)); exact Kd.R_mono (Kd.R_far (p := ⟨gb197, 2, none⟩) (Kd.R_far (p := ⟨gb197, 1, none⟩) (Kd.R_far (p := ⟨gb197, 0, none⟩) (Kd.R_types HO_9.out BK197.out (by decide)) (fun _ hk => hk.2) (.bool ((rd_T47 t184 x64_2).f0))) (fun _ hk => hk.2) (.slice A196_1 ((rd_T47 t184 x64_2).f1).length c196_1)) (fun _ hk => hk.2) (.slice A196_2 ((rd_T47 t184 x64_2).f2).length c196_2)) (fun _ hk => ⟨hk.1.1, hk.1.2⟩)⟩, ⟨by (with_reducible repeat (first | apply Kd.R_alloc | apply Kd.R_drewN | apply Kd.R_drew)); exact Kd.R_mono (Kd.R_far (p := ⟨gb197, 2, none⟩) (Kd.R_far (p := ⟨gb197, 1, none⟩) (Kd.R_far (p := ⟨gb197, 0, none⟩) (Kd.R_types HO_39.out BK197.out (by decide)) (fun _ hk => hk.2) (.bool ((rd_T47 t184 x64_2).f0))) (fun _ hk => hk.2) (.slice A196_1 ((rd_T47 t184 x64_2).f1).length c196_1)) (fun _ hk => hk.2) (.slice A196_2 ((rd_T47 t184 x64_2).f2).length c196_2)) (fun _ hk => ⟨hk.1.1, hk.1.2⟩)⟩, ⟨by (with_reducible repeat (first | apply Kd.N_alloc | apply Kd.N_drewN | apply Kd.N_drew)); exact Kd.N_mono (Kd.N_far (p := ⟨gb197, 2, none⟩) (Kd.N_far (p := ⟨gb197, 1, none⟩) (Kd.N_far (p := ⟨gb197, 0, none⟩) (Kd.N_mono HO_62.out (fun k_ hk => (⟨hk, hk.2⟩ : _ ∧ k_ ≠ gb197))) (fun _ hk => hk.2) (.bool ((rd_T47 t184 x64_2).f0))) (fun _ hk => hk.2) (.slice A196_1 ((rd_T47 t184 x64_2).f1).length c196_1)) (fun _ hk => hk.2) (.slice A196_2 ((rd_T47 t184 x64_2).f2).length c196_2)) (fun _ hk => ⟨hk.1.1.1, ⟨hk.1.1.2.1, ⟨hk.1.1.2.2.1, hk.1.1.2.2.2⟩⟩⟩)⟩, ⟨by (with_reducible repeat (first | refine blk_drewN ?_ _ | refine blk_drew ?_ | refine blk_alloc ?_ _)); refine blk_far ?_ NB182_197.out _; (with_reducible repeat (first | refine blk_drewN ?_ _ | refine blk_drew ?_ | refine blk_alloc ?_ _)); refine blk_far ?_ NB182_197.out _; (with_reducible repeat (first | refine blk_drewN ?_ _ | refine blk_drew ?_ | refine blk_alloc ?_ _)); refine blk_far ?_ NB182_197.out _; (with_reducible repeat (first | refine blk_drewN ?_ _ | refine blk_drew ?_ | refine blk_alloc ?_ _)); exact BK182.out⟩, ⟨by (with_reducible repeat (first | refine blk_drewN ?_ _ | refine blk_drew ?_ | refine blk_alloc ?_ _)); refine blk_far ?_ NB192_197.out _; (with_reducible repeat (first | refine blk_drewN ?_ _ | refine blk_drew ?_ | refine blk_alloc ?_ _)); refine blk_far ?_ NB192_197.out _; (with_reducible repeat (first | refine blk_drewN ?_ _ | refine blk_drew ?_ | refine blk_alloc ?_ _)); refine blk_far ?_ NB192_197.out _; (with_reducible repeat (first | refine blk_drewN ?_ _ | refine blk_drew ?_ | refine blk_alloc ?_ _)); exact BK192.out⟩, ⟨by repeat (first | (with_reducible first | exact HB.out | apply below_alloc | apply pw_below_drewN | apply below_drew1 | refine below_set ?_ GE182.out | refine below_set ?_ GE192.out | refine below_set ?_ GE197.out) | exact HB.out)⟩⟩
                              · replace c72 := Bool.eq_false_iff.mpr c72
                                subst c72
                                have H1 : ((kissgateref17_Has.f k2 ((rd_T47 t184 x64_2).f0) ((rd_T47 t184 x64_2).f1) ((rd_T47 t184 x64_2).f2) ((rd_T38 t188 x41_1).f0) ((rd_T38 t188 x41_1).f1)).bind fun t198 => (kissgatelaw17_SpreadAll.l1 k2 l0 l1 t184 t188 t198 t188 (t188.length : Int) x41_1 t184 (t184.length : Int) (wrap64 (x64_2 + 1)) a2_0 a2_1 ((rd_T38 t188 x41_1).f0) ((rd_T38 t188 x41_1).f1))) = some r := by rw [if_neg (show ¬ (false = true) by decide)] at H; exact H
                                clear H
                                have H := H1
                                clear H1
                                replace H := Option.bind_eq_some_iff.mp H
                                obtain ⟨t198, A770, H⟩ := H
                                replace H : (kissgatelaw17_SpreadAll.l1 k2 l0 l1 t184 t188 t198 t188 (t188.length : Int) x41_1 t184 (t184.length : Int) (wrap64 (x64_2 + 1)) a2_0 a2_1 ((rd_T38 t188 x41_1).f0) ((rd_T38 t188 x41_1).f1)) = some r := H
                                have A77 := Aside0.mk A770
                                clear A770
                                have H' := Aside0.mk H
                                clear H
                                have p196 : 0 ≤ (x64_2 : Int) := of_decide_eq_true (by first | (with_reducible assumption) | assumption)
                                have q196 : x64_2 < (t184.length : Int) := of_decide_eq_true (by first | (with_reducible assumption) | assumption)
                                obtain ⟨ad196, A196_1, c196_1, A196_2, c196_2, e196, hx196_0, hx196_1, hx196_2, hl196_1, hi196_1, hl196_2, hi196_2⟩ := at_T47 (Kd.N_reads' HO_62.out).2.2 x64_2 p196 q196
                                cases e196
                                obtain ⟨ce196, hce196, hMe196, hcc196⟩ := Kd.N_get HO_62.out z47 x64_2 p196 (by first | exact q196 | exact of_decide_eq_true (by first | (with_reducible assumption) | assumption) | (have e_ := (Kd.N_reads' HO_62.out).1; omega))
                                obtain ⟨ua196_1, uc196_1, ua196_2, uc196_2, rfl, ul196_1, ge196_1, ul196_2, ge196_2⟩ := k47_openF hMe196
                                have hv196_1 := hcc196 1 _ rfl
                                rw [add_field _ _ 1 (by omega)] at hv196_1
                                replace hv196_1 := Option.some.inj (hv196_1.symm.trans hx196_1)
                                injection hv196_1 with hva_ hvn_ hvc_
                                rw [hva_] at ge196_1
                                rw [hvc_] at ul196_1
                                have HL196_1 := Aside0.mk (show Kd.V k38 38 _ w.heap.size _ _ ((rd_T47 t184 x64_2).f1) from Kd.V_mk ul196_1 ge196_1)
                                clear hva_ hvn_ hvc_ ge196_1 ul196_1
                                have hv196_2 := hcc196 2 _ rfl
                                rw [add_field _ _ 2 (by omega)] at hv196_2
                                replace hv196_2 := Option.some.inj (hv196_2.symm.trans hx196_2)
                                injection hv196_2 with hva_ hvn_ hvc_
                                rw [hva_] at ge196_2
                                rw [hvc_] at ul196_2
                                have HL196_2 := Aside0.mk (show Kd.V (Kd.int .i64) 3 _ w.heap.size _ _ ((rd_T47 t184 x64_2).f2) from Kd.V_mk ul196_2 ge196_2)
                                clear hva_ hvn_ hvc_ ge196_2 ul196_2
                                clear hcc196 hce196
                                have HR196_1 := Aside0.mk hi196_1
                                have HC196_1 := Aside0.mk hl196_1
                                clear hi196_1 hl196_1
                                have HR196_2 := Aside0.mk hi196_2
                                have HC196_2 := Aside0.mk hl196_2
                                clear hi196_2 hl196_2
                                replace p196 := eq_true p196
                                replace q196 := eq_true q196
                                go_wp2_with (first | ((with_reducible refine gate_dst (N := 14) rfl ?_); (try (refine gate_guard (by rfl) ?_; dsimp only)); refine box_event ?hg (N := 14) ?hd (cs := #[.bool false, .slice none 0 0, .slice none 0 0]) (t := 47) ?hr ?_; (case hd => rfl); (case hg => rfl); (case hr => first | (go_simp; done) | (go_simp; rfl)); intro gb197 hg w78 hbox hb; have n0_ := Aside0.mk (Kd.N_below (Kd.N_elderB (by (with_reducible repeat (first | apply Kd.N_alloc | apply Kd.N_drewN | apply Kd.N_drew)); exact HO_7.out) gb197 (Nat.le_of_eq hg.symm)) hb); have n1_ := Aside0.mk (Kd.R_below (by (with_reducible repeat (first | apply Kd.R_alloc | apply Kd.R_drewN | apply Kd.R_drew)); exact HO_9.out) hb); have n2_ := Aside0.mk (Kd.R_below (by (with_reducible repeat (first | apply Kd.R_alloc | apply Kd.R_drewN | apply Kd.R_drew)); exact HO_39.out) hb); have n3_ := Aside0.mk (Kd.N_below (Kd.N_elderB (by (with_reducible repeat (first | apply Kd.N_alloc | apply Kd.N_drewN | apply Kd.N_drew)); exact HO_62.out) gb197 (Nat.le_of_eq hg.symm)) hb); have n4_ := Aside0.mk (Kd.V_below (Kd.V_elderB (by (with_reducible repeat (first | apply Kd.V_alloc | apply Kd.V_drewN | apply Kd.V_drew)); exact HL196_1.out) gb197 (Nat.le_of_eq hg.symm)) hb); have n5_ := Aside0.mk (Kd.V_below (Kd.V_elderB (by (with_reducible repeat (first | apply Kd.V_alloc | apply Kd.V_drewN | apply Kd.V_drew)); exact HL196_2.out) gb197 (Nat.le_of_eq hg.symm)) hb); have n6_ := Aside0.mk (blk_below (g := gb182) (o := .cells #[.int .i64 a2_0, .int .i64 a2_1] 38 (0, 0)) (by (with_reducible repeat (first | refine blk_drewN ?_ _ | refine blk_drew ?_ | refine blk_alloc ?_ _)); exact BK182.out) hb); have n7_ := Aside0.mk (blk_below (g := gb192) (o := .cells #[.int .i64 ((rd_T38 t188 x41_1).f0), .int .i64 ((rd_T38 t188 x41_1).f1)] 38 (0, 0)) (by (with_reducible repeat (first | refine blk_drewN ?_ _ | refine blk_drew ?_ | refine blk_alloc ?_ _)); exact BK192.out) hb); have n8_ := Aside0.mk (Kd.C_below (by repeat (first | (with_reducible exact HR196_1.out) | (with_reducible refine Kd.C_alloc ?_ _) | (with_reducible refine Kd.C_drewN ?_ _) | (with_reducible refine Kd.C_drew ?_) | exact HR196_1.out)) hb); have n9_ := Aside0.mk (Kd.C_below (by repeat (first | (with_reducible exact HR196_2.out) | (with_reducible refine Kd.C_alloc ?_ _) | (with_reducible refine Kd.C_drewN ?_ _) | (with_reducible refine Kd.C_drew ?_) | exact HR196_2.out)) hb); have n10_ := Aside0.mk (below_step (by repeat (first | (with_reducible first | exact HB.out | apply below_alloc | apply pw_below_drewN | apply below_drew1 | refine below_set ?_ GE182.out | refine below_set ?_ GE192.out) | exact HB.out)) hb); have n11_ := Aside0.mk (hbox); have n12_ := Aside0.mk ((by rw [hg]; exact (below_size (by repeat (first | (with_reducible first | exact HB.out | apply below_alloc | apply pw_below_drewN | apply below_drew1 | refine below_set ?_ GE182.out | refine below_set ?_ GE192.out) | exact HB.out))) : w.heap.size ≤ gb197)); have n13_ := Aside0.mk ((by rw [hg]; exact (below_size (by repeat (first | (with_reducible first | exact HB.out | apply below_alloc | apply pw_below_drewN | apply below_drew1 | refine below_set ?_ GE182.out | refine below_set ?_ GE192.out) | exact HB.out))) : w.heap.size ≤ gb197)); have n14_ := Aside0.mk ((by rw [hg]; exact Nat.ne_of_lt (blk_lt (g := gb182) (o := .cells #[.int .i64 a2_0, .int .i64 a2_1] 38 (0, 0)) (by (with_reducible repeat (first | refine blk_drewN ?_ _ | refine blk_drew ?_ | refine blk_alloc ?_ _)); exact BK182.out)) : gb182 ≠ gb197)); have n15_ := Aside0.mk ((by rw [hg]; exact Nat.ne_of_gt (blk_lt (g := gb182) (o := .cells #[.int .i64 a2_0, .int .i64 a2_1] 38 (0, 0)) (by (with_reducible repeat (first | refine blk_drewN ?_ _ | refine blk_drew ?_ | refine blk_alloc ?_ _)); exact BK182.out)) : gb197 ≠ gb182)); have n16_ := Aside0.mk ((by rw [hg]; exact Nat.ne_of_lt (blk_lt (g := gb192) (o := .cells #[.int .i64 ((rd_T38 t188 x41_1).f0), .int .i64 ((rd_T38 t188 x41_1).f1)] 38 (0, 0)) (by (with_reducible repeat (first | refine blk_drewN ?_ _ | refine blk_drew ?_ | refine blk_alloc ?_ _)); exact BK192.out)) : gb192 ≠ gb197)); have n17_ := Aside0.mk ((by rw [hg]; exact Nat.ne_of_gt (blk_lt (g := gb192) (o := .cells #[.int .i64 ((rd_T38 t188 x41_1).f0), .int .i64 ((rd_T38 t188 x41_1).f1)] 38 (0, 0)) (by (with_reducible repeat (first | refine blk_drewN ?_ _ | refine blk_drew ?_ | refine blk_alloc ?_ _)); exact BK192.out)) : gb197 ≠ gb192)); clear HO_7; clear HO_9; clear HO_39; clear HO_62; clear HL196_1; clear HL196_2; clear BK182; clear BK192; clear HR196_1; clear HR196_2; clear HB; have HO_7 := n0_; have HO_9 := n1_; have HO_39 := n2_; have HO_62 := n3_; have HL196_1 := n4_; have HL196_2 := n5_; have BK182 := n6_; have BK192 := n7_; have HR196_1 := n8_; have HR196_2 := n9_; have HB := n10_; have BK197 := n11_; have GW197 := n12_; have GE197 := n13_; have NB182_197 := n14_; have NB197_182 := n15_; have NB192_197 := n16_; have NB197_192 := n17_; clear n0_ n1_ n2_ n3_ n4_ n5_ n6_ n7_ n8_ n9_ n10_ n11_ n12_ n13_ n14_ n15_ n16_ n17_; clear hb hbox hg; have hnb79 := NB197_182.out; have hnc79 := NB182_197.out; have hnb80 := NB197_192.out; have hnc80 := NB192_197.out; have hcz81_0 : w78.cell? ⟨gb197, 0, none⟩ = some (.bool false) := (blk_cell BK197.out 0).trans rfl; have hcz81_1 : w78.cell? ⟨gb197, 1, none⟩ = some (.slice none 0 0) := (blk_cell BK197.out 1).trans rfl; have hcz81_2 : w78.cell? ⟨gb197, 2, none⟩ = some (.slice none 0 0) := (blk_cell BK197.out 2).trans rfl; have hfz81_0 := blk_frozen BK197.out 0; have hfz81_1 := blk_frozen BK197.out 1; have hfz81_2 := blk_frozen BK197.out 2; have hnb82 := NB192_182.out; have hnc82 := NB182_192.out; have hcz83_0 : w78.cell? ⟨gb192, 0, none⟩ = some (.int .i64 ((rd_T38 t188 x41_1).f0)) := (blk_cell BK192.out 0).trans rfl; have hcz83_1 : w78.cell? ⟨gb192, 1, none⟩ = some (.int .i64 ((rd_T38 t188 x41_1).f1)) := (blk_cell BK192.out 1).trans rfl; have hfz83_0 := blk_frozen BK192.out 0; have hfz83_1 := blk_frozen BK192.out 1) | (go_at_call 35; (with_reducible refine (kissgateref17_Has.calls k2 ((rd_T47 t184 x64_2).f0) _ _ ((rd_T47 t184 x64_2).f1) _ _ ((rd_T47 t184 x64_2).f2) ((rd_T38 t188 x41_1).f0) ((rd_T38 t188 x41_1).f1) t198 _ ?side1 ?side2 ?side3 ?side4 A77.out).mono ?_); (case side1 => repeat (first | exact ((Kd.V_reads' (by (with_reducible repeat (first | apply Kd.V_alloc | apply Kd.V_drewN | apply Kd.V_drew)); exact (Kd.V_mono (Kd.V_far (p := ⟨gb197, 2, none⟩) (Kd.V_far (p := ⟨gb197, 1, none⟩) (Kd.V_far (p := ⟨gb197, 0, none⟩) (Kd.V_mono HL196_1.out (fun k_ hk => (⟨hk, hk.2⟩ : _ ∧ k_ ≠ gb197))) (fun _ hk => hk.2) (.bool ((rd_T47 t184 x64_2).f0))) (fun _ hk => hk.2) (.slice A196_1 ((rd_T47 t184 x64_2).f1).length c196_1)) (fun _ hk => hk.2) (.slice A196_2 ((rd_T47 t184 x64_2).f2).length c196_2)) (fun _ h_ => h_.1)))).2.2) | (with_reducible refine Kd.C_alloc ?_ _) | (with_reducible refine Kd.C_drewN ?_ _) | (with_reducible refine Kd.C_drew ?_))); (case side2 => exact HC196_1.out); (case side3 => repeat (first | exact ((Kd.V_reads' (by (with_reducible repeat (first | apply Kd.V_alloc | apply Kd.V_drewN | apply Kd.V_drew)); exact (Kd.V_mono (Kd.V_far (p := ⟨gb197, 2, none⟩) (Kd.V_far (p := ⟨gb197, 1, none⟩) (Kd.V_far (p := ⟨gb197, 0, none⟩) (Kd.V_mono HL196_2.out (fun k_ hk => (⟨hk, hk.2⟩ : _ ∧ k_ ≠ gb197))) (fun _ hk => hk.2) (.bool ((rd_T47 t184 x64_2).f0))) (fun _ hk => hk.2) (.slice A196_1 ((rd_T47 t184 x64_2).f1).length c196_1)) (fun _ hk => hk.2) (.slice A196_2 ((rd_T47 t184 x64_2).f2).length c196_2)) (fun _ h_ => h_.1)))).2.2) | (with_reducible refine Kd.C_alloc ?_ _) | (with_reducible refine Kd.C_drewN ?_ _) | (with_reducible refine Kd.C_drew ?_))); (case side4 => exact HC196_2.out); rintro e w84 ⟨rfl, hb⟩; have n0_ := Aside0.mk (Kd.N_below (by (with_reducible repeat (first | apply Kd.N_alloc | apply Kd.N_drewN | apply Kd.N_drew)); exact (Kd.N_mono (Kd.N_far (p := ⟨gb197, 2, none⟩) (Kd.N_far (p := ⟨gb197, 1, none⟩) (Kd.N_far (p := ⟨gb197, 0, none⟩) (Kd.N_mono HO_7.out (fun k_ hk => (⟨hk, hk.2⟩ : _ ∧ k_ ≠ gb197))) (fun _ hk => hk.2) (.bool ((rd_T47 t184 x64_2).f0))) (fun _ hk => hk.2) (.slice A196_1 ((rd_T47 t184 x64_2).f1).length c196_1)) (fun _ hk => hk.2) (.slice A196_2 ((rd_T47 t184 x64_2).f2).length c196_2)) (fun _ h_ => h_.1))) hb); have n1_ := Aside0.mk (Kd.R_below (by (with_reducible repeat (first | apply Kd.R_alloc | apply Kd.R_drewN | apply Kd.R_drew)); exact (Kd.R_mono (Kd.R_far (p := ⟨gb197, 2, none⟩) (Kd.R_far (p := ⟨gb197, 1, none⟩) (Kd.R_far (p := ⟨gb197, 0, none⟩) (Kd.R_types HO_9.out BK197.out (by decide)) (fun _ hk => hk.2) (.bool ((rd_T47 t184 x64_2).f0))) (fun _ hk => hk.2) (.slice A196_1 ((rd_T47 t184 x64_2).f1).length c196_1)) (fun _ hk => hk.2) (.slice A196_2 ((rd_T47 t184 x64_2).f2).length c196_2)) (fun _ h_ => h_.1))) hb); have n2_ := Aside0.mk (Kd.R_below (by (with_reducible repeat (first | apply Kd.R_alloc | apply Kd.R_drewN | apply Kd.R_drew)); exact (Kd.R_mono (Kd.R_far (p := ⟨gb197, 2, none⟩) (Kd.R_far (p := ⟨gb197, 1, none⟩) (Kd.R_far (p := ⟨gb197, 0, none⟩) (Kd.R_types HO_39.out BK197.out (by decide)) (fun _ hk => hk.2) (.bool ((rd_T47 t184 x64_2).f0))) (fun _ hk => hk.2) (.slice A196_1 ((rd_T47 t184 x64_2).f1).length c196_1)) (fun _ hk => hk.2) (.slice A196_2 ((rd_T47 t184 x64_2).f2).length c196_2)) (fun _ h_ => h_.1))) hb); have n3_ := Aside0.mk (Kd.N_below (by (with_reducible repeat (first | apply Kd.N_alloc | apply Kd.N_drewN | apply Kd.N_drew)); exact (Kd.N_mono (Kd.N_far (p := ⟨gb197, 2, none⟩) (Kd.N_far (p := ⟨gb197, 1, none⟩) (Kd.N_far (p := ⟨gb197, 0, none⟩) (Kd.N_mono HO_62.out (fun k_ hk => (⟨hk, hk.2⟩ : _ ∧ k_ ≠ gb197))) (fun _ hk => hk.2) (.bool ((rd_T47 t184 x64_2).f0))) (fun _ hk => hk.2) (.slice A196_1 ((rd_T47 t184 x64_2).f1).length c196_1)) (fun _ hk => hk.2) (.slice A196_2 ((rd_T47 t184 x64_2).f2).length c196_2)) (fun _ h_ => h_.1))) hb); have n4_ := Aside0.mk (Kd.V_below (by (with_reducible repeat (first | apply Kd.V_alloc | apply Kd.V_drewN | apply Kd.V_drew)); exact (Kd.V_mono (Kd.V_far (p := ⟨gb197, 2, none⟩) (Kd.V_far (p := ⟨gb197, 1, none⟩) (Kd.V_far (p := ⟨gb197, 0, none⟩) (Kd.V_mono HL196_1.out (fun k_ hk => (⟨hk, hk.2⟩ : _ ∧ k_ ≠ gb197))) (fun _ hk => hk.2) (.bool ((rd_T47 t184 x64_2).f0))) (fun _ hk => hk.2) (.slice A196_1 ((rd_T47 t184 x64_2).f1).length c196_1)) (fun _ hk => hk.2) (.slice A196_2 ((rd_T47 t184 x64_2).f2).length c196_2)) (fun _ h_ => h_.1))) hb); have n5_ := Aside0.mk (Kd.V_below (by (with_reducible repeat (first | apply Kd.V_alloc | apply Kd.V_drewN | apply Kd.V_drew)); exact (Kd.V_mono (Kd.V_far (p := ⟨gb197, 2, none⟩) (Kd.V_far (p := ⟨gb197, 1, none⟩) (Kd.V_far (p := ⟨gb197, 0, none⟩) (Kd.V_mono HL196_2.out (fun k_ hk => (⟨hk, hk.2⟩ : _ ∧ k_ ≠ gb197))) (fun _ hk => hk.2) (.bool ((rd_T47 t184 x64_2).f0))) (fun _ hk => hk.2) (.slice A196_1 ((rd_T47 t184 x64_2).f1).length c196_1)) (fun _ hk => hk.2) (.slice A196_2 ((rd_T47 t184 x64_2).f2).length c196_2)) (fun _ h_ => h_.1))) hb); have n6_ := Aside0.mk (blk_below (g := gb182) (o := .cells #[.int .i64 a2_0, .int .i64 a2_1] 38 (0, 0)) (by (with_reducible repeat (first | refine blk_drewN ?_ _ | refine blk_drew ?_ | refine blk_alloc ?_ _)); refine blk_far ?_ NB182_197.out _; (with_reducible repeat (first | refine blk_drewN ?_ _ | refine blk_drew ?_ | refine blk_alloc ?_ _)); refine blk_far ?_ NB182_197.out _; (with_reducible repeat (first | refine blk_drewN ?_ _ | refine blk_drew ?_ | refine blk_alloc ?_ _)); refine blk_far ?_ NB182_197.out _; (with_reducible repeat (first | refine blk_drewN ?_ _ | refine blk_drew ?_ | refine blk_alloc ?_ _)); exact BK182.out) hb); have n7_ := Aside0.mk (blk_below (g := gb192) (o := .cells #[.int .i64 ((rd_T38 t188 x41_1).f0), .int .i64 ((rd_T38 t188 x41_1).f1)] 38 (0, 0)) (by (with_reducible repeat (first | refine blk_drewN ?_ _ | refine blk_drew ?_ | refine blk_alloc ?_ _)); refine blk_far ?_ NB192_197.out _; (with_reducible repeat (first | refine blk_drewN ?_ _ | refine blk_drew ?_ | refine blk_alloc ?_ _)); refine blk_far ?_ NB192_197.out _; (with_reducible repeat (first | refine blk_drewN ?_ _ | refine blk_drew ?_ | refine blk_alloc ?_ _)); refine blk_far ?_ NB192_197.out _; (with_reducible repeat (first | refine blk_drewN ?_ _ | refine blk_drew ?_ | refine blk_alloc ?_ _)); exact BK192.out) hb); have n8_ := Aside0.mk (Kd.C_below ((Kd.V_reads' (by (with_reducible repeat (first | apply Kd.V_alloc | apply Kd.V_drewN | apply Kd.V_drew)); exact (Kd.V_mono (Kd.V_far (p := ⟨gb197, 2, none⟩) (Kd.V_far (p := ⟨gb197, 1, none⟩) (Kd.V_far (p := ⟨gb197, 0, none⟩) (Kd.V_mono HL196_1.out (fun k_ hk => (⟨hk, hk.2⟩ : _ ∧ k_ ≠ gb197))) (fun _ hk => hk.2) (.bool ((rd_T47 t184 x64_2).f0))) (fun _ hk => hk.2) (.slice A196_1 ((rd_T47 t184 x64_2).f1).length c196_1)) (fun _ hk => hk.2) (.slice A196_2 ((rd_T47 t184 x64_2).f2).length c196_2)) (fun _ h_ => h_.1)))).2.2) hb); have n9_ := Aside0.mk (Kd.C_below ((Kd.V_reads' (by (with_reducible repeat (first | apply Kd.V_alloc | apply Kd.V_drewN | apply Kd.V_drew)); exact (Kd.V_mono (Kd.V_far (p := ⟨gb197, 2, none⟩) (Kd.V_far (p := ⟨gb197, 1, none⟩) (Kd.V_far (p := ⟨gb197, 0, none⟩) (Kd.V_mono HL196_2.out (fun k_ hk => (⟨hk, hk.2⟩ : _ ∧ k_ ≠ gb197))) (fun _ hk => hk.2) (.bool ((rd_T47 t184 x64_2).f0))) (fun _ hk => hk.2) (.slice A196_1 ((rd_T47 t184 x64_2).f1).length c196_1)) (fun _ hk => hk.2) (.slice A196_2 ((rd_T47 t184 x64_2).f2).length c196_2)) (fun _ h_ => h_.1)))).2.2) hb); have n10_ := Aside0.mk (blk_below (g := gb197) (o := .cells #[.bool ((rd_T47 t184 x64_2).f0), .slice A196_1 ((rd_T47 t184 x64_2).f1).length c196_1, .slice A196_2 ((rd_T47 t184 x64_2).f2).length c196_2] 47 (0, 0)) (by (with_reducible repeat (first | refine blk_drewN ?_ _ | refine blk_drew ?_ | refine blk_alloc ?_ _)); refine blk_put (cs := #[.bool ((rd_T47 t184 x64_2).f0), .slice A196_1 ((rd_T47 t184 x64_2).f1).length c196_1, .slice none 0 0]) ?_ 2 _ rfl; (with_reducible repeat (first | refine blk_drewN ?_ _ | refine blk_drew ?_ | refine blk_alloc ?_ _)); refine blk_put (cs := #[.bool ((rd_T47 t184 x64_2).f0), .slice none 0 0, .slice none 0 0]) ?_ 1 _ rfl; (with_reducible repeat (first | refine blk_drewN ?_ _ | refine blk_drew ?_ | refine blk_alloc ?_ _)); refine blk_put (cs := #[.bool false, .slice none 0 0, .slice none 0 0]) ?_ 0 _ rfl; (with_reducible repeat (first | refine blk_drewN ?_ _ | refine blk_drew ?_ | refine blk_alloc ?_ _)); exact BK197.out) hb); have n11_ := Aside0.mk (below_step (by repeat (first | (with_reducible first | exact HB.out | apply below_alloc | apply pw_below_drewN | apply below_drew1 | refine below_set ?_ GE182.out | refine below_set ?_ GE192.out | refine below_set ?_ GE197.out) | exact HB.out)) hb); clear HO_7; clear HO_9; clear HO_39; clear HO_62; clear HL196_1; clear HL196_2; clear BK182; clear BK192; clear HR196_1; clear HR196_2; clear BK197; clear HB; have HO_7 := n0_; have HO_9 := n1_; have HO_39 := n2_; have HO_62 := n3_; have HL196_1 := n4_; have HL196_2 := n5_; have BK182 := n6_; have BK192 := n7_; have HR196_1 := n8_; have HR196_2 := n9_; have BK197 := n10_; have HB := n11_; clear n0_ n1_ n2_ n3_ n4_ n5_ n6_ n7_ n8_ n9_ n10_ n11_; (try clear hb); (try clear hb2); (try clear hk); (try clear hi)))
                                go_roundg k2
                                case measure => have := HK1.out; have := HK2.out; omega
                                case rel => exact ⟨(t198), (wrap64 (x64_2 + 1)), (by first | rfl | (simp; done) | (simp [*]; done)), (by first | rfl | (simp; done) | (simp [*]; done)), H', ⟨by have := HK1.out; have := HK2.out; omega⟩, ⟨by (with_reducible repeat (first | apply Kd.N_alloc | apply Kd.N_drewN | apply Kd.N_drew)); exact Kd.N_mono HO_7.out (fun _ hk => ⟨hk.1.1, ⟨hk.1.2.1, ⟨hk.1.2.2.1, hk.1.2.2.2⟩⟩⟩)⟩, ⟨by (with_reducible repeat (first | apply Kd.R_alloc | apply Kd.R_drewN | apply Kd.R_drew)); exact HO_9.out⟩, ⟨by (with_reducible repeat (first | apply Kd.R_alloc | apply Kd.R_drewN | apply Kd.R_drew)); exact HO_39.out⟩, ⟨by (with_reducible repeat (first | apply Kd.N_alloc | apply Kd.N_drewN | apply Kd.N_drew)); exact Kd.N_mono HO_62.out (fun _ hk => ⟨hk.1.1, ⟨hk.1.2.1, ⟨hk.1.2.2.1, hk.1.2.2.2⟩⟩⟩)⟩, ⟨by (with_reducible repeat (first | refine blk_drewN ?_ _ | refine blk_drew ?_ | refine blk_alloc ?_ _)); exact BK182.out⟩, ⟨by (with_reducible repeat (first | refine blk_drewN ?_ _ | refine blk_drew ?_ | refine blk_alloc ?_ _)); exact BK192.out⟩, ⟨by repeat (first | (with_reducible first | exact HB.out | apply below_alloc | apply pw_below_drewN | apply below_drew1 | refine below_set ?_ GE182.out | refine below_set ?_ GE192.out | refine below_set ?_ GE197.out) | exact HB.out)⟩⟩
                            · rw [if_neg c71] at H
                              exact absurd H (by simp)
                          · rw [if_neg c70] at H
                            exact absurd H (by simp)
                        · rw [if_neg c69] at H
                          have c69b0 : decide (x64_2 < (t184.length : Int)) = false := decide_eq_false c69
                          clear c69
                          by_cases c85 : x12_2 = true
                          · subst c85
                            have H1 : (kissgatelaw17_SpreadAll.l0 k2 l0 l1 t184 t188 t188 (t188.length : Int) (wrap64 (x41_1 + 1)) a2_0 a2_1) = some r := by rw [if_pos rfl] at H; exact H
                            clear H
                            have H := H1
                            clear H1
                            have H' := Aside0.mk H
                            clear H
                            go_wp2
                            go_roundg k2
                            case measure => have := HK1.out; have := HK2.out; omega
                            case rel => exact ⟨(wrap64 (x41_1 + 1)), (by first | rfl | (simp; done) | (simp [*]; done)), H', ⟨by have := HK1.out; have := HK2.out; omega⟩, ⟨by (with_reducible repeat (first | apply Kd.N_alloc | apply Kd.N_drewN | apply Kd.N_drew)); exact Kd.N_mono HO_7.out (fun _ hk => ⟨hk.1, ⟨hk.2.1, hk.2.2.1⟩⟩)⟩, ⟨by (with_reducible repeat (first | apply Kd.R_alloc | apply Kd.R_drewN | apply Kd.R_drew)); exact Kd.R_mono HO_9.out (fun _ hk => hk.1)⟩, ⟨by (with_reducible repeat (first | apply Kd.R_alloc | apply Kd.R_drewN | apply Kd.R_drew)); exact Kd.R_mono HO_39.out (fun _ hk => hk.1)⟩, ⟨by (with_reducible repeat (first | refine blk_drewN ?_ _ | refine blk_drew ?_ | refine blk_alloc ?_ _)); exact BK182.out⟩, ⟨by repeat (first | (with_reducible first | exact HB.out | apply below_alloc | apply pw_below_drewN | apply below_drew1 | refine below_set ?_ GE182.out | refine below_set ?_ GE192.out) | exact HB.out)⟩⟩
                          · replace c85 := Bool.eq_false_iff.mpr c85
                            subst c85
                            have H1 : (some false) = some r := by rw [if_neg (show ¬ (false = true) by decide)] at H; exact H
                            clear H
                            have H := H1
                            clear H1
                            exact absurd (Option.some.inj H) (by rw [HRT.out]; decide)
                · rw [if_neg c20] at H
                  exact absurd H (by simp)
              · rw [if_neg c19] at H
                exact absurd H (by simp)
            · rw [if_neg c18] at H
              have c18b0 : decide (x41_1 < (t188.length : Int)) = false := decide_eq_false c18
              clear c18
              have H' := Aside0.mk H
              clear H
              obtain ⟨Ao86, co86, eo86⟩ := Kd.N_slice HO_7.out
              subst eo86
              go_wp2
              go_loopg [15, 80] k1 (fun kq v15 v80 w' => ∃ (x15_2 : List Int) (x80_2 : Int), v80 = .int .i64 x80_2 ∧ Aside0 (kissgatelaw17_SpreadAll.l2 kq l0 l1 t188 x15_2 t184 (t184.length : Int) x80_2 a2_0 a2_1 = some r) ∧ Aside0 (kq ≤ k1) ∧ Aside0 (Kd.R k38 38 w' w.heap.size (fun k_ => k_ ≠ gb182) (.slice Ao17 t188.length co17) t188) ∧ Aside0 (Kd.R (Kd.int .i64) 3 w' w.heap.size (fun _ => True) v15 x15_2) ∧ Aside0 (Kd.N k47 47 w' w.heap.size (fun k_ => some k_ ≠ ((.slice Ao17 t188.length co17) : Value).ownBlock ∧ some k_ ≠ (v15 : Value).ownBlock ∧ k_ ≠ gb182) (.slice Ao86 t184.length co86) t184) ∧ Aside0 (w'.heap[gb182]? = some (.cells #[.int .i64 a2_0, .int .i64 a2_1] 38 (0, 0))) ∧ Aside0 (Below w.heap.size w w'))
              case atStart => exact ⟨(([] : List Int)), (0), (by first | rfl | (simp; done) | (simp [*]; done)), H', ⟨Nat.le_refl _⟩, ⟨by (with_reducible repeat (first | apply Kd.R_alloc | apply Kd.R_drewN | apply Kd.R_drew)); exact HO_9.out⟩, ⟨by first | exact Kd.R_nil _ _ _ _ _ | exact Kd.N_nil _ _ _ _ _ | exact Kd.V_nil _ _ _ _ _ | exact Kd.Q_nil _ _ _ _ _ | exact Kd.S_nil _ _ _ _ _⟩, ⟨by (with_reducible repeat (first | apply Kd.N_alloc | apply Kd.N_drewN | apply Kd.N_drew)); exact Kd.N_mono HO_7.out (fun _ hk => ⟨hk.1, ⟨(by simp [Value.ownBlock]), hk.2.2⟩⟩)⟩, ⟨by (with_reducible repeat (first | refine blk_drewN ?_ _ | refine blk_drew ?_ | refine blk_alloc ?_ _)); exact BK182.out⟩, ⟨by repeat (first | (with_reducible first | exact HB.out | apply below_alloc | apply pw_below_drewN | apply below_drew1 | refine below_set ?_ GE182.out) | exact HB.out)⟩⟩
              case round =>
                clear H'
                try clear c1
                try clear p1
                try clear q1
                try clear hx1
                try clear c2
                try clear p2
                try clear c3
                try clear c4
                try clear c5
                try clear c6
                try clear p6
                try clear c7
                try clear c8
                try clear c8b0
                try clear c8b1
                try clear c13
                try clear c18
                try clear c18b0
                try clear c19
                try clear c19b0
                try clear p19
                try clear q19
                try clear hx19
                try clear c20
                try clear c20b0
                try clear c21
                try clear c21b0
                try clear c23
                try clear c23b0
                try clear c24
                try clear c24b0
                try clear c26
                try clear c29
                try clear c33
                try clear c34
                try clear c35
                try clear c37
                try clear c37b0
                try clear c38
                try clear c38b0
                try clear c39
                try clear c39b0
                try clear c40
                try clear c42
                try clear c43
                try clear c47
                try clear c48
                try clear c50
                try clear c53
                try clear c55
                try clear c62
                try clear p64
                try clear c69
                try clear c69b0
                try clear c70
                try clear c70b0
                try clear c71
                try clear c71b0
                try clear c72
                try clear c74
                try clear c75
                try clear c79
                try clear c80
                try clear c82
                try clear c85
                try clear hcz30_0
                try clear hcz30_1
                try clear hcz34_0
                try clear hcz34_1
                try clear hcz44_0
                try clear hcz44_1
                try clear hcz44_2
                try clear hcz49_0
                try clear hcz49_1
                try clear hcz49_2
                try clear hcz51_0
                try clear hcz51_1
                try clear hcz56_0
                try clear hcz56_1
                try clear hcz63_0
                try clear hcz63_1
                try clear hcz66_0
                try clear hcz66_1
                try clear hcz76_0
                try clear hcz76_1
                try clear hcz76_2
                try clear hcz81_0
                try clear hcz81_1
                try clear hcz81_2
                try clear hcz83_0
                try clear hcz83_1
                try clear hfz30_0
                try clear hfz30_1
                try clear hfz34_0
                try clear hfz34_1
                try clear hfz44_0
                try clear hfz44_1
                try clear hfz44_2
                try clear hfz49_0
                try clear hfz49_1
                try clear hfz49_2
                try clear hfz51_0
                try clear hfz51_1
                try clear hfz56_0
                try clear hfz56_1
                try clear hfz63_0
                try clear hfz63_1
                try clear hfz66_0
                try clear hfz66_1
                try clear hfz76_0
                try clear hfz76_1
                try clear hfz76_2
                try clear hfz81_0
                try clear hfz81_1
                try clear hfz81_2
                try clear hfz83_0
                try clear hfz83_1
                try clear hx191_0
                try clear hx191_1
                try clear hx193_0
                try clear hx193_1
                try clear hx196_0
                try clear hx196_1
                try clear hx196_2
                try clear p1
                try clear p19
                try clear p191
                try clear p193
                try clear p196
                try clear p2
                try clear p6
                try clear p64
                try clear q1
                try clear q19
                try clear q191
                try clear q193
                try clear q196
                obtain ⟨x15_2, x80_2, rfl, HA, HK2, HO_9, HO_15, HO_78, BK182, HB⟩ := hrel
                cases gk with
                | zero => exact absurd HA.out (by simp [kissgatelaw17_SpreadAll.l2])
                | succ k2 =>
                  have H := HA.out
                  clear HA
                  simp only [kissgatelaw17_SpreadAll.l2] at H
                  by_cases c87 : x80_2 < (t184.length : Int)
                  · rw [if_pos c87] at H
                    have c87b0 : decide (x80_2 < (t184.length : Int)) = true := decide_eq_true c87
                    clear c87
                    by_cases c88 : 0 ≤ x80_2
                    · rw [if_pos c88] at H
                      have c88b0 : decide (0 ≤ x80_2) = true := decide_eq_true c88
                      clear c88
                      by_cases c89 : x80_2 < (t184.length : Int)
                      · rw [if_pos c89] at H
                        have c89b0 : decide (x80_2 < (t184.length : Int)) = true := decide_eq_true c89
                        clear c89
                        replace H := Option.bind_eq_some_iff.mp H
                        obtain ⟨t202, A900, H⟩ := H
                        replace H : (if t202 = true then (if x15_2.length < 17592186044416 then (kissgatelaw17_SpreadAll.l3 k2 l0 l1 t188 (x15_2 ++ [x80_2]) t184 (t184.length : Int) x80_2 ((rd_T47 t184 x80_2).f1) (((rd_T47 t184 x80_2).f1).length : Int) 0 a2_0 a2_1) else (none)) else (kissgatelaw17_SpreadAll.l3 k2 l0 l1 t188 x15_2 t184 (t184.length : Int) x80_2 ((rd_T47 t184 x80_2).f1) (((rd_T47 t184 x80_2).f1).length : Int) 0 a2_0 a2_1)) = some r := H
                        have A90 := Aside0.mk A900
                        clear A900
                        by_cases c91 : t202 = true
                        · subst c91
                          have H1 : (if x15_2.length < 17592186044416 then (kissgatelaw17_SpreadAll.l3 k2 l0 l1 t188 (x15_2 ++ [x80_2]) t184 (t184.length : Int) x80_2 ((rd_T47 t184 x80_2).f1) (((rd_T47 t184 x80_2).f1).length : Int) 0 a2_0 a2_1) else (none)) = some r := by rw [if_pos rfl] at H; exact H
                          clear H
                          have H := H1
                          clear H1
                          by_cases c92 : x15_2.length < 17592186044416
                          · rw [if_pos c92] at H
                            have LMc92 := Aside0.mk c92
                            clear c92
                            obtain ⟨y203, hy203⟩ : ∃ y_ : List Int, y_ = (x15_2 ++ [x80_2]) := ⟨_, rfl⟩
                            replace H : (kissgatelaw17_SpreadAll.l3 k2 l0 l1 t188 y203 t184 (t184.length : Int) x80_2 ((rd_T47 t184 x80_2).f1) (((rd_T47 t184 x80_2).f1).length : Int) 0 a2_0 a2_1) = some r := by first | (rw [hy203]; with_reducible exact H) | (have H2_ := (Option.bind_some _ _).symm.trans H; rw [hy203]; with_reducible exact H2_) | (have H2_ := (Option.bind_some _ _).symm.trans H; with_reducible exact H2_) | with_reducible exact H | (rw [hy203]; exact H) | exact H
                            have Ny203 := Aside0.mk hy203
                            clear hy203
                            have H' := Aside0.mk H
                            clear H
                            have p200 : 0 ≤ (x80_2 : Int) := of_decide_eq_true (by first | (with_reducible assumption) | assumption)
                            have q200 : x80_2 < (t184.length : Int) := of_decide_eq_true (by first | (with_reducible assumption) | assumption)
                            obtain ⟨ad200, A200_1, c200_1, A200_2, c200_2, e200, hx200_0, hx200_1, hx200_2, hl200_1, hi200_1, hl200_2, hi200_2⟩ := at_T47 (Kd.N_reads' HO_78.out).2.2 x80_2 p200 q200
                            cases e200
                            obtain ⟨ce200, hce200, hMe200, hcc200⟩ := Kd.N_get HO_78.out z47 x80_2 p200 (by first | exact q200 | exact of_decide_eq_true (by first | (with_reducible assumption) | assumption) | (have e_ := (Kd.N_reads' HO_78.out).1; omega))
                            obtain ⟨ua200_1, uc200_1, ua200_2, uc200_2, rfl, ul200_1, ge200_1, ul200_2, ge200_2⟩ := k47_openF hMe200
                            have hv200_1 := hcc200 1 _ rfl
                            rw [add_field _ _ 1 (by omega)] at hv200_1
                            replace hv200_1 := Option.some.inj (hv200_1.symm.trans hx200_1)
                            injection hv200_1 with hva_ hvn_ hvc_
                            rw [hva_] at ge200_1
                            rw [hvc_] at ul200_1
                            have HL200_1 := Aside0.mk (show Kd.V k38 38 _ w.heap.size _ _ ((rd_T47 t184 x80_2).f1) from Kd.V_mk ul200_1 ge200_1)
                            clear hva_ hvn_ hvc_ ge200_1 ul200_1
                            have hv200_2 := hcc200 2 _ rfl
                            rw [add_field _ _ 2 (by omega)] at hv200_2
                            replace hv200_2 := Option.some.inj (hv200_2.symm.trans hx200_2)
                            injection hv200_2 with hva_ hvn_ hvc_
                            rw [hva_] at ge200_2
                            rw [hvc_] at ul200_2
                            have HL200_2 := Aside0.mk (show Kd.V (Kd.int .i64) 3 _ w.heap.size _ _ ((rd_T47 t184 x80_2).f2) from Kd.V_mk ul200_2 ge200_2)
                            clear hva_ hvn_ hvc_ ge200_2 ul200_2
                            clear hcc200 hce200
                            have HR200_1 := Aside0.mk hi200_1
                            have HC200_1 := Aside0.mk hl200_1
                            clear hi200_1 hl200_1
                            have HR200_2 := Aside0.mk hi200_2
                            have HC200_2 := Aside0.mk hl200_2
                            clear hi200_2 hl200_2
                            replace p200 := eq_true p200
                            replace q200 := eq_true q200
                            go_wp2_with (first | ((with_reducible refine gate_dst (N := 17) rfl ?_); (try (refine gate_guard (by rfl) ?_; dsimp only)); refine box_event ?hg (N := 17) ?hd (cs := #[.bool false, .slice none 0 0, .slice none 0 0]) (t := 47) ?hr ?_; (case hd => rfl); (case hg => rfl); (case hr => first | (go_simp; done) | (go_simp; rfl)); intro gb201 hg w93 hbox hb; have n0_ := Aside0.mk (Kd.R_below (by (with_reducible repeat (first | apply Kd.R_alloc | apply Kd.R_drewN | apply Kd.R_drew)); exact HO_9.out) hb); have n1_ := Aside0.mk (Kd.R_below (by (with_reducible repeat (first | apply Kd.R_alloc | apply Kd.R_drewN | apply Kd.R_drew)); exact HO_15.out) hb); have n2_ := Aside0.mk (Kd.N_below (Kd.N_elderB (by (with_reducible repeat (first | apply Kd.N_alloc | apply Kd.N_drewN | apply Kd.N_drew)); exact HO_78.out) gb201 (Nat.le_of_eq hg.symm)) hb); have n3_ := Aside0.mk (Kd.V_below (Kd.V_elderB (by (with_reducible repeat (first | apply Kd.V_alloc | apply Kd.V_drewN | apply Kd.V_drew)); exact HL200_1.out) gb201 (Nat.le_of_eq hg.symm)) hb); have n4_ := Aside0.mk (Kd.V_below (Kd.V_elderB (by (with_reducible repeat (first | apply Kd.V_alloc | apply Kd.V_drewN | apply Kd.V_drew)); exact HL200_2.out) gb201 (Nat.le_of_eq hg.symm)) hb); have n5_ := Aside0.mk (blk_below (g := gb182) (o := .cells #[.int .i64 a2_0, .int .i64 a2_1] 38 (0, 0)) (by (with_reducible repeat (first | refine blk_drewN ?_ _ | refine blk_drew ?_ | refine blk_alloc ?_ _)); exact BK182.out) hb); have n6_ := Aside0.mk (Kd.C_below (by repeat (first | (with_reducible exact HR200_1.out) | (with_reducible refine Kd.C_alloc ?_ _) | (with_reducible refine Kd.C_drewN ?_ _) | (with_reducible refine Kd.C_drew ?_) | exact HR200_1.out)) hb); have n7_ := Aside0.mk (Kd.C_below (by repeat (first | (with_reducible exact HR200_2.out) | (with_reducible refine Kd.C_alloc ?_ _) | (with_reducible refine Kd.C_drewN ?_ _) | (with_reducible refine Kd.C_drew ?_) | exact HR200_2.out)) hb); have n8_ := Aside0.mk (below_step (by repeat (first | (with_reducible first | exact HB.out | apply below_alloc | apply pw_below_drewN | apply below_drew1 | refine below_set ?_ GE182.out) | exact HB.out)) hb); have n9_ := Aside0.mk (hbox); have n10_ := Aside0.mk ((by rw [hg]; exact (below_size (by repeat (first | (with_reducible first | exact HB.out | apply below_alloc | apply pw_below_drewN | apply below_drew1 | refine below_set ?_ GE182.out) | exact HB.out))) : w.heap.size ≤ gb201)); have n11_ := Aside0.mk ((by rw [hg]; exact (below_size (by repeat (first | (with_reducible first | exact HB.out | apply below_alloc | apply pw_below_drewN | apply below_drew1 | refine below_set ?_ GE182.out) | exact HB.out))) : w.heap.size ≤ gb201)); have n12_ := Aside0.mk ((by rw [hg]; exact Nat.ne_of_lt (blk_lt (g := gb182) (o := .cells #[.int .i64 a2_0, .int .i64 a2_1] 38 (0, 0)) (by (with_reducible repeat (first | refine blk_drewN ?_ _ | refine blk_drew ?_ | refine blk_alloc ?_ _)); exact BK182.out)) : gb182 ≠ gb201)); have n13_ := Aside0.mk ((by rw [hg]; exact Nat.ne_of_gt (blk_lt (g := gb182) (o := .cells #[.int .i64 a2_0, .int .i64 a2_1] 38 (0, 0)) (by (with_reducible repeat (first | refine blk_drewN ?_ _ | refine blk_drew ?_ | refine blk_alloc ?_ _)); exact BK182.out)) : gb201 ≠ gb182)); clear HO_9; clear HO_15; clear HO_78; clear HL200_1; clear HL200_2; clear BK182; clear HR200_1; clear HR200_2; clear HB; have HO_9 := n0_; have HO_15 := n1_; have HO_78 := n2_; have HL200_1 := n3_; have HL200_2 := n4_; have BK182 := n5_; have HR200_1 := n6_; have HR200_2 := n7_; have HB := n8_; have BK201 := n9_; have GW201 := n10_; have GE201 := n11_; have NB182_201 := n12_; have NB201_182 := n13_; clear n0_ n1_ n2_ n3_ n4_ n5_ n6_ n7_ n8_ n9_ n10_ n11_ n12_ n13_; clear hb hbox hg; have hnb94 := NB201_182.out; have hnc94 := NB182_201.out; have hcz95_0 : w93.cell? ⟨gb201, 0, none⟩ = some (.bool false) := (blk_cell BK201.out 0).trans rfl; have hcz95_1 : w93.cell? ⟨gb201, 1, none⟩ = some (.slice none 0 0) := (blk_cell BK201.out 1).trans rfl; have hcz95_2 : w93.cell? ⟨gb201, 2, none⟩ = some (.slice none 0 0) := (blk_cell BK201.out 2).trans rfl; have hfz95_0 := blk_frozen BK201.out 0; have hfz95_1 := blk_frozen BK201.out 1; have hfz95_2 := blk_frozen BK201.out 2; have hcz96_0 : w93.cell? ⟨gb182, 0, none⟩ = some (.int .i64 a2_0) := (blk_cell BK182.out 0).trans rfl; have hcz96_1 : w93.cell? ⟨gb182, 1, none⟩ = some (.int .i64 a2_1) := (blk_cell BK182.out 1).trans rfl; have hfz96_0 := blk_frozen BK182.out 0; have hfz96_1 := blk_frozen BK182.out 1) | ((with_reducible refine gate_callee (f := 35) rfl ?_); refine goesL_ (some 87) rfl rfl Try.func35 (by kernel_rfl) rfl #[.agg #[.bool ((rd_T47 t184 x80_2).f0), .slice A200_1 ((rd_T47 t184 x80_2).f1).length c200_1, .slice A200_2 ((rd_T47 t184 x80_2).f2).length c200_2], .agg #[.int .i64 a2_0, .int .i64 a2_1]] rfl (by (try simp only [List.map_toArray, List.map_cons, List.map_nil]); first | done | rfl | (simp only [List.length_drop, List.length_take]; rfl)) ?_; (with_reducible refine (kissgateref17_Has.calls k2 ((rd_T47 t184 x80_2).f0) _ _ ((rd_T47 t184 x80_2).f1) _ _ ((rd_T47 t184 x80_2).f2) a2_0 a2_1 true _ ?side1 ?side2 ?side3 ?side4 A90.out).mono ?_); (case side1 => repeat (first | exact ((Kd.V_reads' (by (with_reducible repeat (first | apply Kd.V_alloc | apply Kd.V_drewN | apply Kd.V_drew)); exact (Kd.V_mono (Kd.V_far (p := ⟨gb201, 2, none⟩) (Kd.V_far (p := ⟨gb201, 1, none⟩) (Kd.V_far (p := ⟨gb201, 0, none⟩) (Kd.V_mono HL200_1.out (fun k_ hk => (⟨hk, hk.2⟩ : _ ∧ k_ ≠ gb201))) (fun _ hk => hk.2) (.bool ((rd_T47 t184 x80_2).f0))) (fun _ hk => hk.2) (.slice A200_1 ((rd_T47 t184 x80_2).f1).length c200_1)) (fun _ hk => hk.2) (.slice A200_2 ((rd_T47 t184 x80_2).f2).length c200_2)) (fun _ h_ => h_.1)))).2.2) | (with_reducible refine Kd.C_alloc ?_ _) | (with_reducible refine Kd.C_drewN ?_ _) | (with_reducible refine Kd.C_drew ?_))); (case side2 => exact HC200_1.out); (case side3 => repeat (first | exact ((Kd.V_reads' (by (with_reducible repeat (first | apply Kd.V_alloc | apply Kd.V_drewN | apply Kd.V_drew)); exact (Kd.V_mono (Kd.V_far (p := ⟨gb201, 2, none⟩) (Kd.V_far (p := ⟨gb201, 1, none⟩) (Kd.V_far (p := ⟨gb201, 0, none⟩) (Kd.V_mono HL200_2.out (fun k_ hk => (⟨hk, hk.2⟩ : _ ∧ k_ ≠ gb201))) (fun _ hk => hk.2) (.bool ((rd_T47 t184 x80_2).f0))) (fun _ hk => hk.2) (.slice A200_1 ((rd_T47 t184 x80_2).f1).length c200_1)) (fun _ hk => hk.2) (.slice A200_2 ((rd_T47 t184 x80_2).f2).length c200_2)) (fun _ h_ => h_.1)))).2.2) | (with_reducible refine Kd.C_alloc ?_ _) | (with_reducible refine Kd.C_drewN ?_ _) | (with_reducible refine Kd.C_drew ?_))); (case side4 => exact HC200_2.out); rintro e w97 ⟨rfl, hb⟩; refine ⟨_, rfl, ?_⟩; have n0_ := Aside0.mk (Kd.R_below (by (with_reducible repeat (first | apply Kd.R_alloc | apply Kd.R_drewN | apply Kd.R_drew)); exact (Kd.R_mono (Kd.R_far (p := ⟨gb201, 2, none⟩) (Kd.R_far (p := ⟨gb201, 1, none⟩) (Kd.R_far (p := ⟨gb201, 0, none⟩) (Kd.R_types HO_9.out BK201.out (by decide)) (fun _ hk => hk.2) (.bool ((rd_T47 t184 x80_2).f0))) (fun _ hk => hk.2) (.slice A200_1 ((rd_T47 t184 x80_2).f1).length c200_1)) (fun _ hk => hk.2) (.slice A200_2 ((rd_T47 t184 x80_2).f2).length c200_2)) (fun _ h_ => h_.1))) hb); have n1_ := Aside0.mk (Kd.R_below (by (with_reducible repeat (first | apply Kd.R_alloc | apply Kd.R_drewN | apply Kd.R_drew)); exact (Kd.R_mono (Kd.R_far (p := ⟨gb201, 2, none⟩) (Kd.R_far (p := ⟨gb201, 1, none⟩) (Kd.R_far (p := ⟨gb201, 0, none⟩) (Kd.R_types HO_15.out BK201.out (by decide)) (fun _ hk => hk.2) (.bool ((rd_T47 t184 x80_2).f0))) (fun _ hk => hk.2) (.slice A200_1 ((rd_T47 t184 x80_2).f1).length c200_1)) (fun _ hk => hk.2) (.slice A200_2 ((rd_T47 t184 x80_2).f2).length c200_2)) (fun _ h_ => h_.1))) hb); have n2_ := Aside0.mk (Kd.N_below (by (with_reducible repeat (first | apply Kd.N_alloc | apply Kd.N_drewN | apply Kd.N_drew)); exact (Kd.N_mono (Kd.N_far (p := ⟨gb201, 2, none⟩) (Kd.N_far (p := ⟨gb201, 1, none⟩) (Kd.N_far (p := ⟨gb201, 0, none⟩) (Kd.N_mono HO_78.out (fun k_ hk => (⟨hk, hk.2⟩ : _ ∧ k_ ≠ gb201))) (fun _ hk => hk.2) (.bool ((rd_T47 t184 x80_2).f0))) (fun _ hk => hk.2) (.slice A200_1 ((rd_T47 t184 x80_2).f1).length c200_1)) (fun _ hk => hk.2) (.slice A200_2 ((rd_T47 t184 x80_2).f2).length c200_2)) (fun _ h_ => h_.1))) hb); have n3_ := Aside0.mk (Kd.V_below (by (with_reducible repeat (first | apply Kd.V_alloc | apply Kd.V_drewN | apply Kd.V_drew)); exact (Kd.V_mono (Kd.V_far (p := ⟨gb201, 2, none⟩) (Kd.V_far (p := ⟨gb201, 1, none⟩) (Kd.V_far (p := ⟨gb201, 0, none⟩) (Kd.V_mono HL200_1.out (fun k_ hk => (⟨hk, hk.2⟩ : _ ∧ k_ ≠ gb201))) (fun _ hk => hk.2) (.bool ((rd_T47 t184 x80_2).f0))) (fun _ hk => hk.2) (.slice A200_1 ((rd_T47 t184 x80_2).f1).length c200_1)) (fun _ hk => hk.2) (.slice A200_2 ((rd_T47 t184 x80_2).f2).length c200_2)) (fun _ h_ => h_.1))) hb); have n4_ := Aside0.mk (Kd.V_below (by (with_reducible repeat (first | apply Kd.V_alloc | apply Kd.V_drewN | apply Kd.V_drew)); exact (Kd.V_mono (Kd.V_far (p := ⟨gb201, 2, none⟩) (Kd.V_far (p := ⟨gb201, 1, none⟩) (Kd.V_far (p := ⟨gb201, 0, none⟩) (Kd.V_mono HL200_2.out (fun k_ hk => (⟨hk, hk.2⟩ : _ ∧ k_ ≠ gb201))) (fun _ hk => hk.2) (.bool ((rd_T47 t184 x80_2).f0))) (fun _ hk => hk.2) (.slice A200_1 ((rd_T47 t184 x80_2).f1).length c200_1)) (fun _ hk => hk.2) (.slice A200_2 ((rd_T47 t184 x80_2).f2).length c200_2)) (fun _ h_ => h_.1))) hb); have n5_ := Aside0.mk (blk_below (g := gb182) (o := .cells #[.int .i64 a2_0, .int .i64 a2_1] 38 (0, 0)) (by (with_reducible repeat (first | refine blk_drewN ?_ _ | refine blk_drew ?_ | refine blk_alloc ?_ _)); refine blk_far ?_ NB182_201.out _; (with_reducible repeat (first | refine blk_drewN ?_ _ | refine blk_drew ?_ | refine blk_alloc ?_ _)); refine blk_far ?_ NB182_201.out _; (with_reducible repeat (first | refine blk_drewN ?_ _ | refine blk_drew ?_ | refine blk_alloc ?_ _)); refine blk_far ?_ NB182_201.out _; (with_reducible repeat (first | refine blk_drewN ?_ _ | refine blk_drew ?_ | refine blk_alloc ?_ _)); exact BK182.out) hb); have n6_ := Aside0.mk (Kd.C_below ((Kd.V_reads' (by (with_reducible repeat (first | apply Kd.V_alloc | apply Kd.V_drewN | apply Kd.V_drew)); exact (Kd.V_mono (Kd.V_far (p := ⟨gb201, 2, none⟩) (Kd.V_far (p := ⟨gb201, 1, none⟩) (Kd.V_far (p := ⟨gb201, 0, none⟩) (Kd.V_mono HL200_1.out (fun k_ hk => (⟨hk, hk.2⟩ : _ ∧ k_ ≠ gb201))) (fun _ hk => hk.2) (.bool ((rd_T47 t184 x80_2).f0))) (fun _ hk => hk.2) (.slice A200_1 ((rd_T47 t184 x80_2).f1).length c200_1)) (fun _ hk => hk.2) (.slice A200_2 ((rd_T47 t184 x80_2).f2).length c200_2)) (fun _ h_ => h_.1)))).2.2) hb); have n7_ := Aside0.mk (Kd.C_below ((Kd.V_reads' (by (with_reducible repeat (first | apply Kd.V_alloc | apply Kd.V_drewN | apply Kd.V_drew)); exact (Kd.V_mono (Kd.V_far (p := ⟨gb201, 2, none⟩) (Kd.V_far (p := ⟨gb201, 1, none⟩) (Kd.V_far (p := ⟨gb201, 0, none⟩) (Kd.V_mono HL200_2.out (fun k_ hk => (⟨hk, hk.2⟩ : _ ∧ k_ ≠ gb201))) (fun _ hk => hk.2) (.bool ((rd_T47 t184 x80_2).f0))) (fun _ hk => hk.2) (.slice A200_1 ((rd_T47 t184 x80_2).f1).length c200_1)) (fun _ hk => hk.2) (.slice A200_2 ((rd_T47 t184 x80_2).f2).length c200_2)) (fun _ h_ => h_.1)))).2.2) hb); have n8_ := Aside0.mk (blk_below (g := gb201) (o := .cells #[.bool ((rd_T47 t184 x80_2).f0), .slice A200_1 ((rd_T47 t184 x80_2).f1).length c200_1, .slice A200_2 ((rd_T47 t184 x80_2).f2).length c200_2] 47 (0, 0)) (by (with_reducible repeat (first | refine blk_drewN ?_ _ | refine blk_drew ?_ | refine blk_alloc ?_ _)); refine blk_put (cs := #[.bool ((rd_T47 t184 x80_2).f0), .slice A200_1 ((rd_T47 t184 x80_2).f1).length c200_1, .slice none 0 0]) ?_ 2 _ rfl; (with_reducible repeat (first | refine blk_drewN ?_ _ | refine blk_drew ?_ | refine blk_alloc ?_ _)); refine blk_put (cs := #[.bool ((rd_T47 t184 x80_2).f0), .slice none 0 0, .slice none 0 0]) ?_ 1 _ rfl; (with_reducible repeat (first | refine blk_drewN ?_ _ | refine blk_drew ?_ | refine blk_alloc ?_ _)); refine blk_put (cs := #[.bool false, .slice none 0 0, .slice none 0 0]) ?_ 0 _ rfl; (with_reducible repeat (first | refine blk_drewN ?_ _ | refine blk_drew ?_ | refine blk_alloc ?_ _)); exact BK201.out) hb); have n9_ := Aside0.mk (below_step (by repeat (first | (with_reducible first | exact HB.out | apply below_alloc | apply pw_below_drewN | apply below_drew1 | refine below_set ?_ GE182.out | refine below_set ?_ GE201.out) | exact HB.out)) hb); clear HO_9; clear HO_15; clear HO_78; clear HL200_1; clear HL200_2; clear BK182; clear HR200_1; clear HR200_2; clear BK201; clear HB; have HO_9 := n0_; have HO_15 := n1_; have HO_78 := n2_; have HL200_1 := n3_; have HL200_2 := n4_; have BK182 := n5_; have HR200_1 := n6_; have HR200_2 := n7_; have BK201 := n8_; have HB := n9_; clear n0_ n1_ n2_ n3_ n4_ n5_ n6_ n7_ n8_ n9_; (try clear hb); (try clear hb2); (try clear hk); (try clear hi)) | ((with_reducible refine gate_builtin (b := .append) (xs := #[.tmp 88, .tmp 90]) rfl ?_); (try (refine gate_guard (by rfl) ?_; dsimp only)); at_builtin; refine Kd.R_append (Kd.int .i64) (w0 := w) w.heap.size rfl (.tmp 88) (.tmp 90) 24 3 (.int .i64 0) 8 rfl Try.underlying24 info3 rfl (by decide) (by omega) u15 x15_2 x80_2 [.int .i64 x80_2] (fun _ => True) (fun _ => False) rfl rfl ?aP (fun _ hk => hk.elim) ?aF ?aO ?aB ?aS ?aL ?_; (case aP => exact rfl); (case aB => exact (by repeat (first | (with_reducible first | exact HB.out | apply below_alloc | apply pw_below_drewN | apply below_drew1 | refine below_set ?_ GE182.out | refine below_set ?_ GE201.out) | exact HB.out))); (case aF => exact (fun _ _ => trivial)); (case aO => exact (by (with_reducible repeat (first | apply Kd.R_alloc | apply Kd.R_drewN | apply Kd.R_drew)); exact HO_15.out)); (case aS => exact (below_size (by repeat (first | (with_reducible first | exact HB.out | apply below_alloc | apply pw_below_drewN | apply below_drew1 | refine below_set ?_ GE182.out | refine below_set ?_ GE201.out) | exact HB.out)))); (case aL => have := LMc92.out; omega); intro v204 w98 ho hb hg hat; rw [← Ny203.out] at ho; have n0_ := Aside0.mk (Kd.R_over' (by (with_reducible repeat (first | apply Kd.R_alloc | apply Kd.R_drewN | apply Kd.R_drew)); exact HO_9.out) (Kd.R_typed (by (with_reducible repeat (first | apply Kd.R_alloc | apply Kd.R_drewN | apply Kd.R_drew)); exact HO_15.out)) (by decide) hg); have n1_ := Aside0.mk (Kd.N_afterv (ok := (fun k_ => some k_ ≠ (.slice Ao17 t188.length co17 : Value).ownBlock ∧ k_ ≠ gb182 ∧ k_ ≠ gb201)) (by (with_reducible repeat (first | apply Kd.N_alloc | apply Kd.N_drewN | apply Kd.N_drew)); exact Kd.N_mono HO_78.out (fun _ hk => ⟨⟨hk.1.1, ⟨hk.1.2.2, hk.2⟩⟩, hk.1.2.1⟩)) hg hat); have n2_ := Aside0.mk (blk_grown (g := gb182) (o := .cells #[.int .i64 a2_0, .int .i64 a2_1] 38 (0, 0)) (by (with_reducible repeat (first | refine blk_drewN ?_ _ | refine blk_drew ?_ | refine blk_alloc ?_ _)); exact BK182.out) hg (Kd.R_ne HO_15.out BK182.out (by decide))); have n3_ := Aside0.mk (Kd.V_afterv (ok := (fun k_ => some k_ ≠ (.slice Ao17 t188.length co17 : Value).ownBlock ∧ some k_ ≠ (.slice (some ad200) t184.length co86 : Value).ownBlock ∧ k_ ≠ gb182 ∧ k_ ≠ gb201)) (by (with_reducible repeat (first | apply Kd.V_alloc | apply Kd.V_drewN | apply Kd.V_drew)); exact Kd.V_mono HL200_1.out (fun _ hk => ⟨⟨hk.1.1.1, ⟨hk.1.2, ⟨hk.1.1.2.2, hk.2⟩⟩⟩, hk.1.1.2.1⟩)) hg hat); have n4_ := Aside0.mk (Kd.V_afterv (ok := (fun k_ => some k_ ≠ (.slice Ao17 t188.length co17 : Value).ownBlock ∧ some k_ ≠ (.slice (some ad200) t184.length co86 : Value).ownBlock ∧ k_ ≠ gb182 ∧ k_ ≠ gb201)) (by (with_reducible repeat (first | apply Kd.V_alloc | apply Kd.V_drewN | apply Kd.V_drew)); exact Kd.V_mono HL200_2.out (fun _ hk => ⟨⟨hk.1.1.1, ⟨hk.1.2, ⟨hk.1.1.2.2, hk.2⟩⟩⟩, hk.1.1.2.1⟩)) hg hat); have n5_ := Aside0.mk (blk_grown (g := gb201) (o := .cells #[.bool ((rd_T47 t184 x80_2).f0), .slice A200_1 ((rd_T47 t184 x80_2).f1).length c200_1, .slice A200_2 ((rd_T47 t184 x80_2).f2).length c200_2] 47 (0, 0)) (by (with_reducible repeat (first | refine blk_drewN ?_ _ | refine blk_drew ?_ | refine blk_alloc ?_ _)); exact BK201.out) hg (Kd.R_ne HO_15.out BK201.out (by decide))); have n6_ := Aside0.mk (hb); have n7_ := Aside0.mk (ho); clear HO_9; clear HO_78; clear BK182; clear HL200_1; clear HL200_2; clear BK201; clear HB; clear HO_15; have HO_9 := n0_; have HO_78 := n1_; have BK182 := n2_; have HL200_1 := n3_; have HL200_2 := n4_; have BK201 := n5_; have HB := n6_; have HO205 := n7_; clear n0_ n1_ n2_ n3_ n4_ n5_ n6_ n7_; clear ho hb hg hat; have hcz99_0 : w98.cell? ⟨gb201, 0, none⟩ = some (.bool ((rd_T47 t184 x80_2).f0)) := (blk_cell BK201.out 0).trans rfl; have hcz99_1 : w98.cell? ⟨gb201, 1, none⟩ = some (.slice A200_1 ((rd_T47 t184 x80_2).f1).length c200_1) := (blk_cell BK201.out 1).trans rfl; have hcz99_2 : w98.cell? ⟨gb201, 2, none⟩ = some (.slice A200_2 ((rd_T47 t184 x80_2).f2).length c200_2) := (blk_cell BK201.out 2).trans rfl; have hfz99_0 := blk_frozen BK201.out 0; have hfz99_1 := blk_frozen BK201.out 1; have hfz99_2 := blk_frozen BK201.out 2))
                            go_loopg [95] k2 (fun kq v95 w' => ∃ (x95_3 : Int), v95 = .int .i64 x95_3 ∧ Aside0 (kissgatelaw17_SpreadAll.l3 kq l0 l1 t188 y203 t184 (t184.length : Int) x80_2 ((rd_T47 t184 x80_2).f1) (((rd_T47 t184 x80_2).f1).length : Int) x95_3 a2_0 a2_1 = some r) ∧ Aside0 (kq ≤ k2) ∧ Aside0 (Kd.R k38 38 w' w.heap.size (fun k_ => k_ ≠ gb182) (.slice Ao17 t188.length co17) t188) ∧ Aside0 (Kd.R (Kd.int .i64) 3 w' w.heap.size (fun _ => True) v204 y203) ∧ Aside0 (Kd.N k47 47 w' w.heap.size (fun k_ => some k_ ≠ ((.slice Ao17 t188.length co17) : Value).ownBlock ∧ some k_ ≠ (v204 : Value).ownBlock ∧ k_ ≠ gb182 ∧ k_ ≠ gb201) (.slice (some ad200) t184.length co86) t184) ∧ Aside0 (w'.heap[gb182]? = some (.cells #[.int .i64 a2_0, .int .i64 a2_1] 38 (0, 0))) ∧ Aside0 (w'.heap[gb201]? = some (.cells #[.bool ((rd_T47 t184 x80_2).f0), (.slice A200_1 ((rd_T47 t184 x80_2).f1).length c200_1), (.slice A200_2 ((rd_T47 t184 x80_2).f2).length c200_2)] 47 (0, 0))) ∧ Aside0 (Below w.heap.size w w') ∧ Aside0 (Kd.C k38 w' A200_1 ((rd_T47 t184 x80_2).f1).length ((rd_T47 t184 x80_2).f1)))
                            case atStart => exact ⟨(0), (by first | rfl | (simp; done) | (simp [*]; done)), H', ⟨Nat.le_refl _⟩, ⟨by (with_reducible repeat (first | apply Kd.R_alloc | apply Kd.R_drewN | apply Kd.R_drew)); exact HO_9.out⟩, ⟨by (with_reducible repeat (first | apply Kd.R_alloc | apply Kd.R_drewN | apply Kd.R_drew)); exact HO205.out⟩, ⟨by (with_reducible repeat (first | apply Kd.N_alloc | apply Kd.N_drewN | apply Kd.N_drew)); exact Kd.N_mono HO_78.out (fun _ hk => ⟨hk.1.1, ⟨hk.2, ⟨hk.1.2.1, hk.1.2.2⟩⟩⟩)⟩, ⟨by (with_reducible repeat (first | refine blk_drewN ?_ _ | refine blk_drew ?_ | refine blk_alloc ?_ _)); exact BK182.out⟩, ⟨by (with_reducible repeat (first | refine blk_drewN ?_ _ | refine blk_drew ?_ | refine blk_alloc ?_ _)); exact BK201.out⟩, ⟨by repeat (first | (with_reducible first | exact HB.out | apply below_alloc | apply pw_below_drewN | apply below_drew1 | refine below_set ?_ GE182.out | refine below_set ?_ GE201.out) | exact HB.out)⟩, ⟨by (with_reducible repeat (first | refine Kd.C_alloc ?_ _ | refine Kd.C_drewN ?_ _ | refine Kd.C_drew ?_)); exact (Kd.V_reads' HL200_1.out).2.2⟩⟩
                            case round =>
                              clear H'
                              try clear c1
                              try clear p1
                              try clear q1
                              try clear hx1
                              try clear c2
                              try clear p2
                              try clear q2
                              try clear hx2
                              try clear c3
                              try clear c4
                              try clear c5
                              try clear c6
                              try clear p6
                              try clear c7
                              try clear c8
                              try clear c8b0
                              try clear c8b1
                              try clear c9
                              try clear c13
                              try clear c18
                              try clear c18b0
                              try clear c19
                              try clear c19b0
                              try clear p19
                              try clear q19
                              try clear hx19
                              try clear c20
                              try clear c20b0
                              try clear p20
                              try clear q20
                              try clear hx20
                              try clear c21
                              try clear c21b0
                              try clear c23
                              try clear c23b0
                              try clear c24
                              try clear c24b0
                              try clear c26
                              try clear c29
                              try clear c33
                              try clear c34
                              try clear c35
                              try clear c37
                              try clear c37b0
                              try clear c38
                              try clear c38b0
                              try clear c39
                              try clear c39b0
                              try clear c40
                              try clear c42
                              try clear c43
                              try clear c47
                              try clear c48
                              try clear c50
                              try clear c53
                              try clear c55
                              try clear c62
                              try clear p64
                              try clear c69
                              try clear c69b0
                              try clear c70
                              try clear c70b0
                              try clear c71
                              try clear c71b0
                              try clear c72
                              try clear c74
                              try clear c75
                              try clear c79
                              try clear c80
                              try clear c82
                              try clear c85
                              try clear c87
                              try clear c87b0
                              try clear c88
                              try clear c88b0
                              try clear c89
                              try clear c89b0
                              try clear c91
                              try clear c92
                              try clear c94
                              try clear hcz30_0
                              try clear hcz30_1
                              try clear hcz34_0
                              try clear hcz34_1
                              try clear hcz44_0
                              try clear hcz44_1
                              try clear hcz44_2
                              try clear hcz49_0
                              try clear hcz49_1
                              try clear hcz49_2
                              try clear hcz51_0
                              try clear hcz51_1
                              try clear hcz56_0
                              try clear hcz56_1
                              try clear hcz63_0
                              try clear hcz63_1
                              try clear hcz66_0
                              try clear hcz66_1
                              try clear hcz76_0
                              try clear hcz76_1
                              try clear hcz76_2
                              try clear hcz81_0
                              try clear hcz81_1
                              try clear hcz81_2
                              try clear hcz83_0
                              try clear hcz83_1
                              try clear hcz95_0
                              try clear hcz95_1
                              try clear hcz95_2
                              try clear hcz96_0
                              try clear hcz96_1
                              try clear hcz99_0
                              try clear hcz99_1
                              try clear hcz99_2
                              try clear hfz30_0
                              try clear hfz30_1
                              try clear hfz34_0
                              try clear hfz34_1
                              try clear hfz44_0
                              try clear hfz44_1
                              try clear hfz44_2
                              try clear hfz49_0
                              try clear hfz49_1
                              try clear hfz49_2
                              try clear hfz51_0
                              try clear hfz51_1
                              try clear hfz56_0
                              try clear hfz56_1
                              try clear hfz63_0
                              try clear hfz63_1
                              try clear hfz66_0
                              try clear hfz66_1
                              try clear hfz76_0
                              try clear hfz76_1
                              try clear hfz76_2
                              try clear hfz81_0
                              try clear hfz81_1
                              try clear hfz81_2
                              try clear hfz83_0
                              try clear hfz83_1
                              try clear hfz95_0
                              try clear hfz95_1
                              try clear hfz95_2
                              try clear hfz96_0
                              try clear hfz96_1
                              try clear hfz99_0
                              try clear hfz99_1
                              try clear hfz99_2
                              try clear hx191_0
                              try clear hx191_1
                              try clear hx193_0
                              try clear hx193_1
                              try clear hx196_0
                              try clear hx196_1
                              try clear hx196_2
                              try clear hx200_0
                              try clear hx200_1
                              try clear hx200_2
                              try clear p1
                              try clear p19
                              try clear p191
                              try clear p193
                              try clear p196
                              try clear p2
                              try clear p200
                              try clear p6
                              try clear p64
                              try clear q1
                              try clear q19
                              try clear q191
                              try clear q193
                              try clear q196
                              try clear q200
                              obtain ⟨x95_3, rfl, HA, HK3, HO_9, HO_15, HO_78, BK182, BK201, HB, HRX⟩ := hrel
                              have HX := Aside0.mk (CX.start HRX.out)
                              clear HRX
                              cases gk with
                              | zero => exact absurd HA.out (by simp [kissgatelaw17_SpreadAll.l3])
                              | succ k3 =>
                                have H := HA.out
                                clear HA
                                simp only [kissgatelaw17_SpreadAll.l3] at H
                                by_cases c100 : x95_3 < (((rd_T47 t184 x80_2).f1).length : Int)
                                · rw [if_pos c100] at H
                                  have c100b0 : decide (x95_3 < (((rd_T47 t184 x80_2).f1).length : Int)) = true := decide_eq_true c100
                                  clear c100
                                  by_cases c101 : 0 ≤ x95_3
                                  · rw [if_pos c101] at H
                                    have c101b0 : decide (0 ≤ x95_3) = true := decide_eq_true c101
                                    clear c101
                                    by_cases c102 : x95_3 < (((rd_T47 t184 x80_2).f1).length : Int)
                                    · rw [if_pos c102] at H
                                      have c102b0 : decide (x95_3 < (((rd_T47 t184 x80_2).f1).length : Int)) = true := decide_eq_true c102
                                      clear c102
                                      replace H := Option.bind_eq_some_iff.mp H
                                      obtain ⟨t208, A1030, H⟩ := H
                                      replace H : (if t208 = true then (kissgatelaw17_SpreadAll.l3 k3 l0 l1 t188 y203 t184 (t184.length : Int) x80_2 ((rd_T47 t184 x80_2).f1) (((rd_T47 t184 x80_2).f1).length : Int) (wrap64 (x95_3 + 1)) a2_0 a2_1) else (some false)) = some r := H
                                      have A103 := Aside0.mk A1030
                                      clear A1030
                                      by_cases c104 : t208 = true
                                      · subst c104
                                        have H1 : (kissgatelaw17_SpreadAll.l3 k3 l0 l1 t188 y203 t184 (t184.length : Int) x80_2 ((rd_T47 t184 x80_2).f1) (((rd_T47 t184 x80_2).f1).length : Int) (wrap64 (x95_3 + 1)) a2_0 a2_1) = some r := by rw [if_pos rfl] at H; exact H
                                        clear H
                                        have H := H1
                                        clear H1
                                        have H' := Aside0.mk H
                                        clear H
                                        have p206 : 0 ≤ (x95_3 : Int) := of_decide_eq_true (by first | (with_reducible assumption) | assumption)
                                        have q206 : x95_3 < (((rd_T47 t184 x80_2).f1).length : Int) := of_decide_eq_true (by first | (with_reducible assumption) | assumption)
                                        obtain ⟨ad206, e206, hx206_0, hx206_1⟩ := at_T38 HX.out.row x95_3 p206 q206
                                        cases e206
                                        replace p206 := eq_true p206
                                        replace q206 := eq_true q206
                                        go_wp2_with (first | ((with_reducible refine gate_dst (N := 19) rfl ?_); (try (refine gate_guard (by rfl) ?_; dsimp only)); refine box_event ?hg (N := 19) ?hd (cs := #[.int .i64 0, .int .i64 0]) (t := 38) ?hr ?_; (case hd => rfl); (case hg => rfl); (case hr => first | (go_simp; done) | (go_simp; rfl)); intro gb207 hg w105 hbox hb; have n0_ := Aside0.mk (Kd.R_below (Kd.R_elderB (by (with_reducible repeat (first | apply Kd.R_alloc | apply Kd.R_drewN | apply Kd.R_drew)); exact HO_9.out) gb207 (Nat.le_of_eq hg.symm)) hb); have n1_ := Aside0.mk (Kd.R_below (by (with_reducible repeat (first | apply Kd.R_alloc | apply Kd.R_drewN | apply Kd.R_drew)); exact HO_15.out) hb); have n2_ := Aside0.mk (Kd.N_below (Kd.N_elderB (by (with_reducible repeat (first | apply Kd.N_alloc | apply Kd.N_drewN | apply Kd.N_drew)); exact HO_78.out) gb207 (Nat.le_of_eq hg.symm)) hb); have n3_ := Aside0.mk (blk_below (g := gb182) (o := .cells #[.int .i64 a2_0, .int .i64 a2_1] 38 (0, 0)) (by (with_reducible repeat (first | refine blk_drewN ?_ _ | refine blk_drew ?_ | refine blk_alloc ?_ _)); exact BK182.out) hb); have n4_ := Aside0.mk (blk_below (g := gb201) (o := .cells #[.bool ((rd_T47 t184 x80_2).f0), .slice (some ad206) ((rd_T47 t184 x80_2).f1).length c200_1, .slice A200_2 ((rd_T47 t184 x80_2).f2).length c200_2] 47 (0, 0)) (by (with_reducible repeat (first | refine blk_drewN ?_ _ | refine blk_drew ?_ | refine blk_alloc ?_ _)); exact BK201.out) hb); have n5_ := Aside0.mk (below_step (by repeat (first | (with_reducible first | exact HB.out | apply below_alloc | apply pw_below_drewN | apply below_drew1 | refine below_set ?_ GE182.out | refine below_set ?_ GE201.out) | exact HB.out)) hb); have n6_ := Aside0.mk (hbox); have n7_ := Aside0.mk ((by rw [hg]; exact (below_size (by repeat (first | (with_reducible first | exact HB.out | apply below_alloc | apply pw_below_drewN | apply below_drew1 | refine below_set ?_ GE182.out | refine below_set ?_ GE201.out) | exact HB.out))) : w.heap.size ≤ gb207)); have n8_ := Aside0.mk ((by rw [hg]; exact (below_size (by repeat (first | (with_reducible first | exact HB.out | apply below_alloc | apply pw_below_drewN | apply below_drew1 | refine below_set ?_ GE182.out | refine below_set ?_ GE201.out) | exact HB.out))) : w.heap.size ≤ gb207)); have n9_ := Aside0.mk ((by rw [hg]; exact Nat.ne_of_lt (blk_lt (g := gb182) (o := .cells #[.int .i64 a2_0, .int .i64 a2_1] 38 (0, 0)) (by (with_reducible repeat (first | refine blk_drewN ?_ _ | refine blk_drew ?_ | refine blk_alloc ?_ _)); exact BK182.out)) : gb182 ≠ gb207)); have n10_ := Aside0.mk ((by rw [hg]; exact Nat.ne_of_gt (blk_lt (g := gb182) (o := .cells #[.int .i64 a2_0, .int .i64 a2_1] 38 (0, 0)) (by (with_reducible repeat (first | refine blk_drewN ?_ _ | refine blk_drew ?_ | refine blk_alloc ?_ _)); exact BK182.out)) : gb207 ≠ gb182)); have n11_ := Aside0.mk ((by rw [hg]; exact Nat.ne_of_lt (blk_lt (g := gb201) (o := .cells #[.bool ((rd_T47 t184 x80_2).f0), .slice (some ad206) ((rd_T47 t184 x80_2).f1).length c200_1, .slice A200_2 ((rd_T47 t184 x80_2).f2).length c200_2] 47 (0, 0)) (by (with_reducible repeat (first | refine blk_drewN ?_ _ | refine blk_drew ?_ | refine blk_alloc ?_ _)); exact BK201.out)) : gb201 ≠ gb207)); have n12_ := Aside0.mk ((by rw [hg]; exact Nat.ne_of_gt (blk_lt (g := gb201) (o := .cells #[.bool ((rd_T47 t184 x80_2).f0), .slice (some ad206) ((rd_T47 t184 x80_2).f1).length c200_1, .slice A200_2 ((rd_T47 t184 x80_2).f2).length c200_2] 47 (0, 0)) (by (with_reducible repeat (first | refine blk_drewN ?_ _ | refine blk_drew ?_ | refine blk_alloc ?_ _)); exact BK201.out)) : gb207 ≠ gb201)); have x0_ := Aside0.mk (CX.step HX.out hb); have x1_ := Aside0.mk (Nat.le_trans (CX.le HX.out) (Nat.le_of_eq hg.symm)); clear HX; have HX := x0_; have GX := x1_; clear x0_ x1_; clear HO_9; clear HO_15; clear HO_78; clear BK182; clear BK201; clear HB; have HO_9 := n0_; have HO_15 := n1_; have HO_78 := n2_; have BK182 := n3_; have BK201 := n4_; have HB := n5_; have BK207 := n6_; have GW207 := n7_; have GE207 := n8_; have NB182_207 := n9_; have NB207_182 := n10_; have NB201_207 := n11_; have NB207_201 := n12_; clear n0_ n1_ n2_ n3_ n4_ n5_ n6_ n7_ n8_ n9_ n10_ n11_ n12_; clear hb hbox hg; have hnb106 := NB207_182.out; have hnc106 := NB182_207.out; have hnb107 := NB207_201.out; have hnc107 := NB201_207.out; have hcz108_0 : w105.cell? ⟨gb207, 0, none⟩ = some (.int .i64 0) := (blk_cell BK207.out 0).trans rfl; have hcz108_1 : w105.cell? ⟨gb207, 1, none⟩ = some (.int .i64 0) := (blk_cell BK207.out 1).trans rfl; have hfz108_0 := blk_frozen BK207.out 0; have hfz108_1 := blk_frozen BK207.out 1) | ((with_reducible refine gate_callee (f := 35) rfl ?_); refine goesL_ (some 102) rfl rfl Try.func35 (by kernel_rfl) rfl #[.agg #[.bool false, .slice Ao17 t188.length co17, .slice none 0 0], .agg #[.int .i64 ((rd_T38 ((rd_T47 t184 x80_2).f1) x95_3).f0), .int .i64 ((rd_T38 ((rd_T47 t184 x80_2).f1) x95_3).f1)]] rfl (by (try simp only [List.map_toArray, List.map_cons, List.map_nil]); first | done | rfl | (simp only [List.length_drop, List.length_take]; rfl)) ?_; (refine (kissgateref17_Has.calls k3 false _ _ t188 _ _ ([] : List Int) ((rd_T38 ((rd_T47 t184 x80_2).f1) x95_3).f0) ((rd_T38 ((rd_T47 t184 x80_2).f1) x95_3).f1) true _ ?side1 ?side2 ?side3 ?side4 A103.out).mono ?_); (case side1 => refine (Kd.R_reads' (e := 38) (base := w.heap.size) (ok := fun k_ => (k_ ≠ gb182 ∧ k_ ≠ gb207)) (n := t188.length) (c := co17) ?_).2.2; exact (by (with_reducible repeat (first | apply Kd.R_alloc | apply Kd.R_drewN | apply Kd.R_drew)); exact (Kd.R_mono (Kd.R_far (p := ⟨gb207, 1, none⟩) (Kd.R_far (p := ⟨gb207, 0, none⟩) (Kd.R_mono HO_9.out (fun k_ hk => (⟨hk, hk.2⟩ : _ ∧ k_ ≠ gb207))) (fun _ hk => hk.2) (.int .i64 ((rd_T38 ((rd_T47 t184 x80_2).f1) x95_3).f0))) (fun _ hk => hk.2) (.int .i64 ((rd_T38 ((rd_T47 t184 x80_2).f1) x95_3).f1))) (fun _ h_ => h_.1)))); (case side2 => exact (Kd.R_reads' HO_9.out).2.1); (case side3 => exact Kd.C_nil _ _); (case side4 => exact Nat.le_refl _); rintro e w109 ⟨rfl, hb⟩; refine ⟨_, rfl, ?_⟩; have n0_ := Aside0.mk (Kd.R_below (by (with_reducible repeat (first | apply Kd.R_alloc | apply Kd.R_drewN | apply Kd.R_drew)); exact (Kd.R_mono (Kd.R_far (p := ⟨gb207, 1, none⟩) (Kd.R_far (p := ⟨gb207, 0, none⟩) (Kd.R_mono HO_9.out (fun k_ hk => (⟨hk, hk.2⟩ : _ ∧ k_ ≠ gb207))) (fun _ hk => hk.2) (.int .i64 ((rd_T38 ((rd_T47 t184 x80_2).f1) x95_3).f0))) (fun _ hk => hk.2) (.int .i64 ((rd_T38 ((rd_T47 t184 x80_2).f1) x95_3).f1))) (fun _ h_ => h_.1))) hb); have n1_ := Aside0.mk (Kd.R_below (by (with_reducible repeat (first | apply Kd.R_alloc | apply Kd.R_drewN | apply Kd.R_drew)); exact (Kd.R_mono (Kd.R_far (p := ⟨gb207, 1, none⟩) (Kd.R_far (p := ⟨gb207, 0, none⟩) (Kd.R_types HO_15.out BK207.out (by decide)) (fun _ hk => hk.2) (.int .i64 ((rd_T38 ((rd_T47 t184 x80_2).f1) x95_3).f0))) (fun _ hk => hk.2) (.int .i64 ((rd_T38 ((rd_T47 t184 x80_2).f1) x95_3).f1))) (fun _ h_ => h_.1))) hb); have n2_ := Aside0.mk (Kd.N_below (by (with_reducible repeat (first | apply Kd.N_alloc | apply Kd.N_drewN | apply Kd.N_drew)); exact (Kd.N_mono (Kd.N_far (p := ⟨gb207, 1, none⟩) (Kd.N_far (p := ⟨gb207, 0, none⟩) (Kd.N_mono HO_78.out (fun k_ hk => (⟨hk, hk.2⟩ : _ ∧ k_ ≠ gb207))) (fun _ hk => hk.2) (.int .i64 ((rd_T38 ((rd_T47 t184 x80_2).f1) x95_3).f0))) (fun _ hk => hk.2) (.int .i64 ((rd_T38 ((rd_T47 t184 x80_2).f1) x95_3).f1))) (fun _ h_ => h_.1))) hb); have n3_ := Aside0.mk (blk_below (g := gb182) (o := .cells #[.int .i64 a2_0, .int .i64 a2_1] 38 (0, 0)) (by (with_reducible repeat (first | refine blk_drewN ?_ _ | refine blk_drew ?_ | refine blk_alloc ?_ _)); refine blk_far ?_ NB182_207.out _; (with_reducible repeat (first | refine blk_drewN ?_ _ | refine blk_drew ?_ | refine blk_alloc ?_ _)); refine blk_far ?_ NB182_207.out _; (with_reducible repeat (first | refine blk_drewN ?_ _ | refine blk_drew ?_ | refine blk_alloc ?_ _)); exact BK182.out) hb); have n4_ := Aside0.mk (blk_below (g := gb201) (o := .cells #[.bool ((rd_T47 t184 x80_2).f0), .slice (some ad206) ((rd_T47 t184 x80_2).f1).length c200_1, .slice A200_2 ((rd_T47 t184 x80_2).f2).length c200_2] 47 (0, 0)) (by (with_reducible repeat (first | refine blk_drewN ?_ _ | refine blk_drew ?_ | refine blk_alloc ?_ _)); refine blk_far ?_ NB201_207.out _; (with_reducible repeat (first | refine blk_drewN ?_ _ | refine blk_drew ?_ | refine blk_alloc ?_ _)); refine blk_far ?_ NB201_207.out _; (with_reducible repeat (first | refine blk_drewN ?_ _ | refine blk_drew ?_ | refine blk_alloc ?_ _)); exact BK201.out) hb); have n5_ := Aside0.mk (blk_below (g := gb207) (o := .cells #[.int .i64 ((rd_T38 ((rd_T47 t184 x80_2).f1) x95_3).f0), .int .i64 ((rd_T38 ((rd_T47 t184 x80_2).f1) x95_3).f1)] 38 (0, 0)) (by (with_reducible repeat (first | refine blk_drewN ?_ _ | refine blk_drew ?_ | refine blk_alloc ?_ _)); refine blk_put (cs := #[.int .i64 ((rd_T38 ((rd_T47 t184 x80_2).f1) x95_3).f0), .int .i64 0]) ?_ 1 _ rfl; (with_reducible repeat (first | refine blk_drewN ?_ _ | refine blk_drew ?_ | refine blk_alloc ?_ _)); refine blk_put (cs := #[.int .i64 0, .int .i64 0]) ?_ 0 _ rfl; (with_reducible repeat (first | refine blk_drewN ?_ _ | refine blk_drew ?_ | refine blk_alloc ?_ _)); exact BK207.out) hb); have n6_ := Aside0.mk (below_step (by repeat (first | (with_reducible first | exact HB.out | apply below_alloc | apply pw_below_drewN | apply below_drew1 | refine below_set ?_ GE182.out | refine below_set ?_ GE201.out | refine below_set ?_ GE207.out) | exact HB.out)) hb); have x0_ := Aside0.mk (CX.step (CX.set (CX.set HX.out GX.out) GX.out) hb); clear HX; have HX := x0_; clear x0_; clear HO_9; clear HO_15; clear HO_78; clear BK182; clear BK201; clear BK207; clear HB; have HO_9 := n0_; have HO_15 := n1_; have HO_78 := n2_; have BK182 := n3_; have BK201 := n4_; have BK207 := n5_; have HB := n6_; clear n0_ n1_ n2_ n3_ n4_ n5_ n6_; (try clear hb); (try clear hb2); (try clear hk); (try clear hi)))
                                        go_roundg k3
                                        case measure => have := HK1.out; have := HK2.out; have := HK3.out; omega
                                        case rel => exact ⟨(wrap64 (x95_3 + 1)), (by first | rfl | (simp; done) | (simp [*]; done)), H', ⟨by have := HK1.out; have := HK2.out; have := HK3.out; omega⟩, ⟨by (with_reducible repeat (first | apply Kd.R_alloc | apply Kd.R_drewN | apply Kd.R_drew)); exact Kd.R_mono HO_9.out (fun _ hk => hk.1)⟩, ⟨by (with_reducible repeat (first | apply Kd.R_alloc | apply Kd.R_drewN | apply Kd.R_drew)); exact HO_15.out⟩, ⟨by (with_reducible repeat (first | apply Kd.N_alloc | apply Kd.N_drewN | apply Kd.N_drew)); exact Kd.N_mono HO_78.out (fun _ hk => ⟨hk.1.1, ⟨hk.1.2.1, ⟨hk.1.2.2.1, hk.1.2.2.2⟩⟩⟩)⟩, ⟨by (with_reducible repeat (first | refine blk_drewN ?_ _ | refine blk_drew ?_ | refine blk_alloc ?_ _)); exact BK182.out⟩, ⟨by (with_reducible repeat (first | refine blk_drewN ?_ _ | refine blk_drew ?_ | refine blk_alloc ?_ _)); exact BK201.out⟩, ⟨by repeat (first | (with_reducible first | exact HB.out | apply below_alloc | apply pw_below_drewN | apply below_drew1 | refine below_set ?_ GE182.out | refine below_set ?_ GE201.out | refine below_set ?_ GE207.out) | exact HB.out)⟩, ⟨CX.now HX.out⟩⟩
                                      · replace c104 := Bool.eq_false_iff.mpr c104
                                        subst c104
                                        have H1 : (some false) = some r := by rw [if_neg (show ¬ (false = true) by decide)] at H; exact H
                                        clear H
                                        have H := H1
                                        clear H1
                                        exact absurd (Option.some.inj H) (by rw [HRT.out]; decide)
                                    · rw [if_neg c102] at H
                                      exact absurd H (by simp)
                                  · rw [if_neg c101] at H
                                    exact absurd H (by simp)
                                · rw [if_neg c100] at H
                                  have c100b0 : decide (x95_3 < (((rd_T47 t184 x80_2).f1).length : Int)) = false := decide_eq_false c100
                                  clear c100
                                  have H' := Aside0.mk H
                                  clear H
                                  go_wp2
                                  go_roundg k3
                                  case measure => have := HK1.out; have := HK2.out; have := HK3.out; omega
                                  case rel => exact ⟨(y203), (wrap64 (x80_2 + 1)), (by first | rfl | (simp; done) | (simp [*]; done)), H', ⟨by have := HK1.out; have := HK2.out; have := HK3.out; omega⟩, ⟨by (with_reducible repeat (first | apply Kd.R_alloc | apply Kd.R_drewN | apply Kd.R_drew)); exact HO_9.out⟩, ⟨by (with_reducible repeat (first | apply Kd.R_alloc | apply Kd.R_drewN | apply Kd.R_drew)); exact HO_15.out⟩, ⟨by (with_reducible repeat (first | apply Kd.N_alloc | apply Kd.N_drewN | apply Kd.N_drew)); exact Kd.N_mono HO_78.out (fun _ hk => ⟨hk.1, ⟨hk.2.1, hk.2.2.1⟩⟩)⟩, ⟨by (with_reducible repeat (first | refine blk_drewN ?_ _ | refine blk_drew ?_ | refine blk_alloc ?_ _)); exact BK182.out⟩, ⟨by repeat (first | (with_reducible first | exact HB.out | apply below_alloc | apply pw_below_drewN | apply below_drew1 | refine below_set ?_ GE182.out | refine below_set ?_ GE201.out) | exact HB.out)⟩⟩
                          · rw [if_neg c92] at H
                            exact absurd H (by simp)
                        · replace c91 := Bool.eq_false_iff.mpr c91
                          subst c91
                          have H1 : (kissgatelaw17_SpreadAll.l3 k2 l0 l1 t188 x15_2 t184 (t184.length : Int) x80_2 ((rd_T47 t184 x80_2).f1) (((rd_T47 t184 x80_2).f1).length : Int) 0 a2_0 a2_1) = some r := by rw [if_neg (show ¬ (false = true) by decide)] at H; exact H
                          clear H
                          have H := H1
                          clear H1
                          have H' := Aside0.mk H
                          clear H
                          have p200 : 0 ≤ (x80_2 : Int) := of_decide_eq_true (by first | (with_reducible assumption) | assumption)
                          have q200 : x80_2 < (t184.length : Int) := of_decide_eq_true (by first | (with_reducible assumption) | assumption)
                          obtain ⟨ad200, A200_1, c200_1, A200_2, c200_2, e200, hx200_0, hx200_1, hx200_2, hl200_1, hi200_1, hl200_2, hi200_2⟩ := at_T47 (Kd.N_reads' HO_78.out).2.2 x80_2 p200 q200
                          cases e200
                          obtain ⟨ce200, hce200, hMe200, hcc200⟩ := Kd.N_get HO_78.out z47 x80_2 p200 (by first | exact q200 | exact of_decide_eq_true (by first | (with_reducible assumption) | assumption) | (have e_ := (Kd.N_reads' HO_78.out).1; omega))
                          obtain ⟨ua200_1, uc200_1, ua200_2, uc200_2, rfl, ul200_1, ge200_1, ul200_2, ge200_2⟩ := k47_openF hMe200
                          have hv200_1 := hcc200 1 _ rfl
                          rw [add_field _ _ 1 (by omega)] at hv200_1
                          replace hv200_1 := Option.some.inj (hv200_1.symm.trans hx200_1)
                          injection hv200_1 with hva_ hvn_ hvc_
                          rw [hva_] at ge200_1
                          rw [hvc_] at ul200_1
                          have HL200_1 := Aside0.mk (show Kd.V k38 38 _ w.heap.size _ _ ((rd_T47 t184 x80_2).f1) from Kd.V_mk ul200_1 ge200_1)
                          clear hva_ hvn_ hvc_ ge200_1 ul200_1
                          have hv200_2 := hcc200 2 _ rfl
                          rw [add_field _ _ 2 (by omega)] at hv200_2
                          replace hv200_2 := Option.some.inj (hv200_2.symm.trans hx200_2)
                          injection hv200_2 with hva_ hvn_ hvc_
                          rw [hva_] at ge200_2
                          rw [hvc_] at ul200_2
                          have HL200_2 := Aside0.mk (show Kd.V (Kd.int .i64) 3 _ w.heap.size _ _ ((rd_T47 t184 x80_2).f2) from Kd.V_mk ul200_2 ge200_2)
                          clear hva_ hvn_ hvc_ ge200_2 ul200_2
                          clear hcc200 hce200
                          have HR200_1 := Aside0.mk hi200_1
                          have HC200_1 := Aside0.mk hl200_1
                          clear hi200_1 hl200_1
                          have HR200_2 := Aside0.mk hi200_2
                          have HC200_2 := Aside0.mk hl200_2
                          clear hi200_2 hl200_2
                          replace p200 := eq_true p200
                          replace q200 := eq_true q200
                          go_wp2_with (first | ((with_reducible refine gate_dst (N := 17) rfl ?_); (try (refine gate_guard (by rfl) ?_; dsimp only)); refine box_event ?hg (N := 17) ?hd (cs := #[.bool false, .slice none 0 0, .slice none 0 0]) (t := 47) ?hr ?_; (case hd => rfl); (case hg => rfl); (case hr => first | (go_simp; done) | (go_simp; rfl)); intro gb201 hg w115 hbox hb; have n0_ := Aside0.mk (Kd.R_below (by (with_reducible repeat (first | apply Kd.R_alloc | apply Kd.R_drewN | apply Kd.R_drew)); exact HO_9.out) hb); have n1_ := Aside0.mk (Kd.R_below (by (with_reducible repeat (first | apply Kd.R_alloc | apply Kd.R_drewN | apply Kd.R_drew)); exact HO_15.out) hb); have n2_ := Aside0.mk (Kd.N_below (Kd.N_elderB (by (with_reducible repeat (first | apply Kd.N_alloc | apply Kd.N_drewN | apply Kd.N_drew)); exact HO_78.out) gb201 (Nat.le_of_eq hg.symm)) hb); have n3_ := Aside0.mk (Kd.V_below (Kd.V_elderB (by (with_reducible repeat (first | apply Kd.V_alloc | apply Kd.V_drewN | apply Kd.V_drew)); exact HL200_1.out) gb201 (Nat.le_of_eq hg.symm)) hb); have n4_ := Aside0.mk (Kd.V_below (Kd.V_elderB (by (with_reducible repeat (first | apply Kd.V_alloc | apply Kd.V_drewN | apply Kd.V_drew)); exact HL200_2.out) gb201 (Nat.le_of_eq hg.symm)) hb); have n5_ := Aside0.mk (blk_below (g := gb182) (o := .cells #[.int .i64 a2_0, .int .i64 a2_1] 38 (0, 0)) (by (with_reducible repeat (first | refine blk_drewN ?_ _ | refine blk_drew ?_ | refine blk_alloc ?_ _)); exact BK182.out) hb); have n6_ := Aside0.mk (Kd.C_below (by repeat (first | (with_reducible exact HR200_1.out) | (with_reducible refine Kd.C_alloc ?_ _) | (with_reducible refine Kd.C_drewN ?_ _) | (with_reducible refine Kd.C_drew ?_) | exact HR200_1.out)) hb); have n7_ := Aside0.mk (Kd.C_below (by repeat (first | (with_reducible exact HR200_2.out) | (with_reducible refine Kd.C_alloc ?_ _) | (with_reducible refine Kd.C_drewN ?_ _) | (with_reducible refine Kd.C_drew ?_) | exact HR200_2.out)) hb); have n8_ := Aside0.mk (below_step (by repeat (first | (with_reducible first | exact HB.out | apply below_alloc | apply pw_below_drewN | apply below_drew1 | refine below_set ?_ GE182.out) | exact HB.out)) hb); have n9_ := Aside0.mk (hbox); have n10_ := Aside0.mk ((by rw [hg]; exact (below_size (by repeat (first | (with_reducible first | exact HB.out | apply below_alloc | apply pw_below_drewN | apply below_drew1 | refine below_set ?_ GE182.out) | exact HB.out))) : w.heap.size ≤ gb201)); have n11_ := Aside0.mk ((by rw [hg]; exact (below_size (by repeat (first | (with_reducible first | exact HB.out | apply below_alloc | apply pw_below_drewN | apply below_drew1 | refine below_set ?_ GE182.out) | exact HB.out))) : w.heap.size ≤ gb201)); have n12_ := Aside0.mk ((by rw [hg]; exact Nat.ne_of_lt (blk_lt (g := gb182) (o := .cells #[.int .i64 a2_0, .int .i64 a2_1] 38 (0, 0)) (by (with_reducible repeat (first | refine blk_drewN ?_ _ | refine blk_drew ?_ | refine blk_alloc ?_ _)); exact BK182.out)) : gb182 ≠ gb201)); have n13_ := Aside0.mk ((by rw [hg]; exact Nat.ne_of_gt (blk_lt (g := gb182) (o := .cells #[.int .i64 a2_0, .int .i64 a2_1] 38 (0, 0)) (by (with_reducible repeat (first | refine blk_drewN ?_ _ | refine blk_drew ?_ | refine blk_alloc ?_ _)); exact BK182.out)) : gb201 ≠ gb182)); clear HO_9; clear HO_15; clear HO_78; clear HL200_1; clear HL200_2; clear BK182; clear HR200_1; clear HR200_2; clear HB; have HO_9 := n0_; have HO_15 := n1_; have HO_78 := n2_; have HL200_1 := n3_; have HL200_2 := n4_; have BK182 := n5_; have HR200_1 := n6_; have HR200_2 := n7_; have HB := n8_; have BK201 := n9_; have GW201 := n10_; have GE201 := n11_; have NB182_201 := n12_; have NB201_182 := n13_; clear n0_ n1_ n2_ n3_ n4_ n5_ n6_ n7_ n8_ n9_ n10_ n11_ n12_ n13_; clear hb hbox hg; have hnb116 := NB201_182.out; have hnc116 := NB182_201.out; have hcz117_0 : w115.cell? ⟨gb201, 0, none⟩ = some (.bool false) := (blk_cell BK201.out 0).trans rfl; have hcz117_1 : w115.cell? ⟨gb201, 1, none⟩ = some (.slice none 0 0) := (blk_cell BK201.out 1).trans rfl; have hcz117_2 : w115.cell? ⟨gb201, 2, none⟩ = some (.slice none 0 0) := (blk_cell BK201.out 2).trans rfl; have hfz117_0 := blk_frozen BK201.out 0; have hfz117_1 := blk_frozen BK201.out 1; have hfz117_2 := blk_frozen BK201.out 2; have hcz118_0 : w115.cell? ⟨gb182, 0, none⟩ = some (.int .i64 a2_0) := (blk_cell BK182.out 0).trans rfl; have hcz118_1 : w115.cell? ⟨gb182, 1, none⟩ = some (.int .i64 a2_1) := (blk_cell BK182.out 1).trans rfl; have hfz118_0 := blk_frozen BK182.out 0; have hfz118_1 := blk_frozen BK182.out 1) | ((with_reducible refine gate_callee (f := 35) rfl ?_); refine goesL_ (some 87) rfl rfl Try.func35 (by kernel_rfl) rfl #[.agg #[.bool ((rd_T47 t184 x80_2).f0), .slice A200_1 ((rd_T47 t184 x80_2).f1).length c200_1, .slice A200_2 ((rd_T47 t184 x80_2).f2).length c200_2], .agg #[.int .i64 a2_0, .int .i64 a2_1]] rfl (by (try simp only [List.map_toArray, List.map_cons, List.map_nil]); first | done | rfl | (simp only [List.length_drop, List.length_take]; rfl)) ?_; (with_reducible refine (kissgateref17_Has.calls k2 ((rd_T47 t184 x80_2).f0) _ _ ((rd_T47 t184 x80_2).f1) _ _ ((rd_T47 t184 x80_2).f2) a2_0 a2_1 false _ ?side1 ?side2 ?side3 ?side4 A90.out).mono ?_); (case side1 => repeat (first | exact ((Kd.V_reads' (by (with_reducible repeat (first | apply Kd.V_alloc | apply Kd.V_drewN | apply Kd.V_drew)); exact (Kd.V_mono (Kd.V_far (p := ⟨gb201, 2, none⟩) (Kd.V_far (p := ⟨gb201, 1, none⟩) (Kd.V_far (p := ⟨gb201, 0, none⟩) (Kd.V_mono HL200_1.out (fun k_ hk => (⟨hk, hk.2⟩ : _ ∧ k_ ≠ gb201))) (fun _ hk => hk.2) (.bool ((rd_T47 t184 x80_2).f0))) (fun _ hk => hk.2) (.slice A200_1 ((rd_T47 t184 x80_2).f1).length c200_1)) (fun _ hk => hk.2) (.slice A200_2 ((rd_T47 t184 x80_2).f2).length c200_2)) (fun _ h_ => h_.1)))).2.2) | (with_reducible refine Kd.C_alloc ?_ _) | (with_reducible refine Kd.C_drewN ?_ _) | (with_reducible refine Kd.C_drew ?_))); (case side2 => exact HC200_1.out); (case side3 => repeat (first | exact ((Kd.V_reads' (by (with_reducible repeat (first | apply Kd.V_alloc | apply Kd.V_drewN | apply Kd.V_drew)); exact (Kd.V_mono (Kd.V_far (p := ⟨gb201, 2, none⟩) (Kd.V_far (p := ⟨gb201, 1, none⟩) (Kd.V_far (p := ⟨gb201, 0, none⟩) (Kd.V_mono HL200_2.out (fun k_ hk => (⟨hk, hk.2⟩ : _ ∧ k_ ≠ gb201))) (fun _ hk => hk.2) (.bool ((rd_T47 t184 x80_2).f0))) (fun _ hk => hk.2) (.slice A200_1 ((rd_T47 t184 x80_2).f1).length c200_1)) (fun _ hk => hk.2) (.slice A200_2 ((rd_T47 t184 x80_2).f2).length c200_2)) (fun _ h_ => h_.1)))).2.2) | (with_reducible refine Kd.C_alloc ?_ _) | (with_reducible refine Kd.C_drewN ?_ _) | (with_reducible refine Kd.C_drew ?_))); (case side4 => exact HC200_2.out); rintro e w119 ⟨rfl, hb⟩; refine ⟨_, rfl, ?_⟩; have n0_ := Aside0.mk (Kd.R_below (by (with_reducible repeat (first | apply Kd.R_alloc | apply Kd.R_drewN | apply Kd.R_drew)); exact (Kd.R_mono (Kd.R_far (p := ⟨gb201, 2, none⟩) (Kd.R_far (p := ⟨gb201, 1, none⟩) (Kd.R_far (p := ⟨gb201, 0, none⟩) (Kd.R_types HO_9.out BK201.out (by decide)) (fun _ hk => hk.2) (.bool ((rd_T47 t184 x80_2).f0))) (fun _ hk => hk.2) (.slice A200_1 ((rd_T47 t184 x80_2).f1).length c200_1)) (fun _ hk => hk.2) (.slice A200_2 ((rd_T47 t184 x80_2).f2).length c200_2)) (fun _ h_ => h_.1))) hb); have n1_ := Aside0.mk (Kd.R_below (by (with_reducible repeat (first | apply Kd.R_alloc | apply Kd.R_drewN | apply Kd.R_drew)); exact (Kd.R_mono (Kd.R_far (p := ⟨gb201, 2, none⟩) (Kd.R_far (p := ⟨gb201, 1, none⟩) (Kd.R_far (p := ⟨gb201, 0, none⟩) (Kd.R_types HO_15.out BK201.out (by decide)) (fun _ hk => hk.2) (.bool ((rd_T47 t184 x80_2).f0))) (fun _ hk => hk.2) (.slice A200_1 ((rd_T47 t184 x80_2).f1).length c200_1)) (fun _ hk => hk.2) (.slice A200_2 ((rd_T47 t184 x80_2).f2).length c200_2)) (fun _ h_ => h_.1))) hb); have n2_ := Aside0.mk (Kd.N_below (by (with_reducible repeat (first | apply Kd.N_alloc | apply Kd.N_drewN | apply Kd.N_drew)); exact (Kd.N_mono (Kd.N_far (p := ⟨gb201, 2, none⟩) (Kd.N_far (p := ⟨gb201, 1, none⟩) (Kd.N_far (p := ⟨gb201, 0, none⟩) (Kd.N_mono HO_78.out (fun k_ hk => (⟨hk, hk.2⟩ : _ ∧ k_ ≠ gb201))) (fun _ hk => hk.2) (.bool ((rd_T47 t184 x80_2).f0))) (fun _ hk => hk.2) (.slice A200_1 ((rd_T47 t184 x80_2).f1).length c200_1)) (fun _ hk => hk.2) (.slice A200_2 ((rd_T47 t184 x80_2).f2).length c200_2)) (fun _ h_ => h_.1))) hb); have n3_ := Aside0.mk (Kd.V_below (by (with_reducible repeat (first | apply Kd.V_alloc | apply Kd.V_drewN | apply Kd.V_drew)); exact (Kd.V_mono (Kd.V_far (p := ⟨gb201, 2, none⟩) (Kd.V_far (p := ⟨gb201, 1, none⟩) (Kd.V_far (p := ⟨gb201, 0, none⟩) (Kd.V_mono HL200_1.out (fun k_ hk => (⟨hk, hk.2⟩ : _ ∧ k_ ≠ gb201))) (fun _ hk => hk.2) (.bool ((rd_T47 t184 x80_2).f0))) (fun _ hk => hk.2) (.slice A200_1 ((rd_T47 t184 x80_2).f1).length c200_1)) (fun _ hk => hk.2) (.slice A200_2 ((rd_T47 t184 x80_2).f2).length c200_2)) (fun _ h_ => h_.1))) hb); have n4_ := Aside0.mk (Kd.V_below (by (with_reducible repeat (first | apply Kd.V_alloc | apply Kd.V_drewN | apply Kd.V_drew)); exact (Kd.V_mono (Kd.V_far (p := ⟨gb201, 2, none⟩) (Kd.V_far (p := ⟨gb201, 1, none⟩) (Kd.V_far (p := ⟨gb201, 0, none⟩) (Kd.V_mono HL200_2.out (fun k_ hk => (⟨hk, hk.2⟩ : _ ∧ k_ ≠ gb201))) (fun _ hk => hk.2) (.bool ((rd_T47 t184 x80_2).f0))) (fun _ hk => hk.2) (.slice A200_1 ((rd_T47 t184 x80_2).f1).length c200_1)) (fun _ hk => hk.2) (.slice A200_2 ((rd_T47 t184 x80_2).f2).length c200_2)) (fun _ h_ => h_.1))) hb); have n5_ := Aside0.mk (blk_below (g := gb182) (o := .cells #[.int .i64 a2_0, .int .i64 a2_1] 38 (0, 0)) (by (with_reducible repeat (first | refine blk_drewN ?_ _ | refine blk_drew ?_ | refine blk_alloc ?_ _)); refine blk_far ?_ NB182_201.out _; (with_reducible repeat (first | refine blk_drewN ?_ _ | refine blk_drew ?_ | refine blk_alloc ?_ _)); refine blk_far ?_ NB182_201.out _; (with_reducible repeat (first | refine blk_drewN ?_ _ | refine blk_drew ?_ | refine blk_alloc ?_ _)); refine blk_far ?_ NB182_201.out _; (with_reducible repeat (first | refine blk_drewN ?_ _ | refine blk_drew ?_ | refine blk_alloc ?_ _)); exact BK182.out) hb); have n6_ := Aside0.mk (Kd.C_below ((Kd.V_reads' (by (with_reducible repeat (first | apply Kd.V_alloc | apply Kd.V_drewN | apply Kd.V_drew)); exact (Kd.V_mono (Kd.V_far (p := ⟨gb201, 2, none⟩) (Kd.V_far (p := ⟨gb201, 1, none⟩) (Kd.V_far (p := ⟨gb201, 0, none⟩) (Kd.V_mono HL200_1.out (fun k_ hk => (⟨hk, hk.2⟩ : _ ∧ k_ ≠ gb201))) (fun _ hk => hk.2) (.bool ((rd_T47 t184 x80_2).f0))) (fun _ hk => hk.2) (.slice A200_1 ((rd_T47 t184 x80_2).f1).length c200_1)) (fun _ hk => hk.2) (.slice A200_2 ((rd_T47 t184 x80_2).f2).length c200_2)) (fun _ h_ => h_.1)))).2.2) hb); have n7_ := Aside0.mk (Kd.C_below ((Kd.V_reads' (by (with_reducible repeat (first | apply Kd.V_alloc | apply Kd.V_drewN | apply Kd.V_drew)); exact (Kd.V_mono (Kd.V_far (p := ⟨gb201, 2, none⟩) (Kd.V_far (p := ⟨gb201, 1, none⟩) (Kd.V_far (p := ⟨gb201, 0, none⟩) (Kd.V_mono HL200_2.out (fun k_ hk => (⟨hk, hk.2⟩ : _ ∧ k_ ≠ gb201))) (fun _ hk => hk.2) (.bool ((rd_T47 t184 x80_2).f0))) (fun _ hk => hk.2) (.slice A200_1 ((rd_T47 t184 x80_2).f1).length c200_1)) (fun _ hk => hk.2) (.slice A200_2 ((rd_T47 t184 x80_2).f2).length c200_2)) (fun _ h_ => h_.1)))).2.2) hb); have n8_ := Aside0.mk (blk_below (g := gb201) (o := .cells #[.bool ((rd_T47 t184 x80_2).f0), .slice A200_1 ((rd_T47 t184 x80_2).f1).length c200_1, .slice A200_2 ((rd_T47 t184 x80_2).f2).length c200_2] 47 (0, 0)) (by (with_reducible repeat (first | refine blk_drewN ?_ _ | refine blk_drew ?_ | refine blk_alloc ?_ _)); refine blk_put (cs := #[.bool ((rd_T47 t184 x80_2).f0), .slice A200_1 ((rd_T47 t184 x80_2).f1).length c200_1, .slice none 0 0]) ?_ 2 _ rfl; (with_reducible repeat (first | refine blk_drewN ?_ _ | refine blk_drew ?_ | refine blk_alloc ?_ _)); refine blk_put (cs := #[.bool ((rd_T47 t184 x80_2).f0), .slice none 0 0, .slice none 0 0]) ?_ 1 _ rfl; (with_reducible repeat (first | refine blk_drewN ?_ _ | refine blk_drew ?_ | refine blk_alloc ?_ _)); refine blk_put (cs := #[.bool false, .slice none 0 0, .slice none 0 0]) ?_ 0 _ rfl; (with_reducible repeat (first | refine blk_drewN ?_ _ | refine blk_drew ?_ | refine blk_alloc ?_ _)); exact BK201.out) hb); have n9_ := Aside0.mk (below_step (by repeat (first | (with_reducible first | exact HB.out | apply below_alloc | apply pw_below_drewN | apply below_drew1 | refine below_set ?_ GE182.out | refine below_set ?_ GE201.out) | exact HB.out)) hb); clear HO_9; clear HO_15; clear HO_78; clear HL200_1; clear HL200_2; clear BK182; clear HR200_1; clear HR200_2; clear BK201; clear HB; have HO_9 := n0_; have HO_15 := n1_; have HO_78 := n2_; have HL200_1 := n3_; have HL200_2 := n4_; have BK182 := n5_; have HR200_1 := n6_; have HR200_2 := n7_; have BK201 := n8_; have HB := n9_; clear n0_ n1_ n2_ n3_ n4_ n5_ n6_ n7_ n8_ n9_; (try clear hb); (try clear hb2); (try clear hk); (try clear hi); have hcz120_0 : w119.cell? ⟨gb201, 0, none⟩ = some (.bool ((rd_T47 t184 x80_2).f0)) := (blk_cell BK201.out 0).trans rfl; have hcz120_1 : w119.cell? ⟨gb201, 1, none⟩ = some (.slice A200_1 ((rd_T47 t184 x80_2).f1).length c200_1) := (blk_cell BK201.out 1).trans rfl; have hcz120_2 : w119.cell? ⟨gb201, 2, none⟩ = some (.slice A200_2 ((rd_T47 t184 x80_2).f2).length c200_2) := (blk_cell BK201.out 2).trans rfl; have hfz120_0 := blk_frozen BK201.out 0; have hfz120_1 := blk_frozen BK201.out 1; have hfz120_2 := blk_frozen BK201.out 2))
                          go_loopg [95] k2 (fun kq v95 w' => ∃ (x95_3 : Int), v95 = .int .i64 x95_3 ∧ Aside0 (kissgatelaw17_SpreadAll.l3 kq l0 l1 t188 x15_2 t184 (t184.length : Int) x80_2 ((rd_T47 t184 x80_2).f1) (((rd_T47 t184 x80_2).f1).length : Int) x95_3 a2_0 a2_1 = some r) ∧ Aside0 (kq ≤ k2) ∧ Aside0 (Kd.R k38 38 w' w.heap.size (fun k_ => k_ ≠ gb182) (.slice Ao17 t188.length co17) t188) ∧ Aside0 (Kd.R (Kd.int .i64) 3 w' w.heap.size (fun _ => True) u15 x15_2) ∧ Aside0 (Kd.N k47 47 w' w.heap.size (fun k_ => some k_ ≠ ((.slice Ao17 t188.length co17) : Value).ownBlock ∧ some k_ ≠ (u15 : Value).ownBlock ∧ k_ ≠ gb182 ∧ k_ ≠ gb201) (.slice (some ad200) t184.length co86) t184) ∧ Aside0 (w'.heap[gb182]? = some (.cells #[.int .i64 a2_0, .int .i64 a2_1] 38 (0, 0))) ∧ Aside0 (w'.heap[gb201]? = some (.cells #[.bool ((rd_T47 t184 x80_2).f0), (.slice A200_1 ((rd_T47 t184 x80_2).f1).length c200_1), (.slice A200_2 ((rd_T47 t184 x80_2).f2).length c200_2)] 47 (0, 0))) ∧ Aside0 (Below w.heap.size w w') ∧ Aside0 (Kd.C k38 w' A200_1 ((rd_T47 t184 x80_2).f1).length ((rd_T47 t184 x80_2).f1)))
                          case atStart => exact ⟨(0), (by first | rfl | (simp; done) | (simp [*]; done)), H', ⟨Nat.le_refl _⟩, ⟨by (with_reducible repeat (first | apply Kd.R_alloc | apply Kd.R_drewN | apply Kd.R_drew)); exact HO_9.out⟩, ⟨by (with_reducible repeat (first | apply Kd.R_alloc | apply Kd.R_drewN | apply Kd.R_drew)); exact HO_15.out⟩, ⟨by (with_reducible repeat (first | apply Kd.N_alloc | apply Kd.N_drewN | apply Kd.N_drew)); exact Kd.N_mono HO_78.out (fun _ hk => ⟨hk.1.1, ⟨hk.1.2.1, ⟨hk.1.2.2, hk.2⟩⟩⟩)⟩, ⟨by (with_reducible repeat (first | refine blk_drewN ?_ _ | refine blk_drew ?_ | refine blk_alloc ?_ _)); exact BK182.out⟩, ⟨by (with_reducible repeat (first | refine blk_drewN ?_ _ | refine blk_drew ?_ | refine blk_alloc ?_ _)); exact BK201.out⟩, ⟨by repeat (first | (with_reducible first | exact HB.out | apply below_alloc | apply pw_below_drewN | apply below_drew1 | refine below_set ?_ GE182.out | refine below_set ?_ GE201.out) | exact HB.out)⟩, ⟨by (with_reducible repeat (first | refine Kd.C_alloc ?_ _ | refine Kd.C_drewN ?_ _ | refine Kd.C_drew ?_)); exact (Kd.V_reads' HL200_1.out).2.2⟩⟩
                          case round =>
                            clear H'
                            try clear c1
                            try clear p1
                            try clear q1
                            try clear hx1
                            try clear c2
                            try clear p2
                            try clear q2
                            try clear hx2
                            try clear c3
                            try clear c4
                            try clear c5
                            try clear c6
                            try clear p6
                            try clear c7
                            try clear c8
                            try clear c8b0
                            try clear c8b1
                            try clear c9
                            try clear c10
                            try clear c11
                            try clear c13
                            try clear c18
                            try clear c18b0
                            try clear c19
                            try clear c19b0
                            try clear p19
                            try clear q19
                            try clear hx19
                            try clear c20
                            try clear c20b0
                            try clear p20
                            try clear q20
                            try clear hx20
                            try clear c21
                            try clear c21b0
                            try clear c23
                            try clear c23b0
                            try clear c24
                            try clear c24b0
                            try clear c26
                            try clear c29
                            try clear c33
                            try clear c34
                            try clear c35
                            try clear c37
                            try clear c37b0
                            try clear c38
                            try clear c38b0
                            try clear c39
                            try clear c39b0
                            try clear c40
                            try clear c42
                            try clear c43
                            try clear c47
                            try clear c48
                            try clear c50
                            try clear c53
                            try clear c55
                            try clear c62
                            try clear p64
                            try clear c69
                            try clear c69b0
                            try clear c70
                            try clear c70b0
                            try clear c71
                            try clear c71b0
                            try clear c72
                            try clear c74
                            try clear c75
                            try clear c79
                            try clear c80
                            try clear c82
                            try clear c85
                            try clear c87
                            try clear c87b0
                            try clear c88
                            try clear c88b0
                            try clear c89
                            try clear c89b0
                            try clear c91
                            try clear c92
                            try clear c94
                            try clear c100
                            try clear c100b0
                            try clear c101
                            try clear c101b0
                            try clear c102
                            try clear c102b0
                            try clear c104
                            try clear c106
                            try clear c107
                            try clear c111
                            try clear c112
                            try clear c116
                            try clear hcz108_0
                            try clear hcz108_1
                            try clear hcz113_0
                            try clear hcz113_1
                            try clear hcz117_0
                            try clear hcz117_1
                            try clear hcz117_2
                            try clear hcz118_0
                            try clear hcz118_1
                            try clear hcz120_0
                            try clear hcz120_1
                            try clear hcz120_2
                            try clear hcz30_0
                            try clear hcz30_1
                            try clear hcz34_0
                            try clear hcz34_1
                            try clear hcz44_0
                            try clear hcz44_1
                            try clear hcz44_2
                            try clear hcz49_0
                            try clear hcz49_1
                            try clear hcz49_2
                            try clear hcz51_0
                            try clear hcz51_1
                            try clear hcz56_0
                            try clear hcz56_1
                            try clear hcz63_0
                            try clear hcz63_1
                            try clear hcz66_0
                            try clear hcz66_1
                            try clear hcz76_0
                            try clear hcz76_1
                            try clear hcz76_2
                            try clear hcz81_0
                            try clear hcz81_1
                            try clear hcz81_2
                            try clear hcz83_0
                            try clear hcz83_1
                            try clear hcz95_0
                            try clear hcz95_1
                            try clear hcz95_2
                            try clear hcz96_0
                            try clear hcz96_1
                            try clear hcz99_0
                            try clear hcz99_1
                            try clear hcz99_2
                            try clear hfz108_0
                            try clear hfz108_1
                            try clear hfz113_0
                            try clear hfz113_1
                            try clear hfz117_0
                            try clear hfz117_1
                            try clear hfz117_2
                            try clear hfz118_0
                            try clear hfz118_1
                            try clear hfz120_0
                            try clear hfz120_1
                            try clear hfz120_2
                            try clear hfz30_0
                            try clear hfz30_1
                            try clear hfz34_0
                            try clear hfz34_1
                            try clear hfz44_0
                            try clear hfz44_1
                            try clear hfz44_2
                            try clear hfz49_0
                            try clear hfz49_1
                            try clear hfz49_2
                            try clear hfz51_0
                            try clear hfz51_1
                            try clear hfz56_0
                            try clear hfz56_1
                            try clear hfz63_0
                            try clear hfz63_1
                            try clear hfz66_0
                            try clear hfz66_1
                            try clear hfz76_0
                            try clear hfz76_1
                            try clear hfz76_2
                            try clear hfz81_0
                            try clear hfz81_1
                            try clear hfz81_2
                            try clear hfz83_0
                            try clear hfz83_1
                            try clear hfz95_0
                            try clear hfz95_1
                            try clear hfz95_2
                            try clear hfz96_0
                            try clear hfz96_1
                            try clear hfz99_0
                            try clear hfz99_1
                            try clear hfz99_2
                            try clear hx191_0
                            try clear hx191_1
                            try clear hx193_0
                            try clear hx193_1
                            try clear hx196_0
                            try clear hx196_1
                            try clear hx196_2
                            try clear hx200_0
                            try clear hx200_1
                            try clear hx200_2
                            try clear hx206_0
                            try clear hx206_1
                            try clear p1
                            try clear p19
                            try clear p191
                            try clear p193
                            try clear p196
                            try clear p2
                            try clear p20
                            try clear p200
                            try clear p206
                            try clear p6
                            try clear p64
                            try clear q1
                            try clear q19
                            try clear q191
                            try clear q193
                            try clear q196
                            try clear q2
                            try clear q20
                            try clear q200
                            try clear q206
                            obtain ⟨x95_3, rfl, HA, HK3, HO_9, HO_15, HO_78, BK182, BK201, HB, HRX⟩ := hrel
                            have HX := Aside0.mk (CX.start HRX.out)
                            clear HRX
                            cases gk with
                            | zero => exact absurd HA.out (by simp [kissgatelaw17_SpreadAll.l3])
                            | succ k3 =>
                              have H := HA.out
                              clear HA
                              simp only [kissgatelaw17_SpreadAll.l3] at H
                              by_cases c121 : x95_3 < (((rd_T47 t184 x80_2).f1).length : Int)
                              · rw [if_pos c121] at H
                                have c121b0 : decide (x95_3 < (((rd_T47 t184 x80_2).f1).length : Int)) = true := decide_eq_true c121
                                clear c121
                                by_cases c122 : 0 ≤ x95_3
                                · rw [if_pos c122] at H
                                  have c122b0 : decide (0 ≤ x95_3) = true := decide_eq_true c122
                                  clear c122
                                  by_cases c123 : x95_3 < (((rd_T47 t184 x80_2).f1).length : Int)
                                  · rw [if_pos c123] at H
                                    have c123b0 : decide (x95_3 < (((rd_T47 t184 x80_2).f1).length : Int)) = true := decide_eq_true c123
                                    clear c123
                                    replace H := Option.bind_eq_some_iff.mp H
                                    obtain ⟨t208, A1240, H⟩ := H
                                    replace H : (if t208 = true then (kissgatelaw17_SpreadAll.l3 k3 l0 l1 t188 x15_2 t184 (t184.length : Int) x80_2 ((rd_T47 t184 x80_2).f1) (((rd_T47 t184 x80_2).f1).length : Int) (wrap64 (x95_3 + 1)) a2_0 a2_1) else (some false)) = some r := H
                                    have A124 := Aside0.mk A1240
                                    clear A1240
                                    by_cases c125 : t208 = true
                                    · subst c125
                                      have H1 : (kissgatelaw17_SpreadAll.l3 k3 l0 l1 t188 x15_2 t184 (t184.length : Int) x80_2 ((rd_T47 t184 x80_2).f1) (((rd_T47 t184 x80_2).f1).length : Int) (wrap64 (x95_3 + 1)) a2_0 a2_1) = some r := by rw [if_pos rfl] at H; exact H
                                      clear H
                                      have H := H1
                                      clear H1
                                      have H' := Aside0.mk H
                                      clear H
                                      have p206 : 0 ≤ (x95_3 : Int) := of_decide_eq_true (by first | (with_reducible assumption) | assumption)
                                      have q206 : x95_3 < (((rd_T47 t184 x80_2).f1).length : Int) := of_decide_eq_true (by first | (with_reducible assumption) | assumption)
                                      obtain ⟨ad206, e206, hx206_0, hx206_1⟩ := at_T38 HX.out.row x95_3 p206 q206
                                      cases e206
                                      replace p206 := eq_true p206
                                      replace q206 := eq_true q206
                                      go_wp2_with (first | ((with_reducible refine gate_dst (N := 19) rfl ?_); (try (refine gate_guard (by rfl) ?_; dsimp only)); refine box_event ?hg (N := 19) ?hd (cs := #[.int .i64 0, .int .i64 0]) (t := 38) ?hr ?_; (case hd => rfl); (case hg => rfl); (case hr => first | (go_simp; done) | (go_simp; rfl)); intro gb207 hg w126 hbox hb; have n0_ := Aside0.mk (Kd.R_below (Kd.R_elderB (by (with_reducible repeat (first | apply Kd.R_alloc | apply Kd.R_drewN | apply Kd.R_drew)); exact HO_9.out) gb207 (Nat.le_of_eq hg.symm)) hb); have n1_ := Aside0.mk (Kd.R_below (by (with_reducible repeat (first | apply Kd.R_alloc | apply Kd.R_drewN | apply Kd.R_drew)); exact HO_15.out) hb); have n2_ := Aside0.mk (Kd.N_below (Kd.N_elderB (by (with_reducible repeat (first | apply Kd.N_alloc | apply Kd.N_drewN | apply Kd.N_drew)); exact HO_78.out) gb207 (Nat.le_of_eq hg.symm)) hb); have n3_ := Aside0.mk (blk_below (g := gb182) (o := .cells #[.int .i64 a2_0, .int .i64 a2_1] 38 (0, 0)) (by (with_reducible repeat (first | refine blk_drewN ?_ _ | refine blk_drew ?_ | refine blk_alloc ?_ _)); exact BK182.out) hb); have n4_ := Aside0.mk (blk_below (g := gb201) (o := .cells #[.bool ((rd_T47 t184 x80_2).f0), .slice (some ad206) ((rd_T47 t184 x80_2).f1).length c200_1, .slice A200_2 ((rd_T47 t184 x80_2).f2).length c200_2] 47 (0, 0)) (by (with_reducible repeat (first | refine blk_drewN ?_ _ | refine blk_drew ?_ | refine blk_alloc ?_ _)); exact BK201.out) hb); have n5_ := Aside0.mk (below_step (by repeat (first | (with_reducible first | exact HB.out | apply below_alloc | apply pw_below_drewN | apply below_drew1 | refine below_set ?_ GE182.out | refine below_set ?_ GE201.out) | exact HB.out)) hb); have n6_ := Aside0.mk (hbox); have n7_ := Aside0.mk ((by rw [hg]; exact (below_size (by repeat (first | (with_reducible first | exact HB.out | apply below_alloc | apply pw_below_drewN | apply below_drew1 | refine below_set ?_ GE182.out | refine below_set ?_ GE201.out) | exact HB.out))) : w.heap.size ≤ gb207)); have n8_ := Aside0.mk ((by rw [hg]; exact (below_size (by repeat (first | (with_reducible first | exact HB.out | apply below_alloc | apply pw_below_drewN | apply below_drew1 | refine below_set ?_ GE182.out | refine below_set ?_ GE201.out) | exact HB.out))) : w.heap.size ≤ gb207)); have n9_ := Aside0.mk ((by rw [hg]; exact Nat.ne_of_lt (blk_lt (g := gb182) (o := .cells #[.int .i64 a2_0, .int .i64 a2_1] 38 (0, 0)) (by (with_reducible repeat (first | refine blk_drewN ?_ _ | refine blk_drew ?_ | refine blk_alloc ?_ _)); exact BK182.out)) : gb182 ≠ gb207)); have n10_ := Aside0.mk ((by rw [hg]; exact Nat.ne_of_gt (blk_lt (g := gb182) (o := .cells #[.int .i64 a2_0, .int .i64 a2_1] 38 (0, 0)) (by (with_reducible repeat (first | refine blk_drewN ?_ _ | refine blk_drew ?_ | refine blk_alloc ?_ _)); exact BK182.out)) : gb207 ≠ gb182)); have n11_ := Aside0.mk ((by rw [hg]; exact Nat.ne_of_lt (blk_lt (g := gb201) (o := .cells #[.bool ((rd_T47 t184 x80_2).f0), .slice (some ad206) ((rd_T47 t184 x80_2).f1).length c200_1, .slice A200_2 ((rd_T47 t184 x80_2).f2).length c200_2] 47 (0, 0)) (by (with_reducible repeat (first | refine blk_drewN ?_ _ | refine blk_drew ?_ | refine blk_alloc ?_ _)); exact BK201.out)) : gb201 ≠ gb207)); have n12_ := Aside0.mk ((by rw [hg]; exact Nat.ne_of_gt (blk_lt (g := gb201) (o := .cells #[.bool ((rd_T47 t184 x80_2).f0), .slice (some ad206) ((rd_T47 t184 x80_2).f1).length c200_1, .slice A200_2 ((rd_T47 t184 x80_2).f2).length c200_2] 47 (0, 0)) (by (with_reducible repeat (first | refine blk_drewN ?_ _ | refine blk_drew ?_ | refine blk_alloc ?_ _)); exact BK201.out)) : gb207 ≠ gb201)); have x0_ := Aside0.mk (CX.step HX.out hb); have x1_ := Aside0.mk (Nat.le_trans (CX.le HX.out) (Nat.le_of_eq hg.symm)); clear HX; have HX := x0_; have GX := x1_; clear x0_ x1_; clear HO_9; clear HO_15; clear HO_78; clear BK182; clear BK201; clear HB; have HO_9 := n0_; have HO_15 := n1_; have HO_78 := n2_; have BK182 := n3_; have BK201 := n4_; have HB := n5_; have BK207 := n6_; have GW207 := n7_; have GE207 := n8_; have NB182_207 := n9_; have NB207_182 := n10_; have NB201_207 := n11_; have NB207_201 := n12_; clear n0_ n1_ n2_ n3_ n4_ n5_ n6_ n7_ n8_ n9_ n10_ n11_ n12_; clear hb hbox hg; have hnb127 := NB207_182.out; have hnc127 := NB182_207.out; have hnb128 := NB207_201.out; have hnc128 := NB201_207.out; have hcz129_0 : w126.cell? ⟨gb207, 0, none⟩ = some (.int .i64 0) := (blk_cell BK207.out 0).trans rfl; have hcz129_1 : w126.cell? ⟨gb207, 1, none⟩ = some (.int .i64 0) := (blk_cell BK207.out 1).trans rfl; have hfz129_0 := blk_frozen BK207.out 0; have hfz129_1 := blk_frozen BK207.out 1) | ((with_reducible refine gate_callee (f := 35) rfl ?_); refine goesL_ (some 102) rfl rfl Try.func35 (by kernel_rfl) rfl #[.agg #[.bool false, .slice Ao17 t188.length co17, .slice none 0 0], .agg #[.int .i64 ((rd_T38 ((rd_T47 t184 x80_2).f1) x95_3).f0), .int .i64 ((rd_T38 ((rd_T47 t184 x80_2).f1) x95_3).f1)]] rfl (by (try simp only [List.map_toArray, List.map_cons, List.map_nil]); first | done | rfl | (simp only [List.length_drop, List.length_take]; rfl)) ?_; (refine (kissgateref17_Has.calls k3 false _ _ t188 _ _ ([] : List Int) ((rd_T38 ((rd_T47 t184 x80_2).f1) x95_3).f0) ((rd_T38 ((rd_T47 t184 x80_2).f1) x95_3).f1) true _ ?side1 ?side2 ?side3 ?side4 A124.out).mono ?_); (case side1 => refine (Kd.R_reads' (e := 38) (base := w.heap.size) (ok := fun k_ => (k_ ≠ gb182 ∧ k_ ≠ gb207)) (n := t188.length) (c := co17) ?_).2.2; exact (by (with_reducible repeat (first | apply Kd.R_alloc | apply Kd.R_drewN | apply Kd.R_drew)); exact (Kd.R_mono (Kd.R_far (p := ⟨gb207, 1, none⟩) (Kd.R_far (p := ⟨gb207, 0, none⟩) (Kd.R_mono HO_9.out (fun k_ hk => (⟨hk, hk.2⟩ : _ ∧ k_ ≠ gb207))) (fun _ hk => hk.2) (.int .i64 ((rd_T38 ((rd_T47 t184 x80_2).f1) x95_3).f0))) (fun _ hk => hk.2) (.int .i64 ((rd_T38 ((rd_T47 t184 x80_2).f1) x95_3).f1))) (fun _ h_ => h_.1)))); (case side2 => exact (Kd.R_reads' HO_9.out).2.1); (case side3 => exact Kd.C_nil _ _); (case side4 => exact Nat.le_refl _); rintro e w130 ⟨rfl, hb⟩; refine ⟨_, rfl, ?_⟩; have n0_ := Aside0.mk (Kd.R_below (by (with_reducible repeat (first | apply Kd.R_alloc | apply Kd.R_drewN | apply Kd.R_drew)); exact (Kd.R_mono (Kd.R_far (p := ⟨gb207, 1, none⟩) (Kd.R_far (p := ⟨gb207, 0, none⟩) (Kd.R_mono HO_9.out (fun k_ hk => (⟨hk, hk.2⟩ : _ ∧ k_ ≠ gb207))) (fun _ hk => hk.2) (.int .i64 ((rd_T38 ((rd_T47 t184 x80_2).f1) x95_3).f0))) (fun _ hk => hk.2) (.int .i64 ((rd_T38 ((rd_T47 t184 x80_2).f1) x95_3).f1))) (fun _ h_ => h_.1))) hb); have n1_ := Aside0.mk (Kd.R_below (by (with_reducible repeat (first | apply Kd.R_alloc | apply Kd.R_drewN | apply Kd.R_drew)); exact (Kd.R_mono (Kd.R_far (p := ⟨gb207, 1, none⟩) (Kd.R_far (p := ⟨gb207, 0, none⟩) (Kd.R_types HO_15.out BK207.out (by decide)) (fun _ hk => hk.2) (.int .i64 ((rd_T38 ((rd_T47 t184 x80_2).f1) x95_3).f0))) (fun _ hk => hk.2) (.int .i64 ((rd_T38 ((rd_T47 t184 x80_2).f1) x95_3).f1))) (fun _ h_ => h_.1))) hb); have n2_ := Aside0.mk (Kd.N_below (by (with_reducible repeat (first | apply Kd.N_alloc | apply Kd.N_drewN | apply Kd.N_drew)); exact (Kd.N_mono (Kd.N_far (p := ⟨gb207, 1, none⟩) (Kd.N_far (p := ⟨gb207, 0, none⟩) (Kd.N_mono HO_78.out (fun k_ hk => (⟨hk, hk.2⟩ : _ ∧ k_ ≠ gb207))) (fun _ hk => hk.2) (.int .i64 ((rd_T38 ((rd_T47 t184 x80_2).f1) x95_3).f0))) (fun _ hk => hk.2) (.int .i64 ((rd_T38 ((rd_T47 t184 x80_2).f1) x95_3).f1))) (fun _ h_ => h_.1))) hb); have n3_ := Aside0.mk (blk_below (g := gb182) (o := .cells #[.int .i64 a2_0, .int .i64 a2_1] 38 (0, 0)) (by (with_reducible repeat (first | refine blk_drewN ?_ _ | refine blk_drew ?_ | refine blk_alloc ?_ _)); refine blk_far ?_ NB182_207.out _; (with_reducible repeat (first | refine blk_drewN ?_ _ | refine blk_drew ?_ | refine blk_alloc ?_ _)); refine blk_far ?_ NB182_207.out _; (with_reducible repeat (first | refine blk_drewN ?_ _ | refine blk_drew ?_ | refine blk_alloc ?_ _)); exact BK182.out) hb); have n4_ := Aside0.mk (blk_below (g := gb201) (o := .cells #[.bool ((rd_T47 t184 x80_2).f0), .slice (some ad206) ((rd_T47 t184 x80_2).f1).length c200_1, .slice A200_2 ((rd_T47 t184 x80_2).f2).length c200_2] 47 (0, 0)) (by (with_reducible repeat (first | refine blk_drewN ?_ _ | refine blk_drew ?_ | refine blk_alloc ?_ _)); refine blk_far ?_ NB201_207.out _; (with_reducible repeat (first | refine blk_drewN ?_ _ | refine blk_drew ?_ | refine blk_alloc ?_ _)); refine blk_far ?_ NB201_207.out _; (with_reducible repeat (first | refine blk_drewN ?_ _ | refine blk_drew ?_ | refine blk_alloc ?_ _)); exact BK201.out) hb); have n5_ := Aside0.mk (blk_below (g := gb207) (o := .cells #[.int .i64 ((rd_T38 ((rd_T47 t184 x80_2).f1) x95_3).f0), .int .i64 ((rd_T38 ((rd_T47 t184 x80_2).f1) x95_3).f1)] 38 (0, 0)) (by (with_reducible repeat (first | refine blk_drewN ?_ _ | refine blk_drew ?_ | refine blk_alloc ?_ _)); refine blk_put (cs := #[.int .i64 ((rd_T38 ((rd_T47 t184 x80_2).f1) x95_3).f0), .int .i64 0]) ?_ 1 _ rfl; (with_reducible repeat (first | refine blk_drewN ?_ _ | refine blk_drew ?_ | refine blk_alloc ?_ _)); refine blk_put (cs := #[.int .i64 0, .int .i64 0]) ?_ 0 _ rfl; (with_reducible repeat (first | refine blk_drewN ?_ _ | refine blk_drew ?_ | refine blk_alloc ?_ _)); exact BK207.out) hb); have n6_ := Aside0.mk (below_step (by repeat (first | (with_reducible first | exact HB.out | apply below_alloc | apply pw_below_drewN | apply below_drew1 | refine below_set ?_ GE182.out | refine below_set ?_ GE201.out | refine below_set ?_ GE207.out) | exact HB.out)) hb); have x0_ := Aside0.mk (CX.step (CX.set (CX.set HX.out GX.out) GX.out) hb); clear HX; have HX := x0_; clear x0_; clear HO_9; clear HO_15; clear HO_78; clear BK182; clear BK201; clear BK207; clear HB; have HO_9 := n0_; have HO_15 := n1_; have HO_78 := n2_; have BK182 := n3_; have BK201 := n4_; have BK207 := n5_; have HB := n6_; clear n0_ n1_ n2_ n3_ n4_ n5_ n6_; (try clear hb); (try clear hb2); (try clear hk); (try clear hi)))
                                      go_roundg k3
                                      case measure => have := HK1.out; have := HK2.out; have := HK3.out; omega
                                      case rel => exact ⟨(wrap64 (x95_3 + 1)), (by first | rfl | (simp; done) | (simp [*]; done)), H', ⟨by have := HK1.out; have := HK2.out; have := HK3.out; omega⟩, ⟨by (with_reducible repeat (first | apply Kd.R_alloc | apply Kd.R_drewN | apply Kd.R_drew)); exact Kd.R_mono HO_9.out (fun _ hk => hk.1)⟩, ⟨by (with_reducible repeat (first | apply Kd.R_alloc | apply Kd.R_drewN | apply Kd.R_drew)); exact HO_15.out⟩, ⟨by (with_reducible repeat (first | apply Kd.N_alloc | apply Kd.N_drewN | apply Kd.N_drew)); exact Kd.N_mono HO_78.out (fun _ hk => ⟨hk.1.1, ⟨hk.1.2.1, ⟨hk.1.2.2.1, hk.1.2.2.2⟩⟩⟩)⟩, ⟨by (with_reducible repeat (first | refine blk_drewN ?_ _ | refine blk_drew ?_ | refine blk_alloc ?_ _)); exact BK182.out⟩, ⟨by (with_reducible repeat (first | refine blk_drewN ?_ _ | refine blk_drew ?_ | refine blk_alloc ?_ _)); exact BK201.out⟩, ⟨by repeat (first | (with_reducible first | exact HB.out | apply below_alloc | apply pw_below_drewN | apply below_drew1 | refine below_set ?_ GE182.out | refine below_set ?_ GE201.out | refine below_set ?_ GE207.out) | exact HB.out)⟩, ⟨CX.now HX.out⟩⟩
                                    · replace c125 := Bool.eq_false_iff.mpr c125
                                      subst c125
                                      have H1 : (some false) = some r := by rw [if_neg (show ¬ (false = true) by decide)] at H; exact H
                                      clear H
                                      have H := H1
                                      clear H1
                                      exact absurd (Option.some.inj H) (by rw [HRT.out]; decide)
                                  · rw [if_neg c123] at H
                                    exact absurd H (by simp)
                                · rw [if_neg c122] at H
                                  exact absurd H (by simp)
                              · rw [if_neg c121] at H
                                have c121b0 : decide (x95_3 < (((rd_T47 t184 x80_2).f1).length : Int)) = false := decide_eq_false c121
                                clear c121
                                have H' := Aside0.mk H
                                clear H
                                go_wp2
                                go_roundg k3
                                case measure => have := HK1.out; have := HK2.out; have := HK3.out; omega
                                case rel => exact ⟨(x15_2), (wrap64 (x80_2 + 1)), (by first | rfl | (simp; done) | (simp [*]; done)), H', ⟨by have := HK1.out; have := HK2.out; have := HK3.out; omega⟩, ⟨by (with_reducible repeat (first | apply Kd.R_alloc | apply Kd.R_drewN | apply Kd.R_drew)); exact HO_9.out⟩, ⟨by (with_reducible repeat (first | apply Kd.R_alloc | apply Kd.R_drewN | apply Kd.R_drew)); exact HO_15.out⟩, ⟨by (with_reducible repeat (first | apply Kd.N_alloc | apply Kd.N_drewN | apply Kd.N_drew)); exact Kd.N_mono HO_78.out (fun _ hk => ⟨hk.1, ⟨hk.2.1, hk.2.2.1⟩⟩)⟩, ⟨by (with_reducible repeat (first | refine blk_drewN ?_ _ | refine blk_drew ?_ | refine blk_alloc ?_ _)); exact BK182.out⟩, ⟨by repeat (first | (with_reducible first | exact HB.out | apply below_alloc | apply pw_below_drewN | apply below_drew1 | refine below_set ?_ GE182.out | refine below_set ?_ GE201.out) | exact HB.out)⟩⟩
                      · rw [if_neg c89] at H
                        exact absurd H (by simp)
                    · rw [if_neg c88] at H
                      exact absurd H (by simp)
                  · rw [if_neg c87] at H
                    have c87b0 : decide (x80_2 < (t184.length : Int)) = false := decide_eq_false c87
                    clear c87
                    have H' := Aside0.mk H
                    clear H
                    go_wp2
                    go_loopg [108] k2 (fun kq v108 w' => ∃ (x108_3 : Int), v108 = .int .i64 x108_3 ∧ Aside0 (kissgatelaw17_SpreadAll.l4 kq l0 t188 x15_2 l1 (l1.length : Int) x108_3 a2_0 a2_1 = some r) ∧ Aside0 (kq ≤ k2) ∧ Aside0 (Kd.R k38 38 w' w.heap.size (fun k_ => k_ ≠ gb182) (.slice Ao17 t188.length co17) t188) ∧ Aside0 (Kd.R (Kd.int .i64) 3 w' w.heap.size (fun _ => True) u15 x15_2) ∧ Aside0 (w'.heap[gb182]? = some (.cells #[.int .i64 a2_0, .int .i64 a2_1] 38 (0, 0))) ∧ Aside0 (Below w.heap.size w w'))
                    case atStart => exact ⟨(0), (by first | rfl | (simp; done) | (simp [*]; done)), H', ⟨Nat.le_refl _⟩, ⟨by (with_reducible repeat (first | apply Kd.R_alloc | apply Kd.R_drewN | apply Kd.R_drew)); exact HO_9.out⟩, ⟨by (with_reducible repeat (first | apply Kd.R_alloc | apply Kd.R_drewN | apply Kd.R_drew)); exact HO_15.out⟩, ⟨by (with_reducible repeat (first | refine blk_drewN ?_ _ | refine blk_drew ?_ | refine blk_alloc ?_ _)); exact BK182.out⟩, ⟨by repeat (first | (with_reducible first | exact HB.out | apply below_alloc | apply pw_below_drewN | apply below_drew1 | refine below_set ?_ GE182.out) | exact HB.out)⟩⟩
                    case round =>
                      clear H'
                      try clear c1
                      try clear p1
                      try clear q1
                      try clear hx1
                      try clear c2
                      try clear p2
                      try clear q2
                      try clear hx2
                      try clear c3
                      try clear c4
                      try clear c5
                      try clear c6
                      try clear p6
                      try clear c7
                      try clear c8
                      try clear c8b0
                      try clear c8b1
                      try clear c9
                      try clear c10
                      try clear c11
                      try clear c12
                      try clear c13
                      try clear c18
                      try clear c18b0
                      try clear c19
                      try clear c19b0
                      try clear p19
                      try clear q19
                      try clear hx19
                      try clear c20
                      try clear c20b0
                      try clear p20
                      try clear q20
                      try clear hx20
                      try clear c21
                      try clear c21b0
                      try clear c23
                      try clear c23b0
                      try clear c24
                      try clear c24b0
                      try clear c26
                      try clear c29
                      try clear c33
                      try clear c34
                      try clear c35
                      try clear c37
                      try clear c37b0
                      try clear c38
                      try clear c38b0
                      try clear c39
                      try clear c39b0
                      try clear c40
                      try clear c42
                      try clear c43
                      try clear c47
                      try clear c48
                      try clear c50
                      try clear c53
                      try clear c55
                      try clear c62
                      try clear p64
                      try clear c69
                      try clear c69b0
                      try clear c70
                      try clear c70b0
                      try clear c71
                      try clear c71b0
                      try clear c72
                      try clear c74
                      try clear c75
                      try clear c79
                      try clear c80
                      try clear c82
                      try clear c85
                      try clear c87
                      try clear c87b0
                      try clear c88
                      try clear c88b0
                      try clear c89
                      try clear c89b0
                      try clear c91
                      try clear c92
                      try clear c94
                      try clear c100
                      try clear c100b0
                      try clear c101
                      try clear c101b0
                      try clear c102
                      try clear c102b0
                      try clear c104
                      try clear c106
                      try clear c107
                      try clear c111
                      try clear c112
                      try clear c116
                      try clear c121
                      try clear c121b0
                      try clear c122
                      try clear c122b0
                      try clear c123
                      try clear c123b0
                      try clear c125
                      try clear c127
                      try clear c128
                      try clear c132
                      try clear c133
                      try clear hcz108_0
                      try clear hcz108_1
                      try clear hcz113_0
                      try clear hcz113_1
                      try clear hcz117_0
                      try clear hcz117_1
                      try clear hcz117_2
                      try clear hcz118_0
                      try clear hcz118_1
                      try clear hcz120_0
                      try clear hcz120_1
                      try clear hcz120_2
                      try clear hcz129_0
                      try clear hcz129_1
                      try clear hcz134_0
                      try clear hcz134_1
                      try clear hcz30_0
                      try clear hcz30_1
                      try clear hcz34_0
                      try clear hcz34_1
                      try clear hcz44_0
                      try clear hcz44_1
                      try clear hcz44_2
                      try clear hcz49_0
                      try clear hcz49_1
                      try clear hcz49_2
                      try clear hcz51_0
                      try clear hcz51_1
                      try clear hcz56_0
                      try clear hcz56_1
                      try clear hcz63_0
                      try clear hcz63_1
                      try clear hcz66_0
                      try clear hcz66_1
                      try clear hcz76_0
                      try clear hcz76_1
                      try clear hcz76_2
                      try clear hcz81_0
                      try clear hcz81_1
                      try clear hcz81_2
                      try clear hcz83_0
                      try clear hcz83_1
                      try clear hcz95_0
                      try clear hcz95_1
                      try clear hcz95_2
                      try clear hcz96_0
                      try clear hcz96_1
                      try clear hcz99_0
                      try clear hcz99_1
                      try clear hcz99_2
                      try clear hfz108_0
                      try clear hfz108_1
                      try clear hfz113_0
                      try clear hfz113_1
                      try clear hfz117_0
                      try clear hfz117_1
                      try clear hfz117_2
                      try clear hfz118_0
                      try clear hfz118_1
                      try clear hfz120_0
                      try clear hfz120_1
                      try clear hfz120_2
                      try clear hfz129_0
                      try clear hfz129_1
                      try clear hfz134_0
                      try clear hfz134_1
                      try clear hfz30_0
                      try clear hfz30_1
                      try clear hfz34_0
                      try clear hfz34_1
                      try clear hfz44_0
                      try clear hfz44_1
                      try clear hfz44_2
                      try clear hfz49_0
                      try clear hfz49_1
                      try clear hfz49_2
                      try clear hfz51_0
                      try clear hfz51_1
                      try clear hfz56_0
                      try clear hfz56_1
                      try clear hfz63_0
                      try clear hfz63_1
                      try clear hfz66_0
                      try clear hfz66_1
                      try clear hfz76_0
                      try clear hfz76_1
                      try clear hfz76_2
                      try clear hfz81_0
                      try clear hfz81_1
                      try clear hfz81_2
                      try clear hfz83_0
                      try clear hfz83_1
                      try clear hfz95_0
                      try clear hfz95_1
                      try clear hfz95_2
                      try clear hfz96_0
                      try clear hfz96_1
                      try clear hfz99_0
                      try clear hfz99_1
                      try clear hfz99_2
                      try clear hx191_0
                      try clear hx191_1
                      try clear hx193_0
                      try clear hx193_1
                      try clear hx196_0
                      try clear hx196_1
                      try clear hx196_2
                      try clear hx200_0
                      try clear hx200_1
                      try clear hx200_2
                      try clear hx206_0
                      try clear hx206_1
                      try clear p1
                      try clear p19
                      try clear p191
                      try clear p193
                      try clear p196
                      try clear p2
                      try clear p20
                      try clear p200
                      try clear p206
                      try clear p6
                      try clear p64
                      try clear q1
                      try clear q19
                      try clear q191
                      try clear q193
                      try clear q196
                      try clear q2
                      try clear q20
                      try clear q200
                      try clear q206
                      obtain ⟨x108_3, rfl, HA, HK3, HO_9, HO_15, BK182, HB⟩ := hrel
                      cases gk with
                      | zero => exact absurd HA.out (by simp [kissgatelaw17_SpreadAll.l4])
                      | succ k3 =>
                        have H := HA.out
                        clear HA
                        simp only [kissgatelaw17_SpreadAll.l4] at H
                        by_cases c136 : x108_3 < (l1.length : Int)
                        · rw [if_pos c136] at H
                          have c136b0 : decide (x108_3 < (l1.length : Int)) = true := decide_eq_true c136
                          clear c136
                          by_cases c137 : 0 ≤ x108_3
                          · rw [if_pos c137] at H
                            have c137b0 : decide (0 ≤ x108_3) = true := decide_eq_true c137
                            clear c137
                            by_cases c138 : x108_3 < (l1.length : Int)
                            · rw [if_pos c138] at H
                              have c138b0 : decide (x108_3 < (l1.length : Int)) = true := decide_eq_true c138
                              clear c138
                              replace H := Option.bind_eq_some_iff.mp H
                              obtain ⟨t211, A1390, H⟩ := H
                              replace H : (if t211 = true then (kissgatelaw17_SpreadAll.l4 k3 l0 t188 x15_2 l1 (l1.length : Int) (wrap64 (x108_3 + 1)) a2_0 a2_1) else (some false)) = some r := H
                              have A139 := Aside0.mk A1390
                              clear A1390
                              by_cases c140 : t211 = true
                              · subst c140
                                have H1 : (kissgatelaw17_SpreadAll.l4 k3 l0 t188 x15_2 l1 (l1.length : Int) (wrap64 (x108_3 + 1)) a2_0 a2_1) = some r := by rw [if_pos rfl] at H; exact H
                                clear H
                                have H := H1
                                clear H1
                                have H' := Aside0.mk H
                                clear H
                                have p209 : 0 ≤ (x108_3 : Int) := of_decide_eq_true (by first | (with_reducible assumption) | assumption)
                                have q209 : x108_3 < (l1.length : Int) := of_decide_eq_true (by first | (with_reducible assumption) | assumption)
                                obtain ⟨ad209, e209, hx209_0, hx209_1⟩ := at_T38 HR1.out x108_3 p209 q209
                                cases e209
                                replace hx209_0 := (HB.out.cell (World.block_lt_of_cell? w _ hx209_0)).trans hx209_0
                                replace hx209_1 := (HB.out.cell (World.block_lt_of_cell? w _ hx209_1)).trans hx209_1
                                replace p209 := eq_true p209
                                replace q209 := eq_true q209
                                go_wp2_with (first | ((with_reducible refine gate_dst (N := 21) rfl ?_); (try (refine gate_guard (by rfl) ?_; dsimp only)); refine box_event ?hg (N := 21) ?hd (cs := #[.int .i64 0, .int .i64 0]) (t := 38) ?hr ?_; (case hd => rfl); (case hg => rfl); (case hr => first | (go_simp; done) | (go_simp; rfl)); intro gb210 hg w141 hbox hb; have n0_ := Aside0.mk (Kd.R_below (Kd.R_elderB (by (with_reducible repeat (first | apply Kd.R_alloc | apply Kd.R_drewN | apply Kd.R_drew)); exact HO_9.out) gb210 (Nat.le_of_eq hg.symm)) hb); have n1_ := Aside0.mk (Kd.R_below (by (with_reducible repeat (first | apply Kd.R_alloc | apply Kd.R_drewN | apply Kd.R_drew)); exact HO_15.out) hb); have n2_ := Aside0.mk (blk_below (g := gb182) (o := .cells #[.int .i64 a2_0, .int .i64 a2_1] 38 (0, 0)) (by (with_reducible repeat (first | refine blk_drewN ?_ _ | refine blk_drew ?_ | refine blk_alloc ?_ _)); exact BK182.out) hb); have n3_ := Aside0.mk (below_step (by repeat (first | (with_reducible first | exact HB.out | apply below_alloc | apply pw_below_drewN | apply below_drew1 | refine below_set ?_ GE182.out) | exact HB.out)) hb); have n4_ := Aside0.mk (hbox); have n5_ := Aside0.mk ((by rw [hg]; exact (below_size (by repeat (first | (with_reducible first | exact HB.out | apply below_alloc | apply pw_below_drewN | apply below_drew1 | refine below_set ?_ GE182.out) | exact HB.out))) : w.heap.size ≤ gb210)); have n6_ := Aside0.mk ((by rw [hg]; exact (below_size (by repeat (first | (with_reducible first | exact HB.out | apply below_alloc | apply pw_below_drewN | apply below_drew1 | refine below_set ?_ GE182.out) | exact HB.out))) : w.heap.size ≤ gb210)); have n7_ := Aside0.mk ((by rw [hg]; exact Nat.ne_of_lt (blk_lt (g := gb182) (o := .cells #[.int .i64 a2_0, .int .i64 a2_1] 38 (0, 0)) (by (with_reducible repeat (first | refine blk_drewN ?_ _ | refine blk_drew ?_ | refine blk_alloc ?_ _)); exact BK182.out)) : gb182 ≠ gb210)); have n8_ := Aside0.mk ((by rw [hg]; exact Nat.ne_of_gt (blk_lt (g := gb182) (o := .cells #[.int .i64 a2_0, .int .i64 a2_1] 38 (0, 0)) (by (with_reducible repeat (first | refine blk_drewN ?_ _ | refine blk_drew ?_ | refine blk_alloc ?_ _)); exact BK182.out)) : gb210 ≠ gb182)); clear HO_9; clear HO_15; clear BK182; clear HB; have HO_9 := n0_; have HO_15 := n1_; have BK182 := n2_; have HB := n3_; have BK210 := n4_; have GW210 := n5_; have GE210 := n6_; have NB182_210 := n7_; have NB210_182 := n8_; clear n0_ n1_ n2_ n3_ n4_ n5_ n6_ n7_ n8_; clear hb hbox hg; have hnb142 := NB210_182.out; have hnc142 := NB182_210.out; have hcz143_0 : w141.cell? ⟨gb210, 0, none⟩ = some (.int .i64 0) := (blk_cell BK210.out 0).trans rfl; have hcz143_1 : w141.cell? ⟨gb210, 1, none⟩ = some (.int .i64 0) := (blk_cell BK210.out 1).trans rfl; have hfz143_0 := blk_frozen BK210.out 0; have hfz143_1 := blk_frozen BK210.out 1) | ((with_reducible refine gate_callee (f := 35) rfl ?_); refine goesL_ (some 115) rfl rfl Try.func35 (by kernel_rfl) rfl #[.agg #[.bool false, .slice Ao17 t188.length co17, .slice none 0 0], .agg #[.int .i64 ((rd_T38 l1 x108_3).f0), .int .i64 ((rd_T38 l1 x108_3).f1)]] rfl (by (try simp only [List.map_toArray, List.map_cons, List.map_nil]); first | done | rfl | (simp only [List.length_drop, List.length_take]; rfl)) ?_; (refine (kissgateref17_Has.calls k3 false _ _ t188 _ _ ([] : List Int) ((rd_T38 l1 x108_3).f0) ((rd_T38 l1 x108_3).f1) true _ ?side1 ?side2 ?side3 ?side4 A139.out).mono ?_); (case side1 => refine (Kd.R_reads' (e := 38) (base := w.heap.size) (ok := fun k_ => (k_ ≠ gb182 ∧ k_ ≠ gb210)) (n := t188.length) (c := co17) ?_).2.2; exact (by (with_reducible repeat (first | apply Kd.R_alloc | apply Kd.R_drewN | apply Kd.R_drew)); exact (Kd.R_mono (Kd.R_far (p := ⟨gb210, 1, none⟩) (Kd.R_far (p := ⟨gb210, 0, none⟩) (Kd.R_mono HO_9.out (fun k_ hk => (⟨hk, hk.2⟩ : _ ∧ k_ ≠ gb210))) (fun _ hk => hk.2) (.int .i64 ((rd_T38 l1 x108_3).f0))) (fun _ hk => hk.2) (.int .i64 ((rd_T38 l1 x108_3).f1))) (fun _ h_ => h_.1)))); (case side2 => exact (Kd.R_reads' HO_9.out).2.1); (case side3 => exact Kd.C_nil _ _); (case side4 => exact Nat.le_refl _); rintro e w144 ⟨rfl, hb⟩; refine ⟨_, rfl, ?_⟩; have n0_ := Aside0.mk (Kd.R_below (by (with_reducible repeat (first | apply Kd.R_alloc | apply Kd.R_drewN | apply Kd.R_drew)); exact (Kd.R_mono (Kd.R_far (p := ⟨gb210, 1, none⟩) (Kd.R_far (p := ⟨gb210, 0, none⟩) (Kd.R_mono HO_9.out (fun k_ hk => (⟨hk, hk.2⟩ : _ ∧ k_ ≠ gb210))) (fun _ hk => hk.2) (.int .i64 ((rd_T38 l1 x108_3).f0))) (fun _ hk => hk.2) (.int .i64 ((rd_T38 l1 x108_3).f1))) (fun _ h_ => h_.1))) hb); have n1_ := Aside0.mk (Kd.R_below (by (with_reducible repeat (first | apply Kd.R_alloc | apply Kd.R_drewN | apply Kd.R_drew)); exact (Kd.R_mono (Kd.R_far (p := ⟨gb210, 1, none⟩) (Kd.R_far (p := ⟨gb210, 0, none⟩) (Kd.R_types HO_15.out BK210.out (by decide)) (fun _ hk => hk.2) (.int .i64 ((rd_T38 l1 x108_3).f0))) (fun _ hk => hk.2) (.int .i64 ((rd_T38 l1 x108_3).f1))) (fun _ h_ => h_.1))) hb); have n2_ := Aside0.mk (blk_below (g := gb182) (o := .cells #[.int .i64 a2_0, .int .i64 a2_1] 38 (0, 0)) (by (with_reducible repeat (first | refine blk_drewN ?_ _ | refine blk_drew ?_ | refine blk_alloc ?_ _)); refine blk_far ?_ NB182_210.out _; (with_reducible repeat (first | refine blk_drewN ?_ _ | refine blk_drew ?_ | refine blk_alloc ?_ _)); refine blk_far ?_ NB182_210.out _; (with_reducible repeat (first | refine blk_drewN ?_ _ | refine blk_drew ?_ | refine blk_alloc ?_ _)); exact BK182.out) hb); have n3_ := Aside0.mk (blk_below (g := gb210) (o := .cells #[.int .i64 ((rd_T38 l1 x108_3).f0), .int .i64 ((rd_T38 l1 x108_3).f1)] 38 (0, 0)) (by (with_reducible repeat (first | refine blk_drewN ?_ _ | refine blk_drew ?_ | refine blk_alloc ?_ _)); refine blk_put (cs := #[.int .i64 ((rd_T38 l1 x108_3).f0), .int .i64 0]) ?_ 1 _ rfl; (with_reducible repeat (first | refine blk_drewN ?_ _ | refine blk_drew ?_ | refine blk_alloc ?_ _)); refine blk_put (cs := #[.int .i64 0, .int .i64 0]) ?_ 0 _ rfl; (with_reducible repeat (first | refine blk_drewN ?_ _ | refine blk_drew ?_ | refine blk_alloc ?_ _)); exact BK210.out) hb); have n4_ := Aside0.mk (below_step (by repeat (first | (with_reducible first | exact HB.out | apply below_alloc | apply pw_below_drewN | apply below_drew1 | refine below_set ?_ GE182.out | refine below_set ?_ GE210.out) | exact HB.out)) hb); clear HO_9; clear HO_15; clear BK182; clear BK210; clear HB; have HO_9 := n0_; have HO_15 := n1_; have BK182 := n2_; have BK210 := n3_; have HB := n4_; clear n0_ n1_ n2_ n3_ n4_; (try clear hb); (try clear hb2); (try clear hk); (try clear hi)))
                                go_roundg k3
                                case measure => have := HK1.out; have := HK2.out; have := HK3.out; omega
                                case rel => exact ⟨(wrap64 (x108_3 + 1)), (by first | rfl | (simp; done) | (simp [*]; done)), H', ⟨by have := HK1.out; have := HK2.out; have := HK3.out; omega⟩, ⟨by (with_reducible repeat (first | apply Kd.R_alloc | apply Kd.R_drewN | apply Kd.R_drew)); exact Kd.R_mono HO_9.out (fun _ hk => hk.1)⟩, ⟨by (with_reducible repeat (first | apply Kd.R_alloc | apply Kd.R_drewN | apply Kd.R_drew)); exact HO_15.out⟩, ⟨by (with_reducible repeat (first | refine blk_drewN ?_ _ | refine blk_drew ?_ | refine blk_alloc ?_ _)); exact BK182.out⟩, ⟨by repeat (first | (with_reducible first | exact HB.out | apply below_alloc | apply pw_below_drewN | apply below_drew1 | refine below_set ?_ GE182.out | refine below_set ?_ GE210.out) | exact HB.out)⟩⟩
                              · replace c140 := Bool.eq_false_iff.mpr c140
                                subst c140
                                have H1 : (some false) = some r := by rw [if_neg (show ¬ (false = true) by decide)] at H; exact H
                                clear H
                                have H := H1
                                clear H1
                                exact absurd (Option.some.inj H) (by rw [HRT.out]; decide)
                            · rw [if_neg c138] at H
                              exact absurd H (by simp)
                          · rw [if_neg c137] at H
                            exact absurd H (by simp)
                        · rw [if_neg c136] at H
                          have c136b0 : decide (x108_3 < (l1.length : Int)) = false := decide_eq_false c136
                          clear c136
                          replace H := Option.bind_eq_some_iff.mp H
                          obtain ⟨t212, A1490, H⟩ := H
                          replace H : ((kissgateref06_Same.f k3 t212 x15_2).bind fun t215 => (some t215)) = some r := H
                          have A149 := Aside0.mk A1490
                          clear A1490
                          replace H := Option.bind_eq_some_iff.mp H
                          obtain ⟨t215, A1500, H⟩ := H
                          replace H : (some t215) = some r := H
                          have A150 := Aside0.mk A1500
                          clear A1500
                          obtain rfl := Option.some.inj H
                          have hcz151_0 : wr.cell? ⟨gb182, 0, none⟩ = some (.int .i64 a2_0) := (blk_cell BK182.out 0).trans rfl
                          have hcz151_1 : wr.cell? ⟨gb182, 1, none⟩ = some (.int .i64 a2_1) := (blk_cell BK182.out 1).trans rfl
                          have hfz151_0 := blk_frozen BK182.out 0
                          have hfz151_1 := blk_frozen BK182.out 1
                          go_wp2_with (first | ((with_reducible refine gate_callee (f := 36) rfl ?_); refine goesL_ (some 120) rfl rfl Try.func36 (by kernel_rfl) rfl #[.slice A0 l0.length c0, .agg #[.int .i64 a2_0, .int .i64 a2_1]] rfl (by (try simp only [List.map_toArray, List.map_cons, List.map_nil]); first | done | rfl | (simp only [List.length_drop, List.length_take]; rfl)) ?_; (with_reducible refine (spread_Members.calls k3 _ _ l0 a2_0 a2_1 t212 _ ?side1 ?side2 A149.out).mono ?_); (case side1 => repeat (first | exact (Kd.C_below HR0.out HB.out) | (with_reducible refine Kd.C_alloc ?_ _) | (with_reducible refine Kd.C_drewN ?_ _) | (with_reducible refine Kd.C_drew ?_))); (case side2 => exact HC0.out); rintro e w152 ⟨v213, rfl, ho0, hb⟩; refine ⟨_, rfl, ?_⟩; have n0_ := Aside0.mk (Kd.R_below (by (with_reducible repeat (first | apply Kd.R_alloc | apply Kd.R_drewN | apply Kd.R_drew)); exact HO_9.out) hb); have n1_ := Aside0.mk (Kd.R_elder' (by (with_reducible repeat (first | apply Kd.R_alloc | apply Kd.R_drewN | apply Kd.R_drew)); exact HO_15.out) (Kd.R_base ho0) hb); have n2_ := Aside0.mk (Kd.R_lower (Kd.R_new' ho0 (Kd.R_lt (by (with_reducible repeat (first | apply Kd.R_alloc | apply Kd.R_drewN | apply Kd.R_drew)); exact HO_15.out))) (below_size (by repeat (first | (with_reducible first | exact HB.out | apply below_alloc | apply pw_below_drewN | apply below_drew1 | refine below_set ?_ GE182.out) | exact HB.out)))); have n3_ := Aside0.mk (blk_below (g := gb182) (o := .cells #[.int .i64 a2_0, .int .i64 a2_1] 38 (0, 0)) (by (with_reducible repeat (first | refine blk_drewN ?_ _ | refine blk_drew ?_ | refine blk_alloc ?_ _)); exact BK182.out) hb); have n4_ := Aside0.mk (below_step (by repeat (first | (with_reducible first | exact HB.out | apply below_alloc | apply pw_below_drewN | apply below_drew1 | refine below_set ?_ GE182.out) | exact HB.out)) hb); clear HO_9; clear HO_15; clear BK182; clear HB; have HO_9 := n0_; have HO_15 := n1_; have HO214 := n2_; have BK182 := n3_; have HB := n4_; clear n0_ n1_ n2_ n3_ n4_; (try clear hb); (try clear hb2); (try clear hk); (try clear hi); (try clear ho0); obtain ⟨Ao153, co153, eo153⟩ := Kd.R_slice HO214.out; subst eo153; obtain ⟨Ao154, co154, eo154⟩ := Kd.R_slice HO_15.out; subst eo154) | ((with_reducible refine gate_callee (f := 24) rfl ?_); refine goesL_ (some 122) rfl rfl Try.func24 (by kernel_rfl) rfl #[.slice Ao153 t212.length co153, .slice Ao154 x15_2.length co154] rfl (by (try simp only [List.map_toArray, List.map_cons, List.map_nil]); first | done | rfl | (simp only [List.length_drop, List.length_take]; rfl)) ?_; (with_reducible refine (kissgateref06_Same.calls k3 _ _ t212 _ _ x15_2 t215 _ ?side1 ?side2 ?side3 ?side4 A150.out).mono ?_); (case side1 => repeat (first | exact (Kd.R_reads' HO214.out).2.2 | (with_reducible refine Kd.C_alloc ?_ _) | (with_reducible refine Kd.C_drewN ?_ _) | (with_reducible refine Kd.C_drew ?_))); (case side2 => exact (Kd.R_reads' HO214.out).2.1); (case side3 => repeat (first | exact (Kd.R_reads' HO_15.out).2.2 | (with_reducible refine Kd.C_alloc ?_ _) | (with_reducible refine Kd.C_drewN ?_ _) | (with_reducible refine Kd.C_drew ?_))); (case side4 => exact (Kd.R_reads' HO_15.out).2.1); rintro e w' ⟨rfl, ⟨nd, rfl⟩⟩; refine ⟨_, rfl, ?_⟩))
                          go_ret
                          exact ⟨by first | rfl | (simp [errW_none, errW_some] <;> rfl) | (simp [*, errW_none, errW_some] <;> rfl), by repeat (first | (with_reducible first | exact HB.out | apply below_alloc | apply pw_below_drewN | apply below_drew1 | refine below_set ?_ GE182.out) | exact HB.out)⟩
    · replace c7 := Bool.eq_false_iff.mpr c7
      subst c7
      have H1 : (some true) = some r := by rw [if_neg (show ¬ (false = true) by decide)] at H; exact H
      clear H
      have H := H1
      clear H1
      obtain rfl := Option.some.inj H
      go_enter Try.func13, Try.ntmps13
      go_wp2_with (first | ((with_reducible refine gate_dst (N := 5) rfl ?_); (try (refine gate_guard (by rfl) ?_; dsimp only)); refine box_event ?hg (N := 5) ?hd (cs := #[.int .i64 a2_0, .int .i64 a2_1]) (t := 38) ?hr ?_; (case hd => rfl); (case hg => rfl); (case hr => first | (go_simp; done) | (go_simp; rfl)); intro gb182 hg w155 hbox hb; have n0_ := Aside0.mk (below_step (by repeat (first | (with_reducible first | exact HB.out | apply below_alloc | apply pw_below_drewN | apply below_drew1) | exact HB.out)) hb); have n1_ := Aside0.mk (hbox); have n2_ := Aside0.mk ((by rw [hg]; exact (below_size (by repeat (first | (with_reducible first | exact HB.out | apply below_alloc | apply pw_below_drewN | apply below_drew1) | exact HB.out))) : w.heap.size ≤ gb182)); have n3_ := Aside0.mk ((by rw [hg]; exact (below_size (by repeat (first | (with_reducible first | exact HB.out | apply below_alloc | apply pw_below_drewN | apply below_drew1) | exact HB.out))) : w.heap.size ≤ gb182)); clear HB; have HB := n0_; have BK182 := n1_; have GW182 := n2_; have GE182 := n3_; clear n0_ n1_ n2_ n3_; clear hb hbox hg) | ((with_reducible refine gate_callee (f := 19) rfl ?_); refine goesL_ (some 22) rfl rfl Try.func19 (by kernel_rfl) rfl #[] rfl (by (try simp only [List.map_toArray, List.map_cons, List.map_nil]); first | done | rfl | (simp only [List.length_drop, List.length_take]; rfl)) ?_; (with_reducible refine (kissgatelaw17_alive.calls k  true _ A4.out).mono ?_); rintro e w156 ⟨rfl, hb⟩; refine ⟨_, rfl, ?_⟩; have n0_ := Aside0.mk (blk_below (g := gb182) (o := .cells #[.int .i64 a2_0, .int .i64 a2_1] 38 (0, 0)) (by (with_reducible repeat (first | refine blk_drewN ?_ _ | refine blk_drew ?_ | refine blk_alloc ?_ _)); exact BK182.out) hb); have n1_ := Aside0.mk (below_step (by repeat (first | (with_reducible first | exact HB.out | apply below_alloc | apply pw_below_drewN | apply below_drew1 | refine below_set ?_ GE182.out) | exact HB.out)) hb); clear BK182; clear HB; have BK182 := n0_; have HB := n1_; clear n0_ n1_; (try clear hb); (try clear hb2); (try clear hk); (try clear hi)) | ((with_reducible refine gate_callee (f := 20) rfl ?_); refine goesL_ (some 26) rfl rfl Try.func20 (by kernel_rfl) rfl #[.slice A0 l0.length c0] rfl (by (try simp only [List.map_toArray, List.map_cons, List.map_nil]); first | done | rfl | (simp only [List.length_drop, List.length_take]; rfl)) ?_; (with_reducible refine (kissgatelaw17_plain.calls k (fun k_ => k_ < w.heap.size) _ _ l0 t184 false _ ?side1 A6.out).mono ?_); (case side1 => exact Kd.V_mk HC0.out (Kd.F_below (Kd.C_F k49_heap HR0.out) (by repeat (first | (with_reducible first | exact HB.out | apply below_alloc | apply pw_below_drewN | apply below_drew1 | refine below_set ?_ GE182.out) | exact HB.out)))); rintro e w157 ⟨v185, rfl, ho0, hb⟩; refine ⟨_, rfl, ?_⟩; have n0_ := Aside0.mk (Kd.N_lower (Kd.N_mono (ok' := fun k_ => k_ ≠ gb182) ho0 (fun k_ hk_ => Or.elim hk_ (fun hs_ => fun e_ => Nat.not_le.2 hs_ (by rw [e_]; exact GW182.out)) (fun hn_ => (Kd.freshB (g := gb182) (o := .cells #[.int .i64 a2_0, .int .i64 a2_1] 38 (0, 0)) (by (with_reducible repeat (first | refine blk_drewN ?_ _ | refine blk_drew ?_ | refine blk_alloc ?_ _)); exact BK182.out) k_ hn_)))) (below_size (by repeat (first | (with_reducible first | exact HB.out | apply below_alloc | apply pw_below_drewN | apply below_drew1 | refine below_set ?_ GE182.out) | exact HB.out)))); have n1_ := Aside0.mk (blk_below (g := gb182) (o := .cells #[.int .i64 a2_0, .int .i64 a2_1] 38 (0, 0)) (by (with_reducible repeat (first | refine blk_drewN ?_ _ | refine blk_drew ?_ | refine blk_alloc ?_ _)); exact BK182.out) hb); have n2_ := Aside0.mk (below_step (by repeat (first | (with_reducible first | exact HB.out | apply below_alloc | apply pw_below_drewN | apply below_drew1 | refine below_set ?_ GE182.out) | exact HB.out)) hb); clear BK182; clear HB; have HO186 := n0_; have BK182 := n1_; have HB := n2_; clear n0_ n1_ n2_; (try clear hb); (try clear hb2); (try clear hk); (try clear hi); (try clear ho0)))
      go_ret
      exact ⟨by first | rfl | (simp [errW_none, errW_some] <;> rfl) | (simp [*, errW_none, errW_some] <;> rfl), by repeat (first | (with_reducible first | exact HB.out | apply below_alloc | apply pw_below_drewN | apply below_drew1 | refine below_set ?_ GE182.out) | exact HB.out)⟩
  · replace c5 := Bool.eq_false_iff.mpr c5
    subst c5
    have H1 : (some false) = some r := by rw [if_neg (show ¬ (false = true) by decide)] at H; exact H
    clear H
    have H := H1
    clear H1
    exact absurd (Option.some.inj H) (by rw [HRT.out]; decide)end Go.Proofs.Ytbcngajkokjfjaa.QAll
