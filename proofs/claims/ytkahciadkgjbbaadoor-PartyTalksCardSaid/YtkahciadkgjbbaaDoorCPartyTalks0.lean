/- Functions of the program as plain Lean functions, what their calls do, and what follows of it. Conditions: each theorem's own. -/
import Derived.Test.YtkahciadkgjbbaaDoorCPartyTalksV
namespace Go.Proofs.YtkahciadkgjbbaaDoor.QPty
open Go.RowKit Go.Proofs.YtkahciadkgjbbaaDoorW.PrintWords Go.Proofs.YtkahciadkgjbbaaDoorW.PrintLast Go.Proofs.YtkahciadkgjbbaaDoorW.PrintMore
attribute [local go_sem] max2_int min2_int max_two min_two max_three min_three max_four min_four
set_option linter.unusedVariables false
set_option linter.unusedSimpArgs false
def errW : Option Int → Value
  | none => .nilIface
  | some c => .iface 0 (.int .i64 c)
theorem errW_none : errW none = .nilIface := rfl
theorem errW_some (c : Int) : errW (some c) = .iface 0 (.int .i64 c) := rfl
theorem info3 : (Tryd.prog.info? 3).map (fun i => (i.zero, i.size, i.bytes)) = some (some (.int .i64 0), 1, 8) := by kernel_rfl
structure S113 where
  f0 : Int
  f1 : Int
def z113 : S113 := ⟨(0 : Int), (0 : Int)⟩
def k113 : Kd S113 := Kd.iso (Kd.pair (Kd.int .i64) (Kd.int .i64)) (fun x : S113 => (x.f0, x.f1))
theorem k113_open {w : World} {x : S113} {cs : List Value} (h : k113.K w x cs) : cs = [.int .i64 x.f0, .int .i64 x.f1] := by
  obtain ⟨_, _, rfl, rfl, rfl⟩ := h
  exact rfl
theorem k113_mkM (w : World) (base : Nat) (ok : Nat → Prop) (x : S113)  : k113.M w base ok x [.int .i64 x.f0, .int .i64 x.f1] := ⟨[.int .i64 x.f0], [.int .i64 x.f1], rfl, rfl, rfl⟩
def rd_T113 (xs : List S113) (i : Int) : S113 := xs.getD i.toNat z113
theorem at_T113 {w : World} {A : Option Addr} {n : Nat} {xs : List S113} (h : Kd.C k113 w A n xs) (i : Int) (h0 : 0 ≤ i) (h1 : i < n) : ∃ ad , A = some ad ∧ w.cell? (ad.add (i.toNat * 2)) = some (.int .i64 (rd_T113 xs i).f0) ∧ w.cell? ⟨(ad.add (i.toNat * 2)).block, (ad.add (i.toNat * 2)).off + 1, none⟩ = some (.int .i64 (rd_T113 xs i).f1) := by
  obtain ⟨ad, c, e, _, hK, hc0⟩ := Kd.C_get h z113 i h0 h1
  have hc : ∀ j u, c[j]? = some u → w.cell? (ad.add (i.toNat * 2 + j)) = some u := hc0
  obtain rfl := k113_open hK
  exact ⟨ad, e, hc 0 _ rfl, by rw [← add_field _ _ 1 (by omega)]; exact hc 1 _ rfl⟩
def rd_L2 (xs : List (List S113)) (i : Int) : (List S113) := xs.getD i.toNat ([] : List S113)
theorem at_L2 {w : World} {A : Option Addr} {n : Nat} {xs : List (List S113)} (h : Kd.C (Kd.slice 113 k113) w A n xs) (i : Int) (h0 : 0 ≤ i) (h1 : i < n) : ∃ ad A0 c0, A = some ad ∧ w.cell? (ad.add i.toNat) = some (.slice A0 (rd_L2 xs i).length c0) ∧ (rd_L2 xs i).length ≤ c0 ∧ k113.C w A0 (rd_L2 xs i).length (rd_L2 xs i) := by
  obtain ⟨ad, c, e, _, hK, hc0⟩ := Kd.C_get h ([] : List S113) i h0 h1
  have hc : ∀ j u, c[j]? = some u → w.cell? (ad.add (i.toNat * 1 + j)) = some u := hc0
  obtain ⟨A0, c0, rfl, l0, g0⟩ := hK
  exact ⟨ad, A0, c0, e, by have hq := hc 0 _ rfl; rwa [Nat.mul_one, Nat.add_zero] at hq, l0, g0⟩
structure S28 where
  f0 : Int
  f1 : Int
def z28 : S28 := ⟨(0 : Int), (0 : Int)⟩
def k28 : Kd S28 := Kd.iso (Kd.pair (Kd.int .i64) (Kd.int .i64)) (fun x : S28 => (x.f0, x.f1))
theorem k28_open {w : World} {x : S28} {cs : List Value} (h : k28.K w x cs) : cs = [.int .i64 x.f0, .int .i64 x.f1] := by
  obtain ⟨_, _, rfl, rfl, rfl⟩ := h
  exact rfl
theorem k28_mkM (w : World) (base : Nat) (ok : Nat → Prop) (x : S28)  : k28.M w base ok x [.int .i64 x.f0, .int .i64 x.f1] := ⟨[.int .i64 x.f0], [.int .i64 x.f1], rfl, rfl, rfl⟩
structure S42 where
  f0 : S28
  f1 : Int
  f2 : Int
def z42 : S42 := ⟨z28, (0 : Int), (0 : Int)⟩
def k42 : Kd S42 := Kd.iso (Kd.pair k28 (Kd.pair (Kd.int .i64) (Kd.int .i64))) (fun x : S42 => (x.f0, x.f1, x.f2))
theorem k42_open {w : World} {x : S42} {cs : List Value} (h : k42.K w x cs) : cs = [.int .i64 x.f0.f0, .int .i64 x.f0.f1, .int .i64 x.f1, .int .i64 x.f2] := by
  obtain ⟨_, _, rfl, s0, ⟨_, _, rfl, rfl, rfl⟩⟩ := h
  obtain rfl := k28_open s0
  exact rfl
theorem k42_mkM (w : World) (base : Nat) (ok : Nat → Prop) (x : S42)  : k42.M w base ok x [.int .i64 x.f0.f0, .int .i64 x.f0.f1, .int .i64 x.f1, .int .i64 x.f2] := ⟨[.int .i64 x.f0.f0, .int .i64 x.f0.f1], [.int .i64 x.f1, .int .i64 x.f2], rfl, (k28_mkM w base ok x.f0 ), ⟨[.int .i64 x.f1], [.int .i64 x.f2], rfl, rfl, rfl⟩⟩
def rd_T42 (xs : List S42) (i : Int) : S42 := xs.getD i.toNat z42
theorem at_T42 {w : World} {A : Option Addr} {n : Nat} {xs : List S42} (h : Kd.C k42 w A n xs) (i : Int) (h0 : 0 ≤ i) (h1 : i < n) : ∃ ad , A = some ad ∧ w.cell? (ad.add (i.toNat * 4)) = some (.int .i64 (rd_T42 xs i).f0.f0) ∧ w.cell? ⟨(ad.add (i.toNat * 4)).block, (ad.add (i.toNat * 4)).off + 1, none⟩ = some (.int .i64 (rd_T42 xs i).f0.f1) ∧ w.cell? ⟨(ad.add (i.toNat * 4)).block, (ad.add (i.toNat * 4)).off + 2, none⟩ = some (.int .i64 (rd_T42 xs i).f1) ∧ w.cell? ⟨(ad.add (i.toNat * 4)).block, (ad.add (i.toNat * 4)).off + 3, none⟩ = some (.int .i64 (rd_T42 xs i).f2) := by
  obtain ⟨ad, c, e, _, hK, hc0⟩ := Kd.C_get h z42 i h0 h1
  have hc : ∀ j u, c[j]? = some u → w.cell? (ad.add (i.toNat * 4 + j)) = some u := hc0
  obtain rfl := k42_open hK
  exact ⟨ad, e, hc 0 _ rfl, by rw [← add_field _ _ 1 (by omega)]; exact hc 1 _ rfl, by rw [← add_field _ _ 2 (by omega)]; exact hc 2 _ rfl, by rw [← add_field _ _ 3 (by omega)]; exact hc 3 _ rfl⟩
structure S37 where
  f0 : (List Int)
  f1 : (List S42)
structure S39 where
  f0 : Int
  f1 : S28
  f2 : Int
  f3 : Bool
  f4 : S37
end Go.Proofs.YtkahciadkgjbbaaDoor.QPty
namespace Go.Proofs.YtkahciadkgjbbaaDoor.QPty
open Go.RowKit Go.Proofs.YtkahciadkgjbbaaDoorW.PrintWords Go.Proofs.YtkahciadkgjbbaaDoorW.PrintLast Go.Proofs.YtkahciadkgjbbaaDoorW.PrintMore
attribute [local go_sem] max2_int min2_int max_two min_two max_three min_three max_four min_four
set_option linter.unusedVariables false
set_option linter.unusedSimpArgs false
def kissgatelaw16_vid.f (a0 : Int) : Option (Int × Int) := some (1, a0)
set_option maxHeartbeats 8000000 in
set_option maxRecDepth 100000 in
theorem kissgatelaw16_vid.calls (a0 : Int) (r1 : Int) (r2 : Int) (w : World) (h : kissgatelaw16_vid.f a0 = some (r1, r2)) :
    Calls Tryd.prog 9 #[.int .i64 a0] w fun e w' => e = .returned (.agg #[.int .i64 r1, .int .i64 r2]) ∧ Below w.heap.size w w' := by
  have hu28 := Tryd.underlying28
  have HB := Aside0.mk (Below.refl w.heap.size w)
  have H : (some (1, a0)) = some (r1, r2) := h
  clear h
  simp only [Option.some.injEq, Prod.mk.injEq] at H
  obtain ⟨rfl, rfl⟩ := H
  go_enter Tryd.func9, Tryd.ntmps9
  go_wp2_with (first | ((with_reducible refine gate_dst (N := 2) rfl ?_); refine box_event ?hg (N := 2) ?hd (cs := #[.int .i64 0, .int .i64 0]) (t := 28) ?hr ?_; (case hd => rfl); (case hg => rfl); (case hr => first | (go_simp; done) | (go_simp; rfl)); intro gb101 hg w2 hbox hb; have n0_ := Aside0.mk (below_step (by repeat (first | (with_reducible first | exact HB.out | apply below_alloc | apply pw_below_drewN | apply below_drew1) | exact HB.out)) hb); have n1_ := Aside0.mk (hbox); have n2_ := Aside0.mk ((by rw [hg]; exact (below_size (by repeat (first | (with_reducible first | exact HB.out | apply below_alloc | apply pw_below_drewN | apply below_drew1) | exact HB.out))) : w.heap.size ≤ gb101)); have n3_ := Aside0.mk ((by rw [hg]; exact (below_size (by repeat (first | (with_reducible first | exact HB.out | apply below_alloc | apply pw_below_drewN | apply below_drew1) | exact HB.out))) : w.heap.size ≤ gb101)); clear HB; have HB := n0_; have BK101 := n1_; have GW101 := n2_; have GE101 := n3_; clear n0_ n1_ n2_ n3_; clear hb hbox hg; have hcz3_0 : w2.cell? ⟨gb101, 0, none⟩ = some (.int .i64 0) := (blk_cell BK101.out 0).trans rfl; have hcz3_1 : w2.cell? ⟨gb101, 1, none⟩ = some (.int .i64 0) := (blk_cell BK101.out 1).trans rfl; have hfz3_0 := blk_frozen BK101.out 0; have hfz3_1 := blk_frozen BK101.out 1))
  refine bodyPost_ret (results_cell_row rfl _ _ gb101 28 #[.int .i64 1, .int .i64 a0] (0, 0) _ rfl (by (with_reducible repeat (first | refine blk_drewN ?_ _ | refine blk_drew ?_ | refine blk_alloc ?_ _)); refine blk_put (cs := #[.int .i64 1, .int .i64 0]) ?_ 1 _ rfl; (with_reducible repeat (first | refine blk_drewN ?_ _ | refine blk_drew ?_ | refine blk_alloc ?_ _)); refine blk_put (cs := #[.int .i64 0, .int .i64 0]) ?_ 0 _ rfl; (with_reducible repeat (first | refine blk_drewN ?_ _ | refine blk_drew ?_ | refine blk_alloc ?_ _)); exact BK101.out) Tryd.underlying28 rfl (by kernel_rfl)) rfl ?_
  exact ⟨by first | rfl | (simp [errW_none, errW_some] <;> rfl) | (simp [*, errW_none, errW_some] <;> rfl), by repeat (first | (with_reducible first | exact HB.out | apply below_alloc | apply pw_below_drewN | apply below_drew1 | refine below_set ?_ GE101.out) | exact HB.out)⟩
def addr_Vid.f (a0 : Int) : Option (Bool) := if a0 ≥ 1 then (some (decide (a0 ≤ 4094))) else (some false)
set_option maxHeartbeats 8000000 in
set_option maxRecDepth 100000 in
theorem addr_Vid.calls (a0 : Int) (r : Bool) (w : World) (h : addr_Vid.f a0 = some r) :
    Calls Tryd.prog 47 #[.int .i64 a0] w fun e w' => e = .returned (.bool r) ∧ Drawn0 w w' := by
  have H : (if a0 ≥ 1 then (some (decide (a0 ≤ 4094))) else (some false)) = some r := h
  clear h
  by_cases c2 : a0 ≥ 1
  · rw [if_pos c2] at H
    have c2b0 : decide (1 ≤ a0) = true := decide_eq_true c2
    clear c2
    obtain rfl := Option.some.inj H
    go_enter Tryd.func47, Tryd.ntmps47
    go_wp2
    go_ret
    exact ⟨by first | rfl | (simp; done) | (simp [*]; done), by repeat (first | exact Drawn0.refl _ | apply Drawn0.step)⟩
  · rw [if_neg c2] at H
    have c2b0 : decide (1 ≤ a0) = false := decide_eq_false c2
    clear c2
    obtain rfl := Option.some.inj H
    go_enter Tryd.func47, Tryd.ntmps47
    go_wp2
    go_ret
    exact ⟨by first | rfl | (simp; done) | (simp [*]; done), by repeat (first | exact Drawn0.refl _ | apply Drawn0.step)⟩
def addr_Good.f (a0 : Int) : Option (Bool) := if a0 ≥ 0 then (some (decide (a0 ≤ 281474976710655))) else (some false)
set_option maxHeartbeats 8000000 in
set_option maxRecDepth 100000 in
theorem addr_Good.calls (a0 : Int) (r : Bool) (w : World) (h : addr_Good.f a0 = some r) :
    Calls Tryd.prog 71 #[.int .i64 a0] w fun e w' => e = .returned (.bool r) ∧ Drawn0 w w' := by
  have H : (if a0 ≥ 0 then (some (decide (a0 ≤ 281474976710655))) else (some false)) = some r := h
  clear h
  by_cases c2 : a0 ≥ 0
  · rw [if_pos c2] at H
    have c2b0 : decide (0 ≤ a0) = true := decide_eq_true c2
    clear c2
    obtain rfl := Option.some.inj H
    go_enter Tryd.func71, Tryd.ntmps71
    go_wp2
    go_ret
    exact ⟨by first | rfl | (simp; done) | (simp [*]; done), by repeat (first | exact Drawn0.refl _ | apply Drawn0.step)⟩
  · rw [if_neg c2] at H
    have c2b0 : decide (0 ≤ a0) = false := decide_eq_false c2
    clear c2
    obtain rfl := Option.some.inj H
    go_enter Tryd.func71, Tryd.ntmps71
    go_wp2
    go_ret
    exact ⟨by first | rfl | (simp; done) | (simp [*]; done), by repeat (first | exact Drawn0.refl _ | apply Drawn0.step)⟩
def addr_Many.f (a0 : Int) : Option (Bool) := (addr_Good.f a0).bind fun t102 => (if t102 = true then (some ((Go.bits .and .i64 (a0 / 1099511627776) 1) == 1)) else (some false))
set_option maxHeartbeats 8000000 in
set_option maxRecDepth 100000 in
theorem addr_Many.calls (a0 : Int) (r : Bool) (w : World) (h : addr_Many.f a0 = some r) :
    Calls Tryd.prog 48 #[.int .i64 a0] w fun e w' => e = .returned (.bool r) ∧ Drawn0 w w' := by
  have H : ((addr_Good.f a0).bind fun t102 => (if t102 = true then (some ((Go.bits .and .i64 (a0 / 1099511627776) 1) == 1)) else (some false))) = some r := h
  clear h
  replace H := Option.bind_eq_some_iff.mp H
  obtain ⟨t102, A20, H⟩ := H
  replace H : (if t102 = true then (some ((Go.bits .and .i64 (a0 / 1099511627776) 1) == 1)) else (some false)) = some r := H
  have A2 := Aside0.mk A20
  clear A20
  by_cases c3 : t102 = true
  · subst c3
    have H1 : (some ((Go.bits .and .i64 (a0 / 1099511627776) 1) == 1)) = some r := by rw [if_pos rfl] at H; exact H
    clear H
    have H := H1
    clear H1
    obtain rfl := Option.some.inj H
    go_enter Tryd.func48, Tryd.ntmps48
    go_wp2_with (first | ((with_reducible refine gate_callee (f := 71) rfl ?_); refine goesL_ (some 4) rfl rfl Tryd.func71 (by kernel_rfl) rfl #[.int .i64 a0] rfl (by (try simp only [List.map_toArray, List.map_cons, List.map_nil]); first | done | rfl | (simp only [List.length_drop, List.length_take]; rfl)) ?_; (with_reducible refine (addr_Good.calls a0 true _ A2.out).mono ?_); rintro e w' ⟨rfl, ⟨nd, rfl⟩⟩; refine ⟨_, rfl, ?_⟩))
    go_ret
    exact ⟨by first | rfl | (simp; done) | (simp [*]; done), by repeat (first | exact Drawn0.refl _ | apply Drawn0.step)⟩
  · replace c3 := Bool.eq_false_iff.mpr c3
    subst c3
    have H1 : (some false) = some r := by rw [if_neg (show ¬ (false = true) by decide)] at H; exact H
    clear H
    have H := H1
    clear H1
    obtain rfl := Option.some.inj H
    go_enter Tryd.func48, Tryd.ntmps48
    go_wp2_with (first | ((with_reducible refine gate_callee (f := 71) rfl ?_); refine goesL_ (some 4) rfl rfl Tryd.func71 (by kernel_rfl) rfl #[.int .i64 a0] rfl (by (try simp only [List.map_toArray, List.map_cons, List.map_nil]); first | done | rfl | (simp only [List.length_drop, List.length_take]; rfl)) ?_; (with_reducible refine (addr_Good.calls a0 false _ A2.out).mono ?_); rintro e w' ⟨rfl, ⟨nd, rfl⟩⟩; refine ⟨_, rfl, ?_⟩))
    go_ret
    exact ⟨by first | rfl | (simp; done) | (simp [*]; done), by repeat (first | exact Drawn0.refl _ | apply Drawn0.step)⟩
def mrpdu_Attr.f (a0_0 : Int) (a0_1 : Int) : Option (Bool) := if a0_0 = 1 then ((addr_Vid.f a0_1).bind fun t104 => (some t104)) else (if a0_0 = 2 then ((addr_Many.f a0_1).bind fun t105 => (some t105)) else (if a0_0 = 3 then (if a0_1 = 0 then (some true) else (some (a0_1 == 1))) else (some false)))
set_option maxHeartbeats 8000000 in
set_option maxRecDepth 100000 in
theorem mrpdu_Attr.calls (a0_0 : Int) (a0_1 : Int) (r : Bool) (w : World) (h : mrpdu_Attr.f a0_0 a0_1 = some r) :
    Calls Tryd.prog 24 #[.agg #[.int .i64 a0_0, .int .i64 a0_1]] w fun e w' => e = .returned (.bool r) ∧ Below w.heap.size w w' := by
  have hu28 := Tryd.underlying28
  have HB := Aside0.mk (Below.refl w.heap.size w)
  have H : (if a0_0 = 1 then ((addr_Vid.f a0_1).bind fun t104 => (some t104)) else (if a0_0 = 2 then ((addr_Many.f a0_1).bind fun t105 => (some t105)) else (if a0_0 = 3 then (if a0_1 = 0 then (some true) else (some (a0_1 == 1))) else (some false)))) = some r := h
  clear h
  by_cases c2 : a0_0 = 1
  · rw [if_pos c2] at H
    have c2b0 : (a0_0 == 1) = true := beq_iff_eq.mpr c2
    have c2b1 : (a0_0 != 1) = false := bne_eq_false_iff_eq.mpr c2
    clear c2
    replace H := Option.bind_eq_some_iff.mp H
    obtain ⟨t104, A30, H⟩ := H
    replace H : (some t104) = some r := H
    have A3 := Aside0.mk A30
    clear A30
    obtain rfl := Option.some.inj H
    go_enter Tryd.func24, Tryd.ntmps24
    go_wp2_with (first | ((with_reducible refine gate_dst (N := 1) rfl ?_); refine box_event ?hg (N := 1) ?hd (cs := #[.int .i64 a0_0, .int .i64 a0_1]) (t := 28) ?hr ?_; (case hd => rfl); (case hg => rfl); (case hr => first | (go_simp; done) | (go_simp; rfl)); intro gb103 hg w4 hbox hb; have n0_ := Aside0.mk (below_step (by repeat (first | (with_reducible first | exact HB.out | apply below_alloc | apply pw_below_drewN | apply below_drew1) | exact HB.out)) hb); have n1_ := Aside0.mk (hbox); have n2_ := Aside0.mk ((by rw [hg]; exact (below_size (by repeat (first | (with_reducible first | exact HB.out | apply below_alloc | apply pw_below_drewN | apply below_drew1) | exact HB.out))) : w.heap.size ≤ gb103)); have n3_ := Aside0.mk ((by rw [hg]; exact (below_size (by repeat (first | (with_reducible first | exact HB.out | apply below_alloc | apply pw_below_drewN | apply below_drew1) | exact HB.out))) : w.heap.size ≤ gb103)); clear HB; have HB := n0_; have BK103 := n1_; have GW103 := n2_; have GE103 := n3_; clear n0_ n1_ n2_ n3_; clear hb hbox hg; have hcz5_0 : w4.cell? ⟨gb103, 0, none⟩ = some (.int .i64 a0_0) := (blk_cell BK103.out 0).trans rfl; have hcz5_1 : w4.cell? ⟨gb103, 1, none⟩ = some (.int .i64 a0_1) := (blk_cell BK103.out 1).trans rfl; have hfz5_0 := blk_frozen BK103.out 0; have hfz5_1 := blk_frozen BK103.out 1) | ((with_reducible refine gate_callee (f := 47) rfl ?_); refine goesL_ (some 9) rfl rfl Tryd.func47 (by kernel_rfl) rfl #[.int .i64 a0_1] rfl (by (try simp only [List.map_toArray, List.map_cons, List.map_nil]); first | done | rfl | (simp only [List.length_drop, List.length_take]; rfl)) ?_; (with_reducible refine (addr_Vid.calls a0_1 t104 _ A3.out).mono ?_); rintro e w' ⟨rfl, ⟨nd, rfl⟩⟩; refine ⟨_, rfl, ?_⟩))
    go_ret
    exact ⟨by first | rfl | (simp [errW_none, errW_some] <;> rfl) | (simp [*, errW_none, errW_some] <;> rfl), by repeat (first | (with_reducible first | exact HB.out | apply below_alloc | apply pw_below_drewN | apply below_drew1 | refine below_set ?_ GE103.out) | exact HB.out)⟩
  · rw [if_neg c2] at H
    have c2b0 : (a0_0 == 1) = false := beq_eq_false_iff_ne.mpr c2
    have c2b1 : (a0_0 != 1) = true := bne_iff_ne.mpr c2
    by_cases c6 : a0_0 = 2
    · rw [if_pos c6] at H
      have c6b0 : (a0_0 == 2) = true := beq_iff_eq.mpr c6
      have c6b1 : (a0_0 != 2) = false := bne_eq_false_iff_eq.mpr c6
      clear c6
      replace H := Option.bind_eq_some_iff.mp H
      obtain ⟨t105, A70, H⟩ := H
      replace H : (some t105) = some r := H
      have A7 := Aside0.mk A70
      clear A70
      obtain rfl := Option.some.inj H
      go_enter Tryd.func24, Tryd.ntmps24
      go_wp2_with (first | ((with_reducible refine gate_dst (N := 1) rfl ?_); refine box_event ?hg (N := 1) ?hd (cs := #[.int .i64 a0_0, .int .i64 a0_1]) (t := 28) ?hr ?_; (case hd => rfl); (case hg => rfl); (case hr => first | (go_simp; done) | (go_simp; rfl)); intro gb103 hg w8 hbox hb; have n0_ := Aside0.mk (below_step (by repeat (first | (with_reducible first | exact HB.out | apply below_alloc | apply pw_below_drewN | apply below_drew1) | exact HB.out)) hb); have n1_ := Aside0.mk (hbox); have n2_ := Aside0.mk ((by rw [hg]; exact (below_size (by repeat (first | (with_reducible first | exact HB.out | apply below_alloc | apply pw_below_drewN | apply below_drew1) | exact HB.out))) : w.heap.size ≤ gb103)); have n3_ := Aside0.mk ((by rw [hg]; exact (below_size (by repeat (first | (with_reducible first | exact HB.out | apply below_alloc | apply pw_below_drewN | apply below_drew1) | exact HB.out))) : w.heap.size ≤ gb103)); clear HB; have HB := n0_; have BK103 := n1_; have GW103 := n2_; have GE103 := n3_; clear n0_ n1_ n2_ n3_; clear hb hbox hg; have hcz9_0 : w8.cell? ⟨gb103, 0, none⟩ = some (.int .i64 a0_0) := (blk_cell BK103.out 0).trans rfl; have hcz9_1 : w8.cell? ⟨gb103, 1, none⟩ = some (.int .i64 a0_1) := (blk_cell BK103.out 1).trans rfl; have hfz9_0 := blk_frozen BK103.out 0; have hfz9_1 := blk_frozen BK103.out 1) | ((with_reducible refine gate_callee (f := 48) rfl ?_); refine goesL_ (some 14) rfl rfl Tryd.func48 (by kernel_rfl) rfl #[.int .i64 a0_1] rfl (by (try simp only [List.map_toArray, List.map_cons, List.map_nil]); first | done | rfl | (simp only [List.length_drop, List.length_take]; rfl)) ?_; (with_reducible refine (addr_Many.calls a0_1 t105 _ A7.out).mono ?_); rintro e w' ⟨rfl, ⟨nd, rfl⟩⟩; refine ⟨_, rfl, ?_⟩))
      go_ret
      exact ⟨by first | rfl | (simp [errW_none, errW_some] <;> rfl) | (simp [*, errW_none, errW_some] <;> rfl), by repeat (first | (with_reducible first | exact HB.out | apply below_alloc | apply pw_below_drewN | apply below_drew1 | refine below_set ?_ GE103.out) | exact HB.out)⟩
    · rw [if_neg c6] at H
      have c6b0 : (a0_0 == 2) = false := beq_eq_false_iff_ne.mpr c6
      have c6b1 : (a0_0 != 2) = true := bne_iff_ne.mpr c6
      by_cases c10 : a0_0 = 3
      · rw [if_pos c10] at H
        have c10b0 : (a0_0 == 3) = true := beq_iff_eq.mpr c10
        have c10b1 : (a0_0 != 3) = false := bne_eq_false_iff_eq.mpr c10
        clear c10
        by_cases c11 : a0_1 = 0
        · rw [if_pos c11] at H
          have c11b0 : (a0_1 == 0) = true := beq_iff_eq.mpr c11
          have c11b1 : (a0_1 != 0) = false := bne_eq_false_iff_eq.mpr c11
          clear c11
          obtain rfl := Option.some.inj H
          go_enter Tryd.func24, Tryd.ntmps24
          go_wp2_with (first | ((with_reducible refine gate_dst (N := 1) rfl ?_); refine box_event ?hg (N := 1) ?hd (cs := #[.int .i64 a0_0, .int .i64 a0_1]) (t := 28) ?hr ?_; (case hd => rfl); (case hg => rfl); (case hr => first | (go_simp; done) | (go_simp; rfl)); intro gb103 hg w12 hbox hb; have n0_ := Aside0.mk (below_step (by repeat (first | (with_reducible first | exact HB.out | apply below_alloc | apply pw_below_drewN | apply below_drew1) | exact HB.out)) hb); have n1_ := Aside0.mk (hbox); have n2_ := Aside0.mk ((by rw [hg]; exact (below_size (by repeat (first | (with_reducible first | exact HB.out | apply below_alloc | apply pw_below_drewN | apply below_drew1) | exact HB.out))) : w.heap.size ≤ gb103)); have n3_ := Aside0.mk ((by rw [hg]; exact (below_size (by repeat (first | (with_reducible first | exact HB.out | apply below_alloc | apply pw_below_drewN | apply below_drew1) | exact HB.out))) : w.heap.size ≤ gb103)); clear HB; have HB := n0_; have BK103 := n1_; have GW103 := n2_; have GE103 := n3_; clear n0_ n1_ n2_ n3_; clear hb hbox hg; have hcz13_0 : w12.cell? ⟨gb103, 0, none⟩ = some (.int .i64 a0_0) := (blk_cell BK103.out 0).trans rfl; have hcz13_1 : w12.cell? ⟨gb103, 1, none⟩ = some (.int .i64 a0_1) := (blk_cell BK103.out 1).trans rfl; have hfz13_0 := blk_frozen BK103.out 0; have hfz13_1 := blk_frozen BK103.out 1))
          go_ret
          exact ⟨by first | rfl | (simp [errW_none, errW_some] <;> rfl) | (simp [*, errW_none, errW_some] <;> rfl), by repeat (first | (with_reducible first | exact HB.out | apply below_alloc | apply pw_below_drewN | apply below_drew1 | refine below_set ?_ GE103.out) | exact HB.out)⟩
        · rw [if_neg c11] at H
          have c11b0 : (a0_1 == 0) = false := beq_eq_false_iff_ne.mpr c11
          have c11b1 : (a0_1 != 0) = true := bne_iff_ne.mpr c11
          obtain rfl := Option.some.inj H
          go_enter Tryd.func24, Tryd.ntmps24
          go_wp2_with (first | ((with_reducible refine gate_dst (N := 1) rfl ?_); refine box_event ?hg (N := 1) ?hd (cs := #[.int .i64 a0_0, .int .i64 a0_1]) (t := 28) ?hr ?_; (case hd => rfl); (case hg => rfl); (case hr => first | (go_simp; done) | (go_simp; rfl)); intro gb103 hg w14 hbox hb; have n0_ := Aside0.mk (below_step (by repeat (first | (with_reducible first | exact HB.out | apply below_alloc | apply pw_below_drewN | apply below_drew1) | exact HB.out)) hb); have n1_ := Aside0.mk (hbox); have n2_ := Aside0.mk ((by rw [hg]; exact (below_size (by repeat (first | (with_reducible first | exact HB.out | apply below_alloc | apply pw_below_drewN | apply below_drew1) | exact HB.out))) : w.heap.size ≤ gb103)); have n3_ := Aside0.mk ((by rw [hg]; exact (below_size (by repeat (first | (with_reducible first | exact HB.out | apply below_alloc | apply pw_below_drewN | apply below_drew1) | exact HB.out))) : w.heap.size ≤ gb103)); clear HB; have HB := n0_; have BK103 := n1_; have GW103 := n2_; have GE103 := n3_; clear n0_ n1_ n2_ n3_; clear hb hbox hg; have hcz15_0 : w14.cell? ⟨gb103, 0, none⟩ = some (.int .i64 a0_0) := (blk_cell BK103.out 0).trans rfl; have hcz15_1 : w14.cell? ⟨gb103, 1, none⟩ = some (.int .i64 a0_1) := (blk_cell BK103.out 1).trans rfl; have hfz15_0 := blk_frozen BK103.out 0; have hfz15_1 := blk_frozen BK103.out 1))
          go_ret
          exact ⟨by first | rfl | (simp [errW_none, errW_some] <;> rfl) | (simp [*, errW_none, errW_some] <;> rfl), by repeat (first | (with_reducible first | exact HB.out | apply below_alloc | apply pw_below_drewN | apply below_drew1 | refine below_set ?_ GE103.out) | exact HB.out)⟩
      · rw [if_neg c10] at H
        have c10b0 : (a0_0 == 3) = false := beq_eq_false_iff_ne.mpr c10
        have c10b1 : (a0_0 != 3) = true := bne_iff_ne.mpr c10
        obtain rfl := Option.some.inj H
        go_enter Tryd.func24, Tryd.ntmps24
        go_wp2_with (first | ((with_reducible refine gate_dst (N := 1) rfl ?_); refine box_event ?hg (N := 1) ?hd (cs := #[.int .i64 a0_0, .int .i64 a0_1]) (t := 28) ?hr ?_; (case hd => rfl); (case hg => rfl); (case hr => first | (go_simp; done) | (go_simp; rfl)); intro gb103 hg w16 hbox hb; have n0_ := Aside0.mk (below_step (by repeat (first | (with_reducible first | exact HB.out | apply below_alloc | apply pw_below_drewN | apply below_drew1) | exact HB.out)) hb); have n1_ := Aside0.mk (hbox); have n2_ := Aside0.mk ((by rw [hg]; exact (below_size (by repeat (first | (with_reducible first | exact HB.out | apply below_alloc | apply pw_below_drewN | apply below_drew1) | exact HB.out))) : w.heap.size ≤ gb103)); have n3_ := Aside0.mk ((by rw [hg]; exact (below_size (by repeat (first | (with_reducible first | exact HB.out | apply below_alloc | apply pw_below_drewN | apply below_drew1) | exact HB.out))) : w.heap.size ≤ gb103)); clear HB; have HB := n0_; have BK103 := n1_; have GW103 := n2_; have GE103 := n3_; clear n0_ n1_ n2_ n3_; clear hb hbox hg; have hcz17_0 : w16.cell? ⟨gb103, 0, none⟩ = some (.int .i64 a0_0) := (blk_cell BK103.out 0).trans rfl; have hcz17_1 : w16.cell? ⟨gb103, 1, none⟩ = some (.int .i64 a0_1) := (blk_cell BK103.out 1).trans rfl; have hfz17_0 := blk_frozen BK103.out 0; have hfz17_1 := blk_frozen BK103.out 1))
        go_ret
        exact ⟨by first | rfl | (simp [errW_none, errW_some] <;> rfl) | (simp [*, errW_none, errW_some] <;> rfl), by repeat (first | (with_reducible first | exact HB.out | apply below_alloc | apply pw_below_drewN | apply below_drew1 | refine below_set ?_ GE103.out) | exact HB.out)⟩
def table_At.f (l0 : List (List (S113))) (a1 : Int) (a2 : Int) : Option (Int × Int × Bool) := if a1 < 0 then (some (a1, 0, false)) else (if a1 ≥ (l0.length : Int) then (some (a1, 0, false)) else (if a2 < 0 then (some (a1, 0, false)) else (if 0 ≤ a1 then (if a1 < (l0.length : Int) then (if a2 ≥ ((rd_L2 l0 a1).length : Int) then (some (a1, 0, false)) else (if 0 ≤ a2 then (if a2 < ((rd_L2 l0 a1).length : Int) then (some ((rd_T113 (rd_L2 l0 a1) a2).f0, (rd_T113 (rd_L2 l0 a1) a2).f1, true)) else (none)) else (none))) else (none)) else (none))))
set_option maxHeartbeats 8000000 in
set_option maxRecDepth 100000 in
theorem table_At.calls (A0 : Option Addr) (c0 : Nat) (l0 : List (List (S113))) (a1 : Int) (a2 : Int) (r1 : Int) (r2 : Int) (r3 : Bool) (w : World) (hr0 : Kd.C (Kd.slice 113 k113) w A0 l0.length l0) (hc0 : l0.length ≤ c0) (h : table_At.f l0 a1 a2 = some (r1, r2, r3)) :
    Calls Tryd.prog 76 #[.slice A0 l0.length c0, .int .i64 a1, .int .i64 a2] w fun e w' => e = .returned (.tuple #[.agg #[.int .i64 r1, .int .i64 r2], .bool r3]) ∧ Below w.heap.size w w' := by
  have hu113 := Tryd.underlying113
  have HR0 := Aside0.mk hr0
  have HC0 := Aside0.mk hc0
  clear hr0 hc0
  have HB := Aside0.mk (Below.refl w.heap.size w)
  have H : (if a1 < 0 then (some (a1, 0, false)) else (if a1 ≥ (l0.length : Int) then (some (a1, 0, false)) else (if a2 < 0 then (some (a1, 0, false)) else (if 0 ≤ a1 then (if a1 < (l0.length : Int) then (if a2 ≥ ((rd_L2 l0 a1).length : Int) then (some (a1, 0, false)) else (if 0 ≤ a2 then (if a2 < ((rd_L2 l0 a1).length : Int) then (some ((rd_T113 (rd_L2 l0 a1) a2).f0, (rd_T113 (rd_L2 l0 a1) a2).f1, true)) else (none)) else (none))) else (none)) else (none))))) = some (r1, r2, r3) := h
  clear h
  by_cases c4 : a1 < 0
  · rw [if_pos c4] at H
    have c4b0 : decide (a1 < 0) = true := decide_eq_true c4
    clear c4
    simp only [Option.some.injEq, Prod.mk.injEq] at H
    obtain ⟨rfl, rfl, rfl⟩ := H
    go_enter Tryd.func76, Tryd.ntmps76
    go_wp2_with (first | ((with_reducible refine gate_dst (N := 6) rfl ?_); (try (refine gate_guard (by rfl) ?_; dsimp only)); refine box_event ?hg (N := 6) ?hd (cs := #[.int .i64 0, .int .i64 0]) (t := 113) ?hr ?_; (case hd => rfl); (case hg => rfl); (case hr => first | (go_simp; done) | (go_simp; rfl)); intro gb106 hg w5 hbox hb; have n0_ := Aside0.mk (below_step (by repeat (first | (with_reducible first | exact HB.out | apply below_alloc | apply pw_below_drewN | apply below_drew1) | exact HB.out)) hb); have n1_ := Aside0.mk (hbox); have n2_ := Aside0.mk ((by rw [hg]; exact (below_size (by repeat (first | (with_reducible first | exact HB.out | apply below_alloc | apply pw_below_drewN | apply below_drew1) | exact HB.out))) : w.heap.size ≤ gb106)); have n3_ := Aside0.mk ((by rw [hg]; exact (below_size (by repeat (first | (with_reducible first | exact HB.out | apply below_alloc | apply pw_below_drewN | apply below_drew1) | exact HB.out))) : w.heap.size ≤ gb106)); clear HB; have HB := n0_; have BK106 := n1_; have GW106 := n2_; have GE106 := n3_; clear n0_ n1_ n2_ n3_; clear hb hbox hg; have hcz6_0 : w5.cell? ⟨gb106, 0, none⟩ = some (.int .i64 0) := (blk_cell BK106.out 0).trans rfl; have hcz6_1 : w5.cell? ⟨gb106, 1, none⟩ = some (.int .i64 0) := (blk_cell BK106.out 1).trans rfl; have hfz6_0 := blk_frozen BK106.out 0; have hfz6_1 := blk_frozen BK106.out 1))
    refine bodyPost_ret (results_ct rfl _ _ gb106 113 #[.int .i64 a1, .int .i64 0] (0, 0) _ rfl (by (with_reducible repeat (first | refine blk_drewN ?_ _ | refine blk_drew ?_ | refine blk_alloc ?_ _)); refine blk_put (cs := #[.int .i64 a1, .int .i64 0]) ?_ 1 _ rfl; (with_reducible repeat (first | refine blk_drewN ?_ _ | refine blk_drew ?_ | refine blk_alloc ?_ _)); refine blk_put (cs := #[.int .i64 0, .int .i64 0]) ?_ 0 _ rfl; (with_reducible repeat (first | refine blk_drewN ?_ _ | refine blk_drew ?_ | refine blk_alloc ?_ _)); exact BK106.out) Tryd.underlying113 rfl (by kernel_rfl)) rfl ?_
    exact ⟨by first | rfl | (simp [errW_none, errW_some] <;> rfl) | (simp [*, errW_none, errW_some] <;> rfl), by repeat (first | (with_reducible first | exact HB.out | apply below_alloc | apply pw_below_drewN | apply below_drew1 | refine below_set ?_ GE106.out) | exact HB.out)⟩
  · rw [if_neg c4] at H
    have c4b0 : decide (a1 < 0) = false := decide_eq_false c4
    clear c4
    by_cases c7 : a1 ≥ (l0.length : Int)
    · rw [if_pos c7] at H
      have c7b0 : decide ((l0.length : Int) ≤ a1) = true := decide_eq_true c7
      clear c7
      simp only [Option.some.injEq, Prod.mk.injEq] at H
      obtain ⟨rfl, rfl, rfl⟩ := H
      go_enter Tryd.func76, Tryd.ntmps76
      go_wp2_with (first | ((with_reducible refine gate_dst (N := 6) rfl ?_); (try (refine gate_guard (by rfl) ?_; dsimp only)); refine box_event ?hg (N := 6) ?hd (cs := #[.int .i64 0, .int .i64 0]) (t := 113) ?hr ?_; (case hd => rfl); (case hg => rfl); (case hr => first | (go_simp; done) | (go_simp; rfl)); intro gb106 hg w8 hbox hb; have n0_ := Aside0.mk (below_step (by repeat (first | (with_reducible first | exact HB.out | apply below_alloc | apply pw_below_drewN | apply below_drew1) | exact HB.out)) hb); have n1_ := Aside0.mk (hbox); have n2_ := Aside0.mk ((by rw [hg]; exact (below_size (by repeat (first | (with_reducible first | exact HB.out | apply below_alloc | apply pw_below_drewN | apply below_drew1) | exact HB.out))) : w.heap.size ≤ gb106)); have n3_ := Aside0.mk ((by rw [hg]; exact (below_size (by repeat (first | (with_reducible first | exact HB.out | apply below_alloc | apply pw_below_drewN | apply below_drew1) | exact HB.out))) : w.heap.size ≤ gb106)); clear HB; have HB := n0_; have BK106 := n1_; have GW106 := n2_; have GE106 := n3_; clear n0_ n1_ n2_ n3_; clear hb hbox hg; have hcz9_0 : w8.cell? ⟨gb106, 0, none⟩ = some (.int .i64 0) := (blk_cell BK106.out 0).trans rfl; have hcz9_1 : w8.cell? ⟨gb106, 1, none⟩ = some (.int .i64 0) := (blk_cell BK106.out 1).trans rfl; have hfz9_0 := blk_frozen BK106.out 0; have hfz9_1 := blk_frozen BK106.out 1))
      refine bodyPost_ret (results_ct rfl _ _ gb106 113 #[.int .i64 a1, .int .i64 0] (0, 0) _ rfl (by (with_reducible repeat (first | refine blk_drewN ?_ _ | refine blk_drew ?_ | refine blk_alloc ?_ _)); refine blk_put (cs := #[.int .i64 a1, .int .i64 0]) ?_ 1 _ rfl; (with_reducible repeat (first | refine blk_drewN ?_ _ | refine blk_drew ?_ | refine blk_alloc ?_ _)); refine blk_put (cs := #[.int .i64 0, .int .i64 0]) ?_ 0 _ rfl; (with_reducible repeat (first | refine blk_drewN ?_ _ | refine blk_drew ?_ | refine blk_alloc ?_ _)); exact BK106.out) Tryd.underlying113 rfl (by kernel_rfl)) rfl ?_
      exact ⟨by first | rfl | (simp [errW_none, errW_some] <;> rfl) | (simp [*, errW_none, errW_some] <;> rfl), by repeat (first | (with_reducible first | exact HB.out | apply below_alloc | apply pw_below_drewN | apply below_drew1 | refine below_set ?_ GE106.out) | exact HB.out)⟩
    · rw [if_neg c7] at H
      have c7b0 : decide ((l0.length : Int) ≤ a1) = false := decide_eq_false c7
      clear c7
      by_cases c10 : a2 < 0
      · rw [if_pos c10] at H
        have c10b0 : decide (a2 < 0) = true := decide_eq_true c10
        clear c10
        simp only [Option.some.injEq, Prod.mk.injEq] at H
        obtain ⟨rfl, rfl, rfl⟩ := H
        go_enter Tryd.func76, Tryd.ntmps76
        go_wp2_with (first | ((with_reducible refine gate_dst (N := 6) rfl ?_); (try (refine gate_guard (by rfl) ?_; dsimp only)); refine box_event ?hg (N := 6) ?hd (cs := #[.int .i64 0, .int .i64 0]) (t := 113) ?hr ?_; (case hd => rfl); (case hg => rfl); (case hr => first | (go_simp; done) | (go_simp; rfl)); intro gb106 hg w11 hbox hb; have n0_ := Aside0.mk (below_step (by repeat (first | (with_reducible first | exact HB.out | apply below_alloc | apply pw_below_drewN | apply below_drew1) | exact HB.out)) hb); have n1_ := Aside0.mk (hbox); have n2_ := Aside0.mk ((by rw [hg]; exact (below_size (by repeat (first | (with_reducible first | exact HB.out | apply below_alloc | apply pw_below_drewN | apply below_drew1) | exact HB.out))) : w.heap.size ≤ gb106)); have n3_ := Aside0.mk ((by rw [hg]; exact (below_size (by repeat (first | (with_reducible first | exact HB.out | apply below_alloc | apply pw_below_drewN | apply below_drew1) | exact HB.out))) : w.heap.size ≤ gb106)); clear HB; have HB := n0_; have BK106 := n1_; have GW106 := n2_; have GE106 := n3_; clear n0_ n1_ n2_ n3_; clear hb hbox hg; have hcz12_0 : w11.cell? ⟨gb106, 0, none⟩ = some (.int .i64 0) := (blk_cell BK106.out 0).trans rfl; have hcz12_1 : w11.cell? ⟨gb106, 1, none⟩ = some (.int .i64 0) := (blk_cell BK106.out 1).trans rfl; have hfz12_0 := blk_frozen BK106.out 0; have hfz12_1 := blk_frozen BK106.out 1))
        refine bodyPost_ret (results_ct rfl _ _ gb106 113 #[.int .i64 a1, .int .i64 0] (0, 0) _ rfl (by (with_reducible repeat (first | refine blk_drewN ?_ _ | refine blk_drew ?_ | refine blk_alloc ?_ _)); refine blk_put (cs := #[.int .i64 a1, .int .i64 0]) ?_ 1 _ rfl; (with_reducible repeat (first | refine blk_drewN ?_ _ | refine blk_drew ?_ | refine blk_alloc ?_ _)); refine blk_put (cs := #[.int .i64 0, .int .i64 0]) ?_ 0 _ rfl; (with_reducible repeat (first | refine blk_drewN ?_ _ | refine blk_drew ?_ | refine blk_alloc ?_ _)); exact BK106.out) Tryd.underlying113 rfl (by kernel_rfl)) rfl ?_
        exact ⟨by first | rfl | (simp [errW_none, errW_some] <;> rfl) | (simp [*, errW_none, errW_some] <;> rfl), by repeat (first | (with_reducible first | exact HB.out | apply below_alloc | apply pw_below_drewN | apply below_drew1 | refine below_set ?_ GE106.out) | exact HB.out)⟩
      · rw [if_neg c10] at H
        have c10b0 : decide (a2 < 0) = false := decide_eq_false c10
        clear c10
        by_cases c13 : 0 ≤ a1
        · rw [if_pos c13] at H
          have c13b0 : decide (0 ≤ a1) = true := decide_eq_true c13
          clear c13
          by_cases c14 : a1 < (l0.length : Int)
          · rw [if_pos c14] at H
            have c14b0 : decide (a1 < (l0.length : Int)) = true := decide_eq_true c14
            clear c14
            by_cases c15 : a2 ≥ ((rd_L2 l0 a1).length : Int)
            · rw [if_pos c15] at H
              have c15b0 : decide (((rd_L2 l0 a1).length : Int) ≤ a2) = true := decide_eq_true c15
              clear c15
              simp only [Option.some.injEq, Prod.mk.injEq] at H
              obtain ⟨rfl, rfl, rfl⟩ := H
              go_enter Tryd.func76, Tryd.ntmps76
              go_wp2_with (first | ((with_reducible refine gate_dst (N := 6) rfl ?_); (try (refine gate_guard (by rfl) ?_; dsimp only)); refine box_event ?hg (N := 6) ?hd (cs := #[.int .i64 0, .int .i64 0]) (t := 113) ?hr ?_; (case hd => rfl); (case hg => rfl); (case hr => first | (go_simp; done) | (go_simp; rfl)); intro gb106 hg w16 hbox hb; have n0_ := Aside0.mk (below_step (by repeat (first | (with_reducible first | exact HB.out | apply below_alloc | apply pw_below_drewN | apply below_drew1) | exact HB.out)) hb); have n1_ := Aside0.mk (hbox); have n2_ := Aside0.mk ((by rw [hg]; exact (below_size (by repeat (first | (with_reducible first | exact HB.out | apply below_alloc | apply pw_below_drewN | apply below_drew1) | exact HB.out))) : w.heap.size ≤ gb106)); have n3_ := Aside0.mk ((by rw [hg]; exact (below_size (by repeat (first | (with_reducible first | exact HB.out | apply below_alloc | apply pw_below_drewN | apply below_drew1) | exact HB.out))) : w.heap.size ≤ gb106)); clear HB; have HB := n0_; have BK106 := n1_; have GW106 := n2_; have GE106 := n3_; clear n0_ n1_ n2_ n3_; clear hb hbox hg; have p107 : 0 ≤ (a1 : Int) := of_decide_eq_true (by first | (with_reducible assumption) | assumption); have q107 : a1 < (l0.length : Int) := of_decide_eq_true (by first | (with_reducible assumption) | assumption); obtain ⟨ad107, A107_0, c107_0, e107, hx107_0, hl107_0, hi107_0⟩ := at_L2 HR0.out a1 p107 q107; cases e107; replace hx107_0 := (HB.out.cell (World.block_lt_of_cell? w _ hx107_0)).trans hx107_0; have HR107_0 := Aside0.mk hi107_0; have HC107_0 := Aside0.mk hl107_0; clear hi107_0 hl107_0; replace p107 := eq_true p107; replace q107 := eq_true q107; have hcz17_0 : w16.cell? ⟨gb106, 0, none⟩ = some (.int .i64 0) := (blk_cell BK106.out 0).trans rfl; have hcz17_1 : w16.cell? ⟨gb106, 1, none⟩ = some (.int .i64 0) := (blk_cell BK106.out 1).trans rfl; have hfz17_0 := blk_frozen BK106.out 0; have hfz17_1 := blk_frozen BK106.out 1))
              refine bodyPost_ret (results_ct rfl _ _ gb106 113 #[.int .i64 a1, .int .i64 0] (0, 0) _ rfl (by (with_reducible repeat (first | refine blk_drewN ?_ _ | refine blk_drew ?_ | refine blk_alloc ?_ _)); refine blk_put (cs := #[.int .i64 a1, .int .i64 0]) ?_ 1 _ rfl; (with_reducible repeat (first | refine blk_drewN ?_ _ | refine blk_drew ?_ | refine blk_alloc ?_ _)); refine blk_put (cs := #[.int .i64 0, .int .i64 0]) ?_ 0 _ rfl; (with_reducible repeat (first | refine blk_drewN ?_ _ | refine blk_drew ?_ | refine blk_alloc ?_ _)); exact BK106.out) Tryd.underlying113 rfl (by kernel_rfl)) rfl ?_
              exact ⟨by first | rfl | (simp [errW_none, errW_some] <;> rfl) | (simp [*, errW_none, errW_some] <;> rfl), by repeat (first | (with_reducible first | exact HB.out | apply below_alloc | apply pw_below_drewN | apply below_drew1 | refine below_set ?_ GE106.out) | exact HB.out)⟩
            · rw [if_neg c15] at H
              have c15b0 : decide (((rd_L2 l0 a1).length : Int) ≤ a2) = false := decide_eq_false c15
              clear c15
              by_cases c18 : 0 ≤ a2
              · rw [if_pos c18] at H
                have c18b0 : decide (0 ≤ a2) = true := decide_eq_true c18
                clear c18
                by_cases c19 : a2 < ((rd_L2 l0 a1).length : Int)
                · rw [if_pos c19] at H
                  have c19b0 : decide (a2 < ((rd_L2 l0 a1).length : Int)) = true := decide_eq_true c19
                  clear c19
                  simp only [Option.some.injEq, Prod.mk.injEq] at H
                  obtain ⟨rfl, rfl, rfl⟩ := H
                  go_enter Tryd.func76, Tryd.ntmps76
                  go_wp2_with (first | ((with_reducible refine gate_dst (N := 6) rfl ?_); (try (refine gate_guard (by rfl) ?_; dsimp only)); refine box_event ?hg (N := 6) ?hd (cs := #[.int .i64 0, .int .i64 0]) (t := 113) ?hr ?_; (case hd => rfl); (case hg => rfl); (case hr => first | (go_simp; done) | (go_simp; rfl)); intro gb106 hg w20 hbox hb; have n0_ := Aside0.mk (below_step (by repeat (first | (with_reducible first | exact HB.out | apply below_alloc | apply pw_below_drewN | apply below_drew1) | exact HB.out)) hb); have n1_ := Aside0.mk (hbox); have n2_ := Aside0.mk ((by rw [hg]; exact (below_size (by repeat (first | (with_reducible first | exact HB.out | apply below_alloc | apply pw_below_drewN | apply below_drew1) | exact HB.out))) : w.heap.size ≤ gb106)); have n3_ := Aside0.mk ((by rw [hg]; exact (below_size (by repeat (first | (with_reducible first | exact HB.out | apply below_alloc | apply pw_below_drewN | apply below_drew1) | exact HB.out))) : w.heap.size ≤ gb106)); clear HB; have HB := n0_; have BK106 := n1_; have GW106 := n2_; have GE106 := n3_; clear n0_ n1_ n2_ n3_; clear hb hbox hg; have p107 : 0 ≤ (a1 : Int) := of_decide_eq_true (by first | (with_reducible assumption) | assumption); have q107 : a1 < (l0.length : Int) := of_decide_eq_true (by first | (with_reducible assumption) | assumption); obtain ⟨ad107, A107_0, c107_0, e107, hx107_0, hl107_0, hi107_0⟩ := at_L2 HR0.out a1 p107 q107; cases e107; replace hx107_0 := (HB.out.cell (World.block_lt_of_cell? w _ hx107_0)).trans hx107_0; have HR107_0 := Aside0.mk hi107_0; have HC107_0 := Aside0.mk hl107_0; clear hi107_0 hl107_0; replace p107 := eq_true p107; replace q107 := eq_true q107; have p108 : 0 ≤ (a1 : Int) := of_decide_eq_true (by first | (with_reducible assumption) | assumption); have q108 : a1 < (l0.length : Int) := of_decide_eq_true (by first | (with_reducible assumption) | assumption); obtain ⟨ad108, A108_0, c108_0, e108, hx108_0, hl108_0, hi108_0⟩ := at_L2 HR0.out a1 p108 q108; obtain rfl : ad107 = ad108 := (by injection e108); replace hx108_0 := (HB.out.cell (World.block_lt_of_cell? w _ hx108_0)).trans hx108_0; have HR108_0 := Aside0.mk hi108_0; have HC108_0 := Aside0.mk hl108_0; clear hi108_0 hl108_0; replace p108 := eq_true p108; replace q108 := eq_true q108; have ea_ := Option.some.inj (hx107_0.symm.trans hx108_0); injection ea_ with ea_ en_ ec_; subst ea_; subst ec_; clear en_; have p109 : 0 ≤ (a2 : Int) := of_decide_eq_true (by first | (with_reducible assumption) | assumption); have q109 : a2 < ((rd_L2 l0 a1).length : Int) := of_decide_eq_true (by first | (with_reducible assumption) | assumption); obtain ⟨ad109, e109, hx109_0, hx109_1⟩ := at_T113 HR108_0.out a2 p109 q109; cases e109; replace hx109_0 := (HB.out.cell (World.block_lt_of_cell? w _ hx109_0)).trans hx109_0; replace hx109_1 := (HB.out.cell (World.block_lt_of_cell? w _ hx109_1)).trans hx109_1; replace p109 := eq_true p109; replace q109 := eq_true q109; have hcz21_0 : w20.cell? ⟨gb106, 0, none⟩ = some (.int .i64 0) := (blk_cell BK106.out 0).trans rfl; have hcz21_1 : w20.cell? ⟨gb106, 1, none⟩ = some (.int .i64 0) := (blk_cell BK106.out 1).trans rfl; have hfz21_0 := blk_frozen BK106.out 0; have hfz21_1 := blk_frozen BK106.out 1))
                  refine bodyPost_ret (results_ct rfl _ _ gb106 113 #[.int .i64 ((rd_T113 (rd_L2 l0 a1) a2).f0), .int .i64 ((rd_T113 (rd_L2 l0 a1) a2).f1)] (0, 0) _ rfl (by (with_reducible repeat (first | refine blk_drewN ?_ _ | refine blk_drew ?_ | refine blk_alloc ?_ _)); refine blk_put (cs := #[.int .i64 ((rd_T113 (rd_L2 l0 a1) a2).f0), .int .i64 0]) ?_ 1 _ rfl; (with_reducible repeat (first | refine blk_drewN ?_ _ | refine blk_drew ?_ | refine blk_alloc ?_ _)); refine blk_put (cs := #[.int .i64 0, .int .i64 0]) ?_ 0 _ rfl; (with_reducible repeat (first | refine blk_drewN ?_ _ | refine blk_drew ?_ | refine blk_alloc ?_ _)); exact BK106.out) Tryd.underlying113 rfl (by kernel_rfl)) rfl ?_
                  exact ⟨by first | rfl | (simp [errW_none, errW_some] <;> rfl) | (simp [*, errW_none, errW_some] <;> rfl), by repeat (first | (with_reducible first | exact HB.out | apply below_alloc | apply pw_below_drewN | apply below_drew1 | refine below_set ?_ GE106.out) | exact HB.out)⟩
                · rw [if_neg c19] at H
                  exact absurd H (by simp)
              · rw [if_neg c18] at H
                exact absurd H (by simp)
          · rw [if_neg c14] at H
            exact absurd H (by simp)
        · rw [if_neg c13] at H
          exact absurd H (by simp)
def table_Applicant.f  : Option ((List (List (S113)))) := some (([(([(⟨1, 0⟩ : S113), (⟨0, 0⟩ : S113), (⟨0, 0⟩ : S113), (⟨0, 0⟩ : S113), (⟨0, 0⟩ : S113), (⟨1, 0⟩ : S113)] : List (S113))), (([(⟨1, 0⟩ : S113), (⟨4, 0⟩ : S113), (⟨1, 0⟩ : S113), (⟨1, 0⟩ : S113), (⟨2, 1⟩ : S113), (⟨1, 0⟩ : S113)] : List (S113))), (([(⟨2, 0⟩ : S113), (⟨4, 0⟩ : S113), (⟨2, 0⟩ : S113), (⟨2, 0⟩ : S113), (⟨3, 2⟩ : S113), (⟨1, 0⟩ : S113)] : List (S113))), (([(⟨3, 0⟩ : S113), (⟨4, 0⟩ : S113), (⟨2, 0⟩ : S113), (⟨2, 0⟩ : S113), (⟨3, 0⟩ : S113), (⟨1, 0⟩ : S113)] : List (S113))), (([(⟨2, 0⟩ : S113), (⟨4, 0⟩ : S113), (⟨4, 0⟩ : S113), (⟨4, 0⟩ : S113), (⟨0, 3⟩ : S113), (⟨1, 0⟩ : S113)] : List (S113)))] : List (List (S113))))
set_option maxHeartbeats 8000000 in
set_option maxRecDepth 100000 in
theorem table_Applicant.calls  (r : List (List (S113))) (w : World) (h : table_Applicant.f  = some r) :
    Calls Tryd.prog 77 #[] w fun e w' => ∃ v0_ : Value, e = .returned (v0_) ∧ Kd.N (Kd.slice 113 k113) 125 w' w.heap.size (fun k_ => (w.heap.size ≤ k_)) v0_ r ∧ Below w.heap.size w w' := by
  have hu113 := Tryd.underlying113
  have HB := Aside0.mk (Below.refl w.heap.size w)
  have H : (some (([(([(⟨1, 0⟩ : S113), (⟨0, 0⟩ : S113), (⟨0, 0⟩ : S113), (⟨0, 0⟩ : S113), (⟨0, 0⟩ : S113), (⟨1, 0⟩ : S113)] : List (S113))), (([(⟨1, 0⟩ : S113), (⟨4, 0⟩ : S113), (⟨1, 0⟩ : S113), (⟨1, 0⟩ : S113), (⟨2, 1⟩ : S113), (⟨1, 0⟩ : S113)] : List (S113))), (([(⟨2, 0⟩ : S113), (⟨4, 0⟩ : S113), (⟨2, 0⟩ : S113), (⟨2, 0⟩ : S113), (⟨3, 2⟩ : S113), (⟨1, 0⟩ : S113)] : List (S113))), (([(⟨3, 0⟩ : S113), (⟨4, 0⟩ : S113), (⟨2, 0⟩ : S113), (⟨2, 0⟩ : S113), (⟨3, 0⟩ : S113), (⟨1, 0⟩ : S113)] : List (S113))), (([(⟨2, 0⟩ : S113), (⟨4, 0⟩ : S113), (⟨4, 0⟩ : S113), (⟨4, 0⟩ : S113), (⟨0, 3⟩ : S113), (⟨1, 0⟩ : S113)] : List (S113)))] : List (List (S113))))) = some r := h
  clear h
  obtain ⟨y110, hy110⟩ : ∃ y_ : List (S113), y_ = (([(⟨1, 0⟩ : S113), (⟨0, 0⟩ : S113), (⟨0, 0⟩ : S113), (⟨0, 0⟩ : S113), (⟨0, 0⟩ : S113), (⟨1, 0⟩ : S113)] : List (S113))) := ⟨_, rfl⟩
  replace H : (some (([y110, (([(⟨1, 0⟩ : S113), (⟨4, 0⟩ : S113), (⟨1, 0⟩ : S113), (⟨1, 0⟩ : S113), (⟨2, 1⟩ : S113), (⟨1, 0⟩ : S113)] : List (S113))), (([(⟨2, 0⟩ : S113), (⟨4, 0⟩ : S113), (⟨2, 0⟩ : S113), (⟨2, 0⟩ : S113), (⟨3, 2⟩ : S113), (⟨1, 0⟩ : S113)] : List (S113))), (([(⟨3, 0⟩ : S113), (⟨4, 0⟩ : S113), (⟨2, 0⟩ : S113), (⟨2, 0⟩ : S113), (⟨3, 0⟩ : S113), (⟨1, 0⟩ : S113)] : List (S113))), (([(⟨2, 0⟩ : S113), (⟨4, 0⟩ : S113), (⟨4, 0⟩ : S113), (⟨4, 0⟩ : S113), (⟨0, 3⟩ : S113), (⟨1, 0⟩ : S113)] : List (S113)))] : List (List (S113))))) = some r := by first | (rw [hy110]; with_reducible exact H) | (have H2_ := (Option.bind_some _ _).symm.trans H; rw [hy110]; with_reducible exact H2_) | (have H2_ := (Option.bind_some _ _).symm.trans H; with_reducible exact H2_) | with_reducible exact H | (rw [hy110]; exact H) | exact H
  have Ny110 := Aside0.mk hy110
  clear hy110
  obtain ⟨y113, hy113⟩ : ∃ y_ : List (S113), y_ = (([(⟨1, 0⟩ : S113), (⟨4, 0⟩ : S113), (⟨1, 0⟩ : S113), (⟨1, 0⟩ : S113), (⟨2, 1⟩ : S113), (⟨1, 0⟩ : S113)] : List (S113))) := ⟨_, rfl⟩
  replace H : (some (([y110, y113, (([(⟨2, 0⟩ : S113), (⟨4, 0⟩ : S113), (⟨2, 0⟩ : S113), (⟨2, 0⟩ : S113), (⟨3, 2⟩ : S113), (⟨1, 0⟩ : S113)] : List (S113))), (([(⟨3, 0⟩ : S113), (⟨4, 0⟩ : S113), (⟨2, 0⟩ : S113), (⟨2, 0⟩ : S113), (⟨3, 0⟩ : S113), (⟨1, 0⟩ : S113)] : List (S113))), (([(⟨2, 0⟩ : S113), (⟨4, 0⟩ : S113), (⟨4, 0⟩ : S113), (⟨4, 0⟩ : S113), (⟨0, 3⟩ : S113), (⟨1, 0⟩ : S113)] : List (S113)))] : List (List (S113))))) = some r := by first | (rw [hy113]; with_reducible exact H) | (have H2_ := (Option.bind_some _ _).symm.trans H; rw [hy113]; with_reducible exact H2_) | (have H2_ := (Option.bind_some _ _).symm.trans H; with_reducible exact H2_) | with_reducible exact H | (rw [hy113]; exact H) | exact H
  have Ny113 := Aside0.mk hy113
  clear hy113
  obtain ⟨y116, hy116⟩ : ∃ y_ : List (S113), y_ = (([(⟨2, 0⟩ : S113), (⟨4, 0⟩ : S113), (⟨2, 0⟩ : S113), (⟨2, 0⟩ : S113), (⟨3, 2⟩ : S113), (⟨1, 0⟩ : S113)] : List (S113))) := ⟨_, rfl⟩
  replace H : (some (([y110, y113, y116, (([(⟨3, 0⟩ : S113), (⟨4, 0⟩ : S113), (⟨2, 0⟩ : S113), (⟨2, 0⟩ : S113), (⟨3, 0⟩ : S113), (⟨1, 0⟩ : S113)] : List (S113))), (([(⟨2, 0⟩ : S113), (⟨4, 0⟩ : S113), (⟨4, 0⟩ : S113), (⟨4, 0⟩ : S113), (⟨0, 3⟩ : S113), (⟨1, 0⟩ : S113)] : List (S113)))] : List (List (S113))))) = some r := by first | (rw [hy116]; with_reducible exact H) | (have H2_ := (Option.bind_some _ _).symm.trans H; rw [hy116]; with_reducible exact H2_) | (have H2_ := (Option.bind_some _ _).symm.trans H; with_reducible exact H2_) | with_reducible exact H | (rw [hy116]; exact H) | exact H
  have Ny116 := Aside0.mk hy116
  clear hy116
  obtain ⟨y119, hy119⟩ : ∃ y_ : List (S113), y_ = (([(⟨3, 0⟩ : S113), (⟨4, 0⟩ : S113), (⟨2, 0⟩ : S113), (⟨2, 0⟩ : S113), (⟨3, 0⟩ : S113), (⟨1, 0⟩ : S113)] : List (S113))) := ⟨_, rfl⟩
  replace H : (some (([y110, y113, y116, y119, (([(⟨2, 0⟩ : S113), (⟨4, 0⟩ : S113), (⟨4, 0⟩ : S113), (⟨4, 0⟩ : S113), (⟨0, 3⟩ : S113), (⟨1, 0⟩ : S113)] : List (S113)))] : List (List (S113))))) = some r := by first | (rw [hy119]; with_reducible exact H) | (have H2_ := (Option.bind_some _ _).symm.trans H; rw [hy119]; with_reducible exact H2_) | (have H2_ := (Option.bind_some _ _).symm.trans H; with_reducible exact H2_) | with_reducible exact H | (rw [hy119]; exact H) | exact H
  have Ny119 := Aside0.mk hy119
  clear hy119
  obtain ⟨y122, hy122⟩ : ∃ y_ : List (S113), y_ = (([(⟨2, 0⟩ : S113), (⟨4, 0⟩ : S113), (⟨4, 0⟩ : S113), (⟨4, 0⟩ : S113), (⟨0, 3⟩ : S113), (⟨1, 0⟩ : S113)] : List (S113))) := ⟨_, rfl⟩
  replace H : (some (([y110, y113, y116, y119, y122] : List (List (S113))))) = some r := by first | (rw [hy122]; with_reducible exact H) | (have H2_ := (Option.bind_some _ _).symm.trans H; rw [hy122]; with_reducible exact H2_) | (have H2_ := (Option.bind_some _ _).symm.trans H; with_reducible exact H2_) | with_reducible exact H | (rw [hy122]; exact H) | exact H
  have Ny122 := Aside0.mk hy122
  clear hy122
  obtain ⟨y125, hy125⟩ : ∃ y_ : List (List (S113)), y_ = (([y110, y113, y116, y119, y122] : List (List (S113)))) := ⟨_, rfl⟩
  replace H : (some y125) = some r := by first | (rw [hy125]; with_reducible exact H) | (have H2_ := (Option.bind_some _ _).symm.trans H; rw [hy125]; with_reducible exact H2_) | (have H2_ := (Option.bind_some _ _).symm.trans H; with_reducible exact H2_) | with_reducible exact H | (rw [hy125]; exact H) | exact H
  have Ny125 := Aside0.mk hy125
  clear hy125
  obtain rfl := Option.some.inj H
  go_enter Tryd.func77, Tryd.ntmps77
  go_wp2_with (first | ((with_reducible refine gate_dst (N := 7) rfl ?_); refine Kd.R_lit k113 _ 113 ?hg (N := 7) ?hd (xs := ([(⟨1, 0⟩ : S113), (⟨0, 0⟩ : S113), (⟨0, 0⟩ : S113), (⟨0, 0⟩ : S113), (⟨0, 0⟩ : S113), (⟨1, 0⟩ : S113)] : List (S113))) (inner := [.int .i64 1, .int .i64 0, .int .i64 0, .int .i64 0, .int .i64 0, .int .i64 0, .int .i64 0, .int .i64 0, .int .i64 0, .int .i64 0, .int .i64 1, .int .i64 0]) (ok := fun _ => True) (okp := fun _ => True) ?hr ?hp (fun _ hk => hk) trivial (Below.refl _ _) (Nat.le_refl _) (by simp) ?_; (case hd => rfl); (case hg => rfl); (case hr => first | (go_simp; done) | (go_simp; rfl)); (case hp => exact (Reps.c2 (show Kd.M k113 _ _ _ (⟨1, 0⟩ : S113) [.int .i64 1, .int .i64 0] from (k113_mkM _ _ _ (⟨1, 0⟩ : S113) )) (Reps.c2 (show Kd.M k113 _ _ _ (⟨0, 0⟩ : S113) [.int .i64 0, .int .i64 0] from (k113_mkM _ _ _ (⟨0, 0⟩ : S113) )) (Reps.c2 (show Kd.M k113 _ _ _ (⟨0, 0⟩ : S113) [.int .i64 0, .int .i64 0] from (k113_mkM _ _ _ (⟨0, 0⟩ : S113) )) (Reps.c2 (show Kd.M k113 _ _ _ (⟨0, 0⟩ : S113) [.int .i64 0, .int .i64 0] from (k113_mkM _ _ _ (⟨0, 0⟩ : S113) )) (Reps.c2 (show Kd.M k113 _ _ _ (⟨0, 0⟩ : S113) [.int .i64 0, .int .i64 0] from (k113_mkM _ _ _ (⟨0, 0⟩ : S113) )) (Reps.c2 (show Kd.M k113 _ _ _ (⟨1, 0⟩ : S113) [.int .i64 1, .int .i64 0] from (k113_mkM _ _ _ (⟨1, 0⟩ : S113) )) (Reps.none _ _)))))))); intro v111 w1 ho2 hb hg_ hnew_; clear hg_ hnew_; (first | rw [← Ny110.out] at ho2 | (simp only [Int.reduceToNat] at ho2; rw [← Ny110.out] at ho2)); have n0_ := Aside0.mk (Kd.R_lower (Kd.R_newM (M := fun k_ => (w.heap.size ≤ k_)) ho2 (below_size (by repeat (first | (with_reducible first | exact HB.out | apply below_alloc | apply pw_below_drewN | apply below_drew1) | exact HB.out))) (fun k_ h_ => h_)) (below_size (by repeat (first | (with_reducible first | exact HB.out | apply below_alloc | apply pw_below_drewN | apply below_drew1) | exact HB.out)))); have n1_ := Aside0.mk (below_step (by repeat (first | (with_reducible first | exact HB.out | apply below_alloc | apply pw_below_drewN | apply below_drew1) | exact HB.out)) hb); clear HB; have HO112 := n0_; have HB := n1_; clear n0_ n1_; clear hb ho2) | ((with_reducible refine gate_dst (N := 14) rfl ?_); refine Kd.R_lit k113 _ 113 ?hg (N := 14) ?hd (xs := ([(⟨1, 0⟩ : S113), (⟨4, 0⟩ : S113), (⟨1, 0⟩ : S113), (⟨1, 0⟩ : S113), (⟨2, 1⟩ : S113), (⟨1, 0⟩ : S113)] : List (S113))) (inner := [.int .i64 1, .int .i64 0, .int .i64 4, .int .i64 0, .int .i64 1, .int .i64 0, .int .i64 1, .int .i64 0, .int .i64 2, .int .i64 1, .int .i64 1, .int .i64 0]) (ok := fun _ => True) (okp := fun _ => True) ?hr ?hp (fun _ hk => hk) trivial (Below.refl _ _) (Nat.le_refl _) (by simp) ?_; (case hd => rfl); (case hg => rfl); (case hr => first | (go_simp; done) | (go_simp; rfl)); (case hp => exact (Reps.c2 (show Kd.M k113 _ _ _ (⟨1, 0⟩ : S113) [.int .i64 1, .int .i64 0] from (k113_mkM _ _ _ (⟨1, 0⟩ : S113) )) (Reps.c2 (show Kd.M k113 _ _ _ (⟨4, 0⟩ : S113) [.int .i64 4, .int .i64 0] from (k113_mkM _ _ _ (⟨4, 0⟩ : S113) )) (Reps.c2 (show Kd.M k113 _ _ _ (⟨1, 0⟩ : S113) [.int .i64 1, .int .i64 0] from (k113_mkM _ _ _ (⟨1, 0⟩ : S113) )) (Reps.c2 (show Kd.M k113 _ _ _ (⟨1, 0⟩ : S113) [.int .i64 1, .int .i64 0] from (k113_mkM _ _ _ (⟨1, 0⟩ : S113) )) (Reps.c2 (show Kd.M k113 _ _ _ (⟨2, 1⟩ : S113) [.int .i64 2, .int .i64 1] from (k113_mkM _ _ _ (⟨2, 1⟩ : S113) )) (Reps.c2 (show Kd.M k113 _ _ _ (⟨1, 0⟩ : S113) [.int .i64 1, .int .i64 0] from (k113_mkM _ _ _ (⟨1, 0⟩ : S113) )) (Reps.none _ _)))))))); intro v114 w3 ho4 hb hg_ hnew_; clear hg_ hnew_; (first | rw [← Ny113.out] at ho4 | (simp only [Int.reduceToNat] at ho4; rw [← Ny113.out] at ho4)); have n0_ := Aside0.mk (Kd.R_elder' (by (with_reducible repeat (first | apply Kd.R_alloc | apply Kd.R_drewN | apply Kd.R_drew)); exact HO112.out) (Kd.R_base ho4) hb); have n1_ := Aside0.mk (Kd.R_lower (Kd.R_new' (Kd.R_newM (M := fun k_ => (w.heap.size ≤ k_)) ho4 (below_size (by repeat (first | (with_reducible first | exact HB.out | apply below_alloc | apply pw_below_drewN | apply below_drew1) | exact HB.out))) (fun k_ h_ => h_)) (Kd.R_lt (by (with_reducible repeat (first | apply Kd.R_alloc | apply Kd.R_drewN | apply Kd.R_drew)); exact HO112.out))) (below_size (by repeat (first | (with_reducible first | exact HB.out | apply below_alloc | apply pw_below_drewN | apply below_drew1) | exact HB.out)))); have n2_ := Aside0.mk (below_step (by repeat (first | (with_reducible first | exact HB.out | apply below_alloc | apply pw_below_drewN | apply below_drew1) | exact HB.out)) hb); clear HO112; clear HB; have HO112 := n0_; have HO115 := n1_; have HB := n2_; clear n0_ n1_ n2_; clear hb ho4) | ((with_reducible refine gate_dst (N := 21) rfl ?_); refine Kd.R_lit k113 _ 113 ?hg (N := 21) ?hd (xs := ([(⟨2, 0⟩ : S113), (⟨4, 0⟩ : S113), (⟨2, 0⟩ : S113), (⟨2, 0⟩ : S113), (⟨3, 2⟩ : S113), (⟨1, 0⟩ : S113)] : List (S113))) (inner := [.int .i64 2, .int .i64 0, .int .i64 4, .int .i64 0, .int .i64 2, .int .i64 0, .int .i64 2, .int .i64 0, .int .i64 3, .int .i64 2, .int .i64 1, .int .i64 0]) (ok := fun _ => True) (okp := fun _ => True) ?hr ?hp (fun _ hk => hk) trivial (Below.refl _ _) (Nat.le_refl _) (by simp) ?_; (case hd => rfl); (case hg => rfl); (case hr => first | (go_simp; done) | (go_simp; rfl)); (case hp => exact (Reps.c2 (show Kd.M k113 _ _ _ (⟨2, 0⟩ : S113) [.int .i64 2, .int .i64 0] from (k113_mkM _ _ _ (⟨2, 0⟩ : S113) )) (Reps.c2 (show Kd.M k113 _ _ _ (⟨4, 0⟩ : S113) [.int .i64 4, .int .i64 0] from (k113_mkM _ _ _ (⟨4, 0⟩ : S113) )) (Reps.c2 (show Kd.M k113 _ _ _ (⟨2, 0⟩ : S113) [.int .i64 2, .int .i64 0] from (k113_mkM _ _ _ (⟨2, 0⟩ : S113) )) (Reps.c2 (show Kd.M k113 _ _ _ (⟨2, 0⟩ : S113) [.int .i64 2, .int .i64 0] from (k113_mkM _ _ _ (⟨2, 0⟩ : S113) )) (Reps.c2 (show Kd.M k113 _ _ _ (⟨3, 2⟩ : S113) [.int .i64 3, .int .i64 2] from (k113_mkM _ _ _ (⟨3, 2⟩ : S113) )) (Reps.c2 (show Kd.M k113 _ _ _ (⟨1, 0⟩ : S113) [.int .i64 1, .int .i64 0] from (k113_mkM _ _ _ (⟨1, 0⟩ : S113) )) (Reps.none _ _)))))))); intro v117 w5 ho6 hb hg_ hnew_; clear hg_ hnew_; (first | rw [← Ny116.out] at ho6 | (simp only [Int.reduceToNat] at ho6; rw [← Ny116.out] at ho6)); have n0_ := Aside0.mk (Kd.R_elder' (by (with_reducible repeat (first | apply Kd.R_alloc | apply Kd.R_drewN | apply Kd.R_drew)); exact HO112.out) (Kd.R_base ho6) hb); have n1_ := Aside0.mk (Kd.R_elder' (by (with_reducible repeat (first | apply Kd.R_alloc | apply Kd.R_drewN | apply Kd.R_drew)); exact HO115.out) (Kd.R_base ho6) hb); have n2_ := Aside0.mk (Kd.R_lower (Kd.R_new' (Kd.R_new' (Kd.R_newM (M := fun k_ => (w.heap.size ≤ k_)) ho6 (below_size (by repeat (first | (with_reducible first | exact HB.out | apply below_alloc | apply pw_below_drewN | apply below_drew1) | exact HB.out))) (fun k_ h_ => h_)) (Kd.R_lt (by (with_reducible repeat (first | apply Kd.R_alloc | apply Kd.R_drewN | apply Kd.R_drew)); exact HO112.out))) (Kd.R_lt (by (with_reducible repeat (first | apply Kd.R_alloc | apply Kd.R_drewN | apply Kd.R_drew)); exact HO115.out))) (below_size (by repeat (first | (with_reducible first | exact HB.out | apply below_alloc | apply pw_below_drewN | apply below_drew1) | exact HB.out)))); have n3_ := Aside0.mk (below_step (by repeat (first | (with_reducible first | exact HB.out | apply below_alloc | apply pw_below_drewN | apply below_drew1) | exact HB.out)) hb); clear HO112; clear HO115; clear HB; have HO112 := n0_; have HO115 := n1_; have HO118 := n2_; have HB := n3_; clear n0_ n1_ n2_ n3_; clear hb ho6) | ((with_reducible refine gate_dst (N := 28) rfl ?_); refine Kd.R_lit k113 _ 113 ?hg (N := 28) ?hd (xs := ([(⟨3, 0⟩ : S113), (⟨4, 0⟩ : S113), (⟨2, 0⟩ : S113), (⟨2, 0⟩ : S113), (⟨3, 0⟩ : S113), (⟨1, 0⟩ : S113)] : List (S113))) (inner := [.int .i64 3, .int .i64 0, .int .i64 4, .int .i64 0, .int .i64 2, .int .i64 0, .int .i64 2, .int .i64 0, .int .i64 3, .int .i64 0, .int .i64 1, .int .i64 0]) (ok := fun _ => True) (okp := fun _ => True) ?hr ?hp (fun _ hk => hk) trivial (Below.refl _ _) (Nat.le_refl _) (by simp) ?_; (case hd => rfl); (case hg => rfl); (case hr => first | (go_simp; done) | (go_simp; rfl)); (case hp => exact (Reps.c2 (show Kd.M k113 _ _ _ (⟨3, 0⟩ : S113) [.int .i64 3, .int .i64 0] from (k113_mkM _ _ _ (⟨3, 0⟩ : S113) )) (Reps.c2 (show Kd.M k113 _ _ _ (⟨4, 0⟩ : S113) [.int .i64 4, .int .i64 0] from (k113_mkM _ _ _ (⟨4, 0⟩ : S113) )) (Reps.c2 (show Kd.M k113 _ _ _ (⟨2, 0⟩ : S113) [.int .i64 2, .int .i64 0] from (k113_mkM _ _ _ (⟨2, 0⟩ : S113) )) (Reps.c2 (show Kd.M k113 _ _ _ (⟨2, 0⟩ : S113) [.int .i64 2, .int .i64 0] from (k113_mkM _ _ _ (⟨2, 0⟩ : S113) )) (Reps.c2 (show Kd.M k113 _ _ _ (⟨3, 0⟩ : S113) [.int .i64 3, .int .i64 0] from (k113_mkM _ _ _ (⟨3, 0⟩ : S113) )) (Reps.c2 (show Kd.M k113 _ _ _ (⟨1, 0⟩ : S113) [.int .i64 1, .int .i64 0] from (k113_mkM _ _ _ (⟨1, 0⟩ : S113) )) (Reps.none _ _)))))))); intro v120 w7 ho8 hb hg_ hnew_; clear hg_ hnew_; (first | rw [← Ny119.out] at ho8 | (simp only [Int.reduceToNat] at ho8; rw [← Ny119.out] at ho8)); have n0_ := Aside0.mk (Kd.R_elder' (by (with_reducible repeat (first | apply Kd.R_alloc | apply Kd.R_drewN | apply Kd.R_drew)); exact HO112.out) (Kd.R_base ho8) hb); have n1_ := Aside0.mk (Kd.R_elder' (by (with_reducible repeat (first | apply Kd.R_alloc | apply Kd.R_drewN | apply Kd.R_drew)); exact HO115.out) (Kd.R_base ho8) hb); have n2_ := Aside0.mk (Kd.R_elder' (by (with_reducible repeat (first | apply Kd.R_alloc | apply Kd.R_drewN | apply Kd.R_drew)); exact HO118.out) (Kd.R_base ho8) hb); have n3_ := Aside0.mk (Kd.R_lower (Kd.R_new' (Kd.R_new' (Kd.R_new' (Kd.R_newM (M := fun k_ => (w.heap.size ≤ k_)) ho8 (below_size (by repeat (first | (with_reducible first | exact HB.out | apply below_alloc | apply pw_below_drewN | apply below_drew1) | exact HB.out))) (fun k_ h_ => h_)) (Kd.R_lt (by (with_reducible repeat (first | apply Kd.R_alloc | apply Kd.R_drewN | apply Kd.R_drew)); exact HO112.out))) (Kd.R_lt (by (with_reducible repeat (first | apply Kd.R_alloc | apply Kd.R_drewN | apply Kd.R_drew)); exact HO115.out))) (Kd.R_lt (by (with_reducible repeat (first | apply Kd.R_alloc | apply Kd.R_drewN | apply Kd.R_drew)); exact HO118.out))) (below_size (by repeat (first | (with_reducible first | exact HB.out | apply below_alloc | apply pw_below_drewN | apply below_drew1) | exact HB.out)))); have n4_ := Aside0.mk (below_step (by repeat (first | (with_reducible first | exact HB.out | apply below_alloc | apply pw_below_drewN | apply below_drew1) | exact HB.out)) hb); clear HO112; clear HO115; clear HO118; clear HB; have HO112 := n0_; have HO115 := n1_; have HO118 := n2_; have HO121 := n3_; have HB := n4_; clear n0_ n1_ n2_ n3_ n4_; clear hb ho8) | ((with_reducible refine gate_dst (N := 35) rfl ?_); refine Kd.R_lit k113 _ 113 ?hg (N := 35) ?hd (xs := ([(⟨2, 0⟩ : S113), (⟨4, 0⟩ : S113), (⟨4, 0⟩ : S113), (⟨4, 0⟩ : S113), (⟨0, 3⟩ : S113), (⟨1, 0⟩ : S113)] : List (S113))) (inner := [.int .i64 2, .int .i64 0, .int .i64 4, .int .i64 0, .int .i64 4, .int .i64 0, .int .i64 4, .int .i64 0, .int .i64 0, .int .i64 3, .int .i64 1, .int .i64 0]) (ok := fun _ => True) (okp := fun _ => True) ?hr ?hp (fun _ hk => hk) trivial (Below.refl _ _) (Nat.le_refl _) (by simp) ?_; (case hd => rfl); (case hg => rfl); (case hr => first | (go_simp; done) | (go_simp; rfl)); (case hp => exact (Reps.c2 (show Kd.M k113 _ _ _ (⟨2, 0⟩ : S113) [.int .i64 2, .int .i64 0] from (k113_mkM _ _ _ (⟨2, 0⟩ : S113) )) (Reps.c2 (show Kd.M k113 _ _ _ (⟨4, 0⟩ : S113) [.int .i64 4, .int .i64 0] from (k113_mkM _ _ _ (⟨4, 0⟩ : S113) )) (Reps.c2 (show Kd.M k113 _ _ _ (⟨4, 0⟩ : S113) [.int .i64 4, .int .i64 0] from (k113_mkM _ _ _ (⟨4, 0⟩ : S113) )) (Reps.c2 (show Kd.M k113 _ _ _ (⟨4, 0⟩ : S113) [.int .i64 4, .int .i64 0] from (k113_mkM _ _ _ (⟨4, 0⟩ : S113) )) (Reps.c2 (show Kd.M k113 _ _ _ (⟨0, 3⟩ : S113) [.int .i64 0, .int .i64 3] from (k113_mkM _ _ _ (⟨0, 3⟩ : S113) )) (Reps.c2 (show Kd.M k113 _ _ _ (⟨1, 0⟩ : S113) [.int .i64 1, .int .i64 0] from (k113_mkM _ _ _ (⟨1, 0⟩ : S113) )) (Reps.none _ _)))))))); intro v123 w9 ho10 hb hg_ hnew_; clear hg_ hnew_; (first | rw [← Ny122.out] at ho10 | (simp only [Int.reduceToNat] at ho10; rw [← Ny122.out] at ho10)); have n0_ := Aside0.mk (Kd.R_elder' (by (with_reducible repeat (first | apply Kd.R_alloc | apply Kd.R_drewN | apply Kd.R_drew)); exact HO112.out) (Kd.R_base ho10) hb); have n1_ := Aside0.mk (Kd.R_elder' (by (with_reducible repeat (first | apply Kd.R_alloc | apply Kd.R_drewN | apply Kd.R_drew)); exact HO115.out) (Kd.R_base ho10) hb); have n2_ := Aside0.mk (Kd.R_elder' (by (with_reducible repeat (first | apply Kd.R_alloc | apply Kd.R_drewN | apply Kd.R_drew)); exact HO118.out) (Kd.R_base ho10) hb); have n3_ := Aside0.mk (Kd.R_elder' (by (with_reducible repeat (first | apply Kd.R_alloc | apply Kd.R_drewN | apply Kd.R_drew)); exact HO121.out) (Kd.R_base ho10) hb); have n4_ := Aside0.mk (Kd.R_lower (Kd.R_new' (Kd.R_new' (Kd.R_new' (Kd.R_new' (Kd.R_newM (M := fun k_ => (w.heap.size ≤ k_)) ho10 (below_size (by repeat (first | (with_reducible first | exact HB.out | apply below_alloc | apply pw_below_drewN | apply below_drew1) | exact HB.out))) (fun k_ h_ => h_)) (Kd.R_lt (by (with_reducible repeat (first | apply Kd.R_alloc | apply Kd.R_drewN | apply Kd.R_drew)); exact HO112.out))) (Kd.R_lt (by (with_reducible repeat (first | apply Kd.R_alloc | apply Kd.R_drewN | apply Kd.R_drew)); exact HO115.out))) (Kd.R_lt (by (with_reducible repeat (first | apply Kd.R_alloc | apply Kd.R_drewN | apply Kd.R_drew)); exact HO118.out))) (Kd.R_lt (by (with_reducible repeat (first | apply Kd.R_alloc | apply Kd.R_drewN | apply Kd.R_drew)); exact HO121.out))) (below_size (by repeat (first | (with_reducible first | exact HB.out | apply below_alloc | apply pw_below_drewN | apply below_drew1) | exact HB.out)))); have n5_ := Aside0.mk (below_step (by repeat (first | (with_reducible first | exact HB.out | apply below_alloc | apply pw_below_drewN | apply below_drew1) | exact HB.out)) hb); clear HO112; clear HO115; clear HO118; clear HO121; clear HB; have HO112 := n0_; have HO115 := n1_; have HO118 := n2_; have HO121 := n3_; have HO124 := n4_; have HB := n5_; clear n0_ n1_ n2_ n3_ n4_ n5_; clear hb ho10; obtain ⟨Ao11, co11, eo11⟩ := Kd.R_slice HO112.out; subst eo11; obtain ⟨Ao12, co12, eo12⟩ := Kd.R_slice HO115.out; subst eo12; obtain ⟨Ao13, co13, eo13⟩ := Kd.R_slice HO118.out; subst eo13; obtain ⟨Ao14, co14, eo14⟩ := Kd.R_slice HO121.out; subst eo14; obtain ⟨Ao15, co15, eo15⟩ := Kd.R_slice HO124.out; subst eo15) | ((with_reducible refine gate_dst (N := 36) rfl ?_); refine Kd.N_lit (Kd.slice 113 k113) _ 125 ?hg (N' := 36) ?hd (xs := ([y110, y113, y116, y119, y122] : List (List (S113)))) (inner := [.slice Ao11 y110.length co11, .slice Ao12 y113.length co12, .slice Ao13 y116.length co13, .slice Ao14 y119.length co14, .slice Ao15 y122.length co15]) (ok := (fun k_ => (w.heap.size ≤ k_))) (okp := (fun k_ => (w.heap.size ≤ k_))) ?hr ?hp (fun _ hk => hk) ((show ∀ k_, w9.heap.size ≤ k_ → (fun k_ => (w.heap.size ≤ k_)) k_ from fun k_ hk => (Nat.le_trans (below_size (by repeat (first | (with_reducible first | exact HB.out | apply below_alloc | apply pw_below_drewN | apply below_drew1) | exact HB.out))) hk)) _ (Nat.le_refl _)) (Below.refl _ _) (Nat.le_refl _) (by simp) ?_; (case hd => rfl); (case hg => rfl); (case hr => first | (go_simp; done) | (go_simp; rfl)); (case hp => exact (Reps.one (show Kd.FK (Kd.slice 113 k113) _ _ y110 [.slice Ao11 y110.length co11] from (Kd.FK_slice_mk (Kd.R_reads' (Kd.R_mono (ok' := (fun k_ => (w.heap.size ≤ k_))) (HO112.out) (fun k_ hk => hk.1.1.1.1.1))).2.1 (Kd.R_F (Kd.R_mono (ok' := (fun k_ => (w.heap.size ≤ k_))) (HO112.out) (fun k_ hk => hk.1.1.1.1.1))))) (Reps.one (show Kd.FK (Kd.slice 113 k113) _ _ y113 [.slice Ao12 y113.length co12] from (Kd.FK_slice_mk (Kd.R_reads' (Kd.R_mono (ok' := (fun k_ => (w.heap.size ≤ k_))) (HO115.out) (fun k_ hk => hk.1.1.1.1.1))).2.1 (Kd.R_F (Kd.R_mono (ok' := (fun k_ => (w.heap.size ≤ k_))) (HO115.out) (fun k_ hk => hk.1.1.1.1.1))))) (Reps.one (show Kd.FK (Kd.slice 113 k113) _ _ y116 [.slice Ao13 y116.length co13] from (Kd.FK_slice_mk (Kd.R_reads' (Kd.R_mono (ok' := (fun k_ => (w.heap.size ≤ k_))) (HO118.out) (fun k_ hk => hk.1.1.1.1.1))).2.1 (Kd.R_F (Kd.R_mono (ok' := (fun k_ => (w.heap.size ≤ k_))) (HO118.out) (fun k_ hk => hk.1.1.1.1.1))))) (Reps.one (show Kd.FK (Kd.slice 113 k113) _ _ y119 [.slice Ao14 y119.length co14] from (Kd.FK_slice_mk (Kd.R_reads' (Kd.R_mono (ok' := (fun k_ => (w.heap.size ≤ k_))) (HO121.out) (fun k_ hk => hk.1.1.1.1.1))).2.1 (Kd.R_F (Kd.R_mono (ok' := (fun k_ => (w.heap.size ≤ k_))) (HO121.out) (fun k_ hk => hk.1.1.1.1.1))))) (Reps.one (show Kd.FK (Kd.slice 113 k113) _ _ y122 [.slice Ao15 y122.length co15] from (Kd.FK_slice_mk (Kd.R_reads' (Kd.R_mono (ok' := (fun k_ => (w.heap.size ≤ k_))) (HO124.out) (fun k_ hk => hk.1.1.1.1.1))).2.1 (Kd.R_F (Kd.R_mono (ok' := (fun k_ => (w.heap.size ≤ k_))) (HO124.out) (fun k_ hk => hk.1.1.1.1.1))))) (Reps.none _ _))))))); intro v126 w16 ho17 hb hg_ hnew_; clear hg_ hnew_; (first | rw [← Ny125.out] at ho17 | (simp only [Int.reduceToNat] at ho17; rw [← Ny125.out] at ho17)); have n0_ := Aside0.mk (Kd.N_lower ho17 (below_size (by repeat (first | (with_reducible first | exact HB.out | apply below_alloc | apply pw_below_drewN | apply below_drew1) | exact HB.out)))); have n1_ := Aside0.mk (below_step (by repeat (first | (with_reducible first | exact HB.out | apply below_alloc | apply pw_below_drewN | apply below_drew1) | exact HB.out)) hb); clear HB; clear HO112; clear HO115; clear HO118; clear HO121; clear HO124; have HO127 := n0_; have HB := n1_; clear n0_ n1_; clear hb ho17))
  go_ret
  exact ⟨_, by first | rfl | (simp [errW_none, errW_some] <;> rfl) | (simp [*, errW_none, errW_some] <;> rfl), by (with_reducible repeat (first | apply Kd.N_alloc | apply Kd.N_drewN | apply Kd.N_drew)); exact HO127.out, by repeat (first | (with_reducible first | exact HB.out | apply below_alloc | apply pw_below_drewN | apply below_drew1) | exact HB.out)⟩
def table_Registrar.f  : Option ((List (List (S113)))) := some (([(([(⟨2, 3⟩ : S113), (⟨0, 0⟩ : S113), (⟨0, 0⟩ : S113), (⟨0, 0⟩ : S113), (⟨0, 0⟩ : S113)] : List (S113))), (([(⟨2, 2⟩ : S113), (⟨1, 0⟩ : S113), (⟨1, 0⟩ : S113), (⟨0, 4⟩ : S113), (⟨0, 4⟩ : S113)] : List (S113))), (([(⟨2, 0⟩ : S113), (⟨1, 1⟩ : S113), (⟨1, 1⟩ : S113), (⟨2, 0⟩ : S113), (⟨0, 4⟩ : S113)] : List (S113)))] : List (List (S113))))
set_option maxHeartbeats 8000000 in
set_option maxRecDepth 100000 in
theorem table_Registrar.calls  (r : List (List (S113))) (w : World) (h : table_Registrar.f  = some r) :
    Calls Tryd.prog 81 #[] w fun e w' => ∃ v0_ : Value, e = .returned (v0_) ∧ Kd.N (Kd.slice 113 k113) 125 w' w.heap.size (fun k_ => (w.heap.size ≤ k_)) v0_ r ∧ Below w.heap.size w w' := by
  have hu113 := Tryd.underlying113
  have HB := Aside0.mk (Below.refl w.heap.size w)
  have H : (some (([(([(⟨2, 3⟩ : S113), (⟨0, 0⟩ : S113), (⟨0, 0⟩ : S113), (⟨0, 0⟩ : S113), (⟨0, 0⟩ : S113)] : List (S113))), (([(⟨2, 2⟩ : S113), (⟨1, 0⟩ : S113), (⟨1, 0⟩ : S113), (⟨0, 4⟩ : S113), (⟨0, 4⟩ : S113)] : List (S113))), (([(⟨2, 0⟩ : S113), (⟨1, 1⟩ : S113), (⟨1, 1⟩ : S113), (⟨2, 0⟩ : S113), (⟨0, 4⟩ : S113)] : List (S113)))] : List (List (S113))))) = some r := h
  clear h
  obtain ⟨y135, hy135⟩ : ∃ y_ : List (S113), y_ = (([(⟨2, 3⟩ : S113), (⟨0, 0⟩ : S113), (⟨0, 0⟩ : S113), (⟨0, 0⟩ : S113), (⟨0, 0⟩ : S113)] : List (S113))) := ⟨_, rfl⟩
  replace H : (some (([y135, (([(⟨2, 2⟩ : S113), (⟨1, 0⟩ : S113), (⟨1, 0⟩ : S113), (⟨0, 4⟩ : S113), (⟨0, 4⟩ : S113)] : List (S113))), (([(⟨2, 0⟩ : S113), (⟨1, 1⟩ : S113), (⟨1, 1⟩ : S113), (⟨2, 0⟩ : S113), (⟨0, 4⟩ : S113)] : List (S113)))] : List (List (S113))))) = some r := by first | (rw [hy135]; with_reducible exact H) | (have H2_ := (Option.bind_some _ _).symm.trans H; rw [hy135]; with_reducible exact H2_) | (have H2_ := (Option.bind_some _ _).symm.trans H; with_reducible exact H2_) | with_reducible exact H | (rw [hy135]; exact H) | exact H
  have Ny135 := Aside0.mk hy135
  clear hy135
  obtain ⟨y138, hy138⟩ : ∃ y_ : List (S113), y_ = (([(⟨2, 2⟩ : S113), (⟨1, 0⟩ : S113), (⟨1, 0⟩ : S113), (⟨0, 4⟩ : S113), (⟨0, 4⟩ : S113)] : List (S113))) := ⟨_, rfl⟩
  replace H : (some (([y135, y138, (([(⟨2, 0⟩ : S113), (⟨1, 1⟩ : S113), (⟨1, 1⟩ : S113), (⟨2, 0⟩ : S113), (⟨0, 4⟩ : S113)] : List (S113)))] : List (List (S113))))) = some r := by first | (rw [hy138]; with_reducible exact H) | (have H2_ := (Option.bind_some _ _).symm.trans H; rw [hy138]; with_reducible exact H2_) | (have H2_ := (Option.bind_some _ _).symm.trans H; with_reducible exact H2_) | with_reducible exact H | (rw [hy138]; exact H) | exact H
  have Ny138 := Aside0.mk hy138
  clear hy138
  obtain ⟨y141, hy141⟩ : ∃ y_ : List (S113), y_ = (([(⟨2, 0⟩ : S113), (⟨1, 1⟩ : S113), (⟨1, 1⟩ : S113), (⟨2, 0⟩ : S113), (⟨0, 4⟩ : S113)] : List (S113))) := ⟨_, rfl⟩
  replace H : (some (([y135, y138, y141] : List (List (S113))))) = some r := by first | (rw [hy141]; with_reducible exact H) | (have H2_ := (Option.bind_some _ _).symm.trans H; rw [hy141]; with_reducible exact H2_) | (have H2_ := (Option.bind_some _ _).symm.trans H; with_reducible exact H2_) | with_reducible exact H | (rw [hy141]; exact H) | exact H
  have Ny141 := Aside0.mk hy141
  clear hy141
  obtain ⟨y144, hy144⟩ : ∃ y_ : List (List (S113)), y_ = (([y135, y138, y141] : List (List (S113)))) := ⟨_, rfl⟩
  replace H : (some y144) = some r := by first | (rw [hy144]; with_reducible exact H) | (have H2_ := (Option.bind_some _ _).symm.trans H; rw [hy144]; with_reducible exact H2_) | (have H2_ := (Option.bind_some _ _).symm.trans H; with_reducible exact H2_) | with_reducible exact H | (rw [hy144]; exact H) | exact H
  have Ny144 := Aside0.mk hy144
  clear hy144
  obtain rfl := Option.some.inj H
  go_enter Tryd.func81, Tryd.ntmps81
  go_wp2_with (first | ((with_reducible refine gate_dst (N := 6) rfl ?_); refine Kd.R_lit k113 _ 113 ?hg (N := 6) ?hd (xs := ([(⟨2, 3⟩ : S113), (⟨0, 0⟩ : S113), (⟨0, 0⟩ : S113), (⟨0, 0⟩ : S113), (⟨0, 0⟩ : S113)] : List (S113))) (inner := [.int .i64 2, .int .i64 3, .int .i64 0, .int .i64 0, .int .i64 0, .int .i64 0, .int .i64 0, .int .i64 0, .int .i64 0, .int .i64 0]) (ok := fun _ => True) (okp := fun _ => True) ?hr ?hp (fun _ hk => hk) trivial (Below.refl _ _) (Nat.le_refl _) (by simp) ?_; (case hd => rfl); (case hg => rfl); (case hr => first | (go_simp; done) | (go_simp; rfl)); (case hp => exact (Reps.c2 (show Kd.M k113 _ _ _ (⟨2, 3⟩ : S113) [.int .i64 2, .int .i64 3] from (k113_mkM _ _ _ (⟨2, 3⟩ : S113) )) (Reps.c2 (show Kd.M k113 _ _ _ (⟨0, 0⟩ : S113) [.int .i64 0, .int .i64 0] from (k113_mkM _ _ _ (⟨0, 0⟩ : S113) )) (Reps.c2 (show Kd.M k113 _ _ _ (⟨0, 0⟩ : S113) [.int .i64 0, .int .i64 0] from (k113_mkM _ _ _ (⟨0, 0⟩ : S113) )) (Reps.c2 (show Kd.M k113 _ _ _ (⟨0, 0⟩ : S113) [.int .i64 0, .int .i64 0] from (k113_mkM _ _ _ (⟨0, 0⟩ : S113) )) (Reps.c2 (show Kd.M k113 _ _ _ (⟨0, 0⟩ : S113) [.int .i64 0, .int .i64 0] from (k113_mkM _ _ _ (⟨0, 0⟩ : S113) )) (Reps.none _ _))))))); intro v136 w1 ho2 hb hg_ hnew_; clear hg_ hnew_; (first | rw [← Ny135.out] at ho2 | (simp only [Int.reduceToNat] at ho2; rw [← Ny135.out] at ho2)); have n0_ := Aside0.mk (Kd.R_lower (Kd.R_newM (M := fun k_ => (w.heap.size ≤ k_)) ho2 (below_size (by repeat (first | (with_reducible first | exact HB.out | apply below_alloc | apply pw_below_drewN | apply below_drew1) | exact HB.out))) (fun k_ h_ => h_)) (below_size (by repeat (first | (with_reducible first | exact HB.out | apply below_alloc | apply pw_below_drewN | apply below_drew1) | exact HB.out)))); have n1_ := Aside0.mk (below_step (by repeat (first | (with_reducible first | exact HB.out | apply below_alloc | apply pw_below_drewN | apply below_drew1) | exact HB.out)) hb); clear HB; have HO137 := n0_; have HB := n1_; clear n0_ n1_; clear hb ho2) | ((with_reducible refine gate_dst (N := 12) rfl ?_); refine Kd.R_lit k113 _ 113 ?hg (N := 12) ?hd (xs := ([(⟨2, 2⟩ : S113), (⟨1, 0⟩ : S113), (⟨1, 0⟩ : S113), (⟨0, 4⟩ : S113), (⟨0, 4⟩ : S113)] : List (S113))) (inner := [.int .i64 2, .int .i64 2, .int .i64 1, .int .i64 0, .int .i64 1, .int .i64 0, .int .i64 0, .int .i64 4, .int .i64 0, .int .i64 4]) (ok := fun _ => True) (okp := fun _ => True) ?hr ?hp (fun _ hk => hk) trivial (Below.refl _ _) (Nat.le_refl _) (by simp) ?_; (case hd => rfl); (case hg => rfl); (case hr => first | (go_simp; done) | (go_simp; rfl)); (case hp => exact (Reps.c2 (show Kd.M k113 _ _ _ (⟨2, 2⟩ : S113) [.int .i64 2, .int .i64 2] from (k113_mkM _ _ _ (⟨2, 2⟩ : S113) )) (Reps.c2 (show Kd.M k113 _ _ _ (⟨1, 0⟩ : S113) [.int .i64 1, .int .i64 0] from (k113_mkM _ _ _ (⟨1, 0⟩ : S113) )) (Reps.c2 (show Kd.M k113 _ _ _ (⟨1, 0⟩ : S113) [.int .i64 1, .int .i64 0] from (k113_mkM _ _ _ (⟨1, 0⟩ : S113) )) (Reps.c2 (show Kd.M k113 _ _ _ (⟨0, 4⟩ : S113) [.int .i64 0, .int .i64 4] from (k113_mkM _ _ _ (⟨0, 4⟩ : S113) )) (Reps.c2 (show Kd.M k113 _ _ _ (⟨0, 4⟩ : S113) [.int .i64 0, .int .i64 4] from (k113_mkM _ _ _ (⟨0, 4⟩ : S113) )) (Reps.none _ _))))))); intro v139 w3 ho4 hb hg_ hnew_; clear hg_ hnew_; (first | rw [← Ny138.out] at ho4 | (simp only [Int.reduceToNat] at ho4; rw [← Ny138.out] at ho4)); have n0_ := Aside0.mk (Kd.R_elder' (by (with_reducible repeat (first | apply Kd.R_alloc | apply Kd.R_drewN | apply Kd.R_drew)); exact HO137.out) (Kd.R_base ho4) hb); have n1_ := Aside0.mk (Kd.R_lower (Kd.R_new' (Kd.R_newM (M := fun k_ => (w.heap.size ≤ k_)) ho4 (below_size (by repeat (first | (with_reducible first | exact HB.out | apply below_alloc | apply pw_below_drewN | apply below_drew1) | exact HB.out))) (fun k_ h_ => h_)) (Kd.R_lt (by (with_reducible repeat (first | apply Kd.R_alloc | apply Kd.R_drewN | apply Kd.R_drew)); exact HO137.out))) (below_size (by repeat (first | (with_reducible first | exact HB.out | apply below_alloc | apply pw_below_drewN | apply below_drew1) | exact HB.out)))); have n2_ := Aside0.mk (below_step (by repeat (first | (with_reducible first | exact HB.out | apply below_alloc | apply pw_below_drewN | apply below_drew1) | exact HB.out)) hb); clear HO137; clear HB; have HO137 := n0_; have HO140 := n1_; have HB := n2_; clear n0_ n1_ n2_; clear hb ho4) | ((with_reducible refine gate_dst (N := 18) rfl ?_); refine Kd.R_lit k113 _ 113 ?hg (N := 18) ?hd (xs := ([(⟨2, 0⟩ : S113), (⟨1, 1⟩ : S113), (⟨1, 1⟩ : S113), (⟨2, 0⟩ : S113), (⟨0, 4⟩ : S113)] : List (S113))) (inner := [.int .i64 2, .int .i64 0, .int .i64 1, .int .i64 1, .int .i64 1, .int .i64 1, .int .i64 2, .int .i64 0, .int .i64 0, .int .i64 4]) (ok := fun _ => True) (okp := fun _ => True) ?hr ?hp (fun _ hk => hk) trivial (Below.refl _ _) (Nat.le_refl _) (by simp) ?_; (case hd => rfl); (case hg => rfl); (case hr => first | (go_simp; done) | (go_simp; rfl)); (case hp => exact (Reps.c2 (show Kd.M k113 _ _ _ (⟨2, 0⟩ : S113) [.int .i64 2, .int .i64 0] from (k113_mkM _ _ _ (⟨2, 0⟩ : S113) )) (Reps.c2 (show Kd.M k113 _ _ _ (⟨1, 1⟩ : S113) [.int .i64 1, .int .i64 1] from (k113_mkM _ _ _ (⟨1, 1⟩ : S113) )) (Reps.c2 (show Kd.M k113 _ _ _ (⟨1, 1⟩ : S113) [.int .i64 1, .int .i64 1] from (k113_mkM _ _ _ (⟨1, 1⟩ : S113) )) (Reps.c2 (show Kd.M k113 _ _ _ (⟨2, 0⟩ : S113) [.int .i64 2, .int .i64 0] from (k113_mkM _ _ _ (⟨2, 0⟩ : S113) )) (Reps.c2 (show Kd.M k113 _ _ _ (⟨0, 4⟩ : S113) [.int .i64 0, .int .i64 4] from (k113_mkM _ _ _ (⟨0, 4⟩ : S113) )) (Reps.none _ _))))))); intro v142 w5 ho6 hb hg_ hnew_; clear hg_ hnew_; (first | rw [← Ny141.out] at ho6 | (simp only [Int.reduceToNat] at ho6; rw [← Ny141.out] at ho6)); have n0_ := Aside0.mk (Kd.R_elder' (by (with_reducible repeat (first | apply Kd.R_alloc | apply Kd.R_drewN | apply Kd.R_drew)); exact HO137.out) (Kd.R_base ho6) hb); have n1_ := Aside0.mk (Kd.R_elder' (by (with_reducible repeat (first | apply Kd.R_alloc | apply Kd.R_drewN | apply Kd.R_drew)); exact HO140.out) (Kd.R_base ho6) hb); have n2_ := Aside0.mk (Kd.R_lower (Kd.R_new' (Kd.R_new' (Kd.R_newM (M := fun k_ => (w.heap.size ≤ k_)) ho6 (below_size (by repeat (first | (with_reducible first | exact HB.out | apply below_alloc | apply pw_below_drewN | apply below_drew1) | exact HB.out))) (fun k_ h_ => h_)) (Kd.R_lt (by (with_reducible repeat (first | apply Kd.R_alloc | apply Kd.R_drewN | apply Kd.R_drew)); exact HO137.out))) (Kd.R_lt (by (with_reducible repeat (first | apply Kd.R_alloc | apply Kd.R_drewN | apply Kd.R_drew)); exact HO140.out))) (below_size (by repeat (first | (with_reducible first | exact HB.out | apply below_alloc | apply pw_below_drewN | apply below_drew1) | exact HB.out)))); have n3_ := Aside0.mk (below_step (by repeat (first | (with_reducible first | exact HB.out | apply below_alloc | apply pw_below_drewN | apply below_drew1) | exact HB.out)) hb); clear HO137; clear HO140; clear HB; have HO137 := n0_; have HO140 := n1_; have HO143 := n2_; have HB := n3_; clear n0_ n1_ n2_ n3_; clear hb ho6; obtain ⟨Ao7, co7, eo7⟩ := Kd.R_slice HO137.out; subst eo7; obtain ⟨Ao8, co8, eo8⟩ := Kd.R_slice HO140.out; subst eo8; obtain ⟨Ao9, co9, eo9⟩ := Kd.R_slice HO143.out; subst eo9) | ((with_reducible refine gate_dst (N := 19) rfl ?_); refine Kd.N_lit (Kd.slice 113 k113) _ 125 ?hg (N' := 19) ?hd (xs := ([y135, y138, y141] : List (List (S113)))) (inner := [.slice Ao7 y135.length co7, .slice Ao8 y138.length co8, .slice Ao9 y141.length co9]) (ok := (fun k_ => (w.heap.size ≤ k_))) (okp := (fun k_ => (w.heap.size ≤ k_))) ?hr ?hp (fun _ hk => hk) ((show ∀ k_, w5.heap.size ≤ k_ → (fun k_ => (w.heap.size ≤ k_)) k_ from fun k_ hk => (Nat.le_trans (below_size (by repeat (first | (with_reducible first | exact HB.out | apply below_alloc | apply pw_below_drewN | apply below_drew1) | exact HB.out))) hk)) _ (Nat.le_refl _)) (Below.refl _ _) (Nat.le_refl _) (by simp) ?_; (case hd => rfl); (case hg => rfl); (case hr => first | (go_simp; done) | (go_simp; rfl)); (case hp => exact (Reps.one (show Kd.FK (Kd.slice 113 k113) _ _ y135 [.slice Ao7 y135.length co7] from (Kd.FK_slice_mk (Kd.R_reads' (Kd.R_mono (ok' := (fun k_ => (w.heap.size ≤ k_))) (HO137.out) (fun k_ hk => hk.1.1.1))).2.1 (Kd.R_F (Kd.R_mono (ok' := (fun k_ => (w.heap.size ≤ k_))) (HO137.out) (fun k_ hk => hk.1.1.1))))) (Reps.one (show Kd.FK (Kd.slice 113 k113) _ _ y138 [.slice Ao8 y138.length co8] from (Kd.FK_slice_mk (Kd.R_reads' (Kd.R_mono (ok' := (fun k_ => (w.heap.size ≤ k_))) (HO140.out) (fun k_ hk => hk.1.1.1))).2.1 (Kd.R_F (Kd.R_mono (ok' := (fun k_ => (w.heap.size ≤ k_))) (HO140.out) (fun k_ hk => hk.1.1.1))))) (Reps.one (show Kd.FK (Kd.slice 113 k113) _ _ y141 [.slice Ao9 y141.length co9] from (Kd.FK_slice_mk (Kd.R_reads' (Kd.R_mono (ok' := (fun k_ => (w.heap.size ≤ k_))) (HO143.out) (fun k_ hk => hk.1.1.1))).2.1 (Kd.R_F (Kd.R_mono (ok' := (fun k_ => (w.heap.size ≤ k_))) (HO143.out) (fun k_ hk => hk.1.1.1))))) (Reps.none _ _))))); intro v145 w10 ho11 hb hg_ hnew_; clear hg_ hnew_; (first | rw [← Ny144.out] at ho11 | (simp only [Int.reduceToNat] at ho11; rw [← Ny144.out] at ho11)); have n0_ := Aside0.mk (Kd.N_lower ho11 (below_size (by repeat (first | (with_reducible first | exact HB.out | apply below_alloc | apply pw_below_drewN | apply below_drew1) | exact HB.out)))); have n1_ := Aside0.mk (below_step (by repeat (first | (with_reducible first | exact HB.out | apply below_alloc | apply pw_below_drewN | apply below_drew1) | exact HB.out)) hb); clear HB; clear HO137; clear HO140; clear HO143; have HO146 := n0_; have HB := n1_; clear n0_ n1_; clear hb ho11))
  go_ret
  exact ⟨_, by first | rfl | (simp [errW_none, errW_some] <;> rfl) | (simp [*, errW_none, errW_some] <;> rfl), by (with_reducible repeat (first | apply Kd.N_alloc | apply Kd.N_drewN | apply Kd.N_drew)); exact HO146.out, by repeat (first | (with_reducible first | exact HB.out | apply below_alloc | apply pw_below_drewN | apply below_drew1) | exact HB.out)⟩
def cmp_isNaN_int.f (a0 : Int) : Option (Bool) := some (a0 != a0)
set_option maxHeartbeats 8000000 in
set_option maxRecDepth 100000 in
theorem cmp_isNaN_int.calls (a0 : Int) (r : Bool) (w : World) (h : cmp_isNaN_int.f a0 = some r) :
    Calls Tryd.prog 86 #[.int .i64 a0] w fun e w' => e = .returned (.bool r) ∧ Drawn0 w w' := by
  have H : (some (a0 != a0)) = some r := h
  clear h
  obtain rfl := Option.some.inj H
  go_enter Tryd.func86, Tryd.ntmps86
  go_wp2
  go_ret
  exact ⟨by first | rfl | (simp; done) | (simp [*]; done), by repeat (first | exact Drawn0.refl _ | apply Drawn0.step)⟩
end Go.Proofs.YtkahciadkgjbbaaDoor.QPty
namespace Go.Proofs.YtkahciadkgjbbaaDoor.QPty
open Go.RowKit Go.Proofs.YtkahciadkgjbbaaDoorW.PrintWords Go.Proofs.YtkahciadkgjbbaaDoorW.PrintLast Go.Proofs.YtkahciadkgjbbaaDoorW.PrintMore
set_option linter.unusedVariables false
set_option linter.unusedSimpArgs false
structure Wr (w : World) (F : Nat → Prop) (W : World) : Prop where
  os : W.os = w.os
  tape : W.tape = w.tape
  output : W.output = w.output
  size : w.heap.size ≤ W.heap.size
  block : ∀ q, q < w.heap.size → ¬ F q → W.heap[q]? = w.heap[q]?
section
variable {w W W2 : World} {F F2 : Nat → Prop}
theorem Wr.refl (w : World) (F : Nat → Prop) : Wr w F w := ⟨rfl, rfl, rfl, Nat.le_refl _, fun _ _ _ => rfl⟩
theorem Wr.of_below (h : Below w.heap.size w W) (F : Nat → Prop) : Wr w F W := ⟨h.os, h.tape, h.output, h.size, fun q hq _ => h.block q hq⟩
theorem Wr.trans (a : Wr w F W) (b : Wr W F2 W2) (h : ∀ k, F2 k → F k ∨ w.heap.size ≤ k) : Wr w F W2 :=
  ⟨b.os.trans a.os, b.tape.trans a.tape, b.output.trans a.output, Nat.le_trans a.size b.size, fun q hq hn => (b.block q (Nat.lt_of_lt_of_le hq a.size) (fun k => (h q k).elim hn (fun k2 => absurd hq (by omega)))).trans (a.block q hq hn)⟩
theorem Wr.then_ (a : Wr w F W) (b : Wr W F W2) : Wr w F W2 := a.trans b (fun _ h => .inl h)
theorem Wr.mono (a : Wr w F W) (h : ∀ k, F k → F2 k) : Wr w F2 W := ⟨a.os, a.tape, a.output, a.size, fun q hq hn => a.block q hq (fun k => hn (h q k))⟩
theorem Wr.below (a : Wr w F W) (hb : Below W.heap.size W W2) : Wr w F W2 := a.trans (Wr.of_below hb (fun _ => False)) (fun _ h => h.elim)
theorem Wr.set (a : Wr w F W) {b : Nat} (hb : F b ∨ w.heap.size ≤ b) (j : Nat) (v : Value) : Wr w F (W.setCell ⟨b, j, none⟩ v) :=
  ⟨a.os, a.tape, a.output, by simpa [World.setCell] using a.size, fun q hq hn => (Below.heap_setCell W _ v q (fun e => by simp only at e; subst e; rcases hb with h | h; exact hn h; omega)).trans (a.block q hq hn)⟩
theorem Wr.kept (a : Wr w F W) : Kept w W F := ⟨a.size, a.block⟩
theorem Wr.low {base : Nat} {w0 : World} (a : Wr w F W) (hB : Below base w0 w) (hs : base ≤ w.heap.size) (hF : ∀ k, F k → base ≤ k) : Below base w0 W :=
  ⟨a.os.trans hB.os, a.tape.trans hB.tape, a.output.trans hB.output, Nat.le_trans hB.size a.size, fun q hq => (a.block q (Nat.lt_of_lt_of_le hq hs) (fun k => absurd (hF q k) (by omega))).trans (hB.block q hq)⟩
theorem Wr.grow (a : Wr w F W) (hF : ∀ k, F k → w.heap.size ≤ k) : Below w.heap.size w W := ⟨a.os, a.tape, a.output, a.size, fun q hq => a.block q hq (fun k => absurd (hF q k) (by omega))⟩
theorem Wr.blk (a : Wr w F W) {b : Nat} {o : Obj} (h : w.heap[b]? = some o) (hn : ¬ F b) : W.heap[b]? = some o := by
  rw [← h]
  refine a.block b ?_ hn
  rcases Nat.lt_or_ge b w.heap.size with h1 | h1
  · exact h1
  · rw [Array.getElem?_eq_none h1] at h; cases h
theorem Wr.cell (a : Wr w F W) {p : Addr} {v : Value} (h : w.cell? p = some v) (hn : ¬ F p.block) : W.cell? p = some v := by
  have hlt := World.block_lt_of_cell? w p h
  rw [← h]; unfold World.cell?; rw [a.block p.block hlt hn]
end
def regT : List (List S113) := [[⟨2, 3⟩, ⟨0, 0⟩, ⟨0, 0⟩, ⟨0, 0⟩, ⟨0, 0⟩], [⟨2, 2⟩, ⟨1, 0⟩, ⟨1, 0⟩, ⟨0, 4⟩, ⟨0, 4⟩], [⟨2, 0⟩, ⟨1, 1⟩, ⟨1, 1⟩, ⟨2, 0⟩, ⟨0, 4⟩]]
def appT : List (List S113) := [[⟨1, 0⟩, ⟨0, 0⟩, ⟨0, 0⟩, ⟨0, 0⟩, ⟨0, 0⟩, ⟨1, 0⟩], [⟨1, 0⟩, ⟨4, 0⟩, ⟨1, 0⟩, ⟨1, 0⟩, ⟨2, 1⟩, ⟨1, 0⟩], [⟨2, 0⟩, ⟨4, 0⟩, ⟨2, 0⟩, ⟨2, 0⟩, ⟨3, 2⟩, ⟨1, 0⟩], [⟨3, 0⟩, ⟨4, 0⟩, ⟨2, 0⟩, ⟨2, 0⟩, ⟨3, 0⟩, ⟨1, 0⟩], [⟨2, 0⟩, ⟨4, 0⟩, ⟨4, 0⟩, ⟨4, 0⟩, ⟨0, 3⟩, ⟨1, 0⟩]]
def look (T : List (List S113)) (s e : Nat) : S113 := (T.getD s []).getD e ⟨0, 0⟩
def rN (s e : Nat) : Nat := (look regT s e).f0.toNat
def rA (s e : Nat) : Nat := (look regT s e).f1.toNat
def aN (s e : Nat) : Nat := (look appT s e).f0.toNat
def aA (s e : Nat) : Nat := (look appT s e).f1.toNat
theorem at_reg : ∀ s < 3, ∀ e < 5, table_At.f regT (s : Nat) (e : Nat) = some ((rN s e : Int), (rA s e : Int), true) := by decide +kernel
theorem at_app : ∀ s < 5, ∀ e < 6, table_At.f appT (s : Nat) (e : Nat) = some ((aN s e : Int), (aA s e : Int), true) := by decide +kernel
theorem rN_lt : ∀ s < 3, ∀ e < 5, rN s e < 3 := by decide +kernel
theorem aN_lt : ∀ s < 5, ∀ e < 6, aN s e < 5 := by decide +kernel
theorem aA_lt : ∀ s < 5, ∀ e < 6, aA s e < 4 := by decide +kernel
theorem atR_calls (A : Option Addr) (c s e : Nat) (hs : s < 3) (he : e < 5) (w : World) (hr : Kd.C (Kd.slice 113 k113) w A regT.length regT) (hc : regT.length ≤ c) :
    Calls Tryd.prog 76 #[.slice A 3 c, .int .i64 s, .int .i64 e] w fun x w' => x = .returned (.tuple #[.agg #[.int .i64 (rN s e), .int .i64 (rA s e)], .bool true]) ∧ Below w.heap.size w w' :=
  table_At.calls A c regT s e _ _ _ w hr hc (at_reg s hs e he)
theorem atA_calls (A : Option Addr) (c s e : Nat) (hs : s < 5) (he : e < 6) (w : World) (hr : Kd.C (Kd.slice 113 k113) w A appT.length appT) (hc : appT.length ≤ c) :
    Calls Tryd.prog 76 #[.slice A 5 c, .int .i64 s, .int .i64 e] w fun x w' => x = .returned (.tuple #[.agg #[.int .i64 (aN s e), .int .i64 (aA s e)], .bool true]) ∧ Below w.heap.size w w' :=
  table_At.calls A c appT s e _ _ _ w hr hc (at_app s hs e he)
theorem tabR_calls (w : World) : Calls Tryd.prog 81 #[] w fun x w' => ∃ A c, x = .returned (.slice A 3 c) ∧ regT.length ≤ c ∧ Kd.C (Kd.slice 113 k113) w' A regT.length regT ∧ Below w.heap.size w w' := by
  refine (table_Registrar.calls regT w rfl).mono ?_
  rintro e w' ⟨v, rfl, hN, hB⟩
  obtain ⟨A, c, rfl, h1, h2⟩ := Kd.N_reads hN
  exact ⟨A, c, rfl, h1, h2, hB⟩
theorem tabA_calls (w : World) : Calls Tryd.prog 77 #[] w fun x w' => ∃ A c, x = .returned (.slice A 5 c) ∧ appT.length ≤ c ∧ Kd.C (Kd.slice 113 k113) w' A appT.length appT ∧ Below w.heap.size w w' := by
  refine (table_Applicant.calls appT w rfl).mono ?_
  rintro e w' ⟨v, rfl, hN, hB⟩
  obtain ⟨A, c, rfl, h1, h2⟩ := Kd.N_reads hN
  exact ⟨A, c, rfl, h1, h2, hB⟩
end Go.Proofs.YtkahciadkgjbbaaDoor.QPty
namespace Go.Proofs.YtkahciadkgjbbaaDoor.QPty
open Go.RowKit Go.Proofs.YtkahciadkgjbbaaDoorW.PrintWords Go.Proofs.YtkahciadkgjbbaaDoorW.PrintLast Go.Proofs.YtkahciadkgjbbaaDoorW.PrintMore
attribute [local go_sem] max2_int min2_int max_two min_two
set_option linter.unusedVariables false
set_option linter.unusedSimpArgs false
structure RG where
  mode : Int
  st : Nat
  born : Int
  due : Int
deriving DecidableEq
abbrev rgCells (r : RG) : Array Value := #[.int .i64 r.mode, .int .i64 r.st, .int .i64 r.born, .int .i64 r.due]
abbrev RgAt (w : World) (b : Nat) (r : RG) : Prop := w.heap[b]? = some (.cells (rgCells r) 102 (0, 0))
def rstep (r : RG) (e : Nat) (now : Int) : RG := ⟨r.mode, rN r.st e, r.born, if rA r.st e = 1 then wrap64 (now + 24) else r.due⟩
set_option maxHeartbeats 4000000 in
set_option maxRecDepth 100000 in
theorem rstep_calls (b : Nat) (r : RG) (e : Nat) (now : Int) (w : World) (h : RgAt w b r) (hs : r.st < 3) (he : e < 5) :
    Calls Tryd.prog 64 #[.pointer (some ⟨b, 0, none⟩), .int .i64 e, .int .i64 now] w fun x w' => x = .returned (.tuple #[]) ∧ RgAt w' b (rstep r e now) ∧ Wr w (fun k => k = b) w' := by
  have e81 : ∀ args w, (callFunc 81 args).run Tryd.prog w = .ok (.enter 81 args) w := enters_of Tryd.func81 (by kernel_rfl) rfl
  have e76 : ∀ args w, (callFunc 76 args).run Tryd.prog w = .ok (.enter 76 args) w := enters_of Tryd.func76 (by kernel_rfl) rfl
  have mixed : Tryd.prog.follows .mixedOrders = true := by kernel_rfl
  have hu113 := Tryd.underlying113
  obtain ⟨mode, st, born, due⟩ := r
  dsimp only at h hs ⊢
  have hbl := blk_lt h
  have hc1 : ∀ W, Below w.heap.size w W → W.cell? ⟨b, 1, none⟩ = some (.int .i64 st) := fun W hb => (blk_cell (blk_below h hb) 1).trans rfl
  have H := Aside0.mk h
  have HC := Aside0.mk hc1
  have HA := Aside0.mk (fun A c W hC hl => atR_calls A c st e hs he W hC hl)
  have hx := hc1 w (Below.refl _ _)
  unfold rstep
  dsimp only
  generalize hn : rN st e = nx at *
  generalize ha : rA st e = ac at *
  clear h hc1 hs he hn ha
  by_cases c : ac = 1
  · subst c
    go_enter Tryd.func64, Tryd.ntmps64
    go_wp2_with fail
    go_region_held3 (fun W => W.cell? ⟨b, 1, none⟩ = some (.int .i64 st) ∧ Below w.heap.size w W) (first | exact ⟨HC.out _ (by repeat (with_reducible first | assumption | exact Below.refl _ _ | apply below_alloc | apply pw_below_drewN | apply below_drew1 | refine below_set ?_ (by first | exact Nat.le_refl _ | assumption))), (by repeat (with_reducible first | assumption | exact Below.refl _ _ | apply below_alloc | apply pw_below_drewN | apply below_drew1 | refine below_set ?_ (by first | exact Nat.le_refl _ | assumption)))⟩) (first
      | (go_at_call 81; with_reducible refine (tabR_calls _).mono ?_; rintro x w1 ⟨A1, c1, rfl, hl1, hC1, hb1⟩; (try (have hk1 : w1.heap[w.heap.size]? = some (.cells #[.int .i64 0, .int .i64 0] 113 (0, 0)) := blk_below (by first | exact blk_new _ _ | exact blk_drew (blk_new _ _)) hb1; have hk10 : w1.cell? ⟨w.heap.size, 0, none⟩ = some (.int .i64 0) := (blk_cell hk1 0).trans rfl; have hk11 : w1.cell? ⟨w.heap.size, 1, none⟩ = some (.int .i64 0) := (blk_cell hk1 1).trans rfl; have hk1f0 := blk_frozen hk1 0; have hk1f1 := blk_frozen hk1 1)); replace hb1 := below_step (show Below w.heap.size w _ from (by repeat (with_reducible first | assumption | exact Below.refl _ _ | apply below_alloc | apply pw_below_drewN | apply below_drew1 | refine below_set ?_ (by first | exact Nat.le_refl _ | assumption)))) hb1; have hs1 := hb1.size; have HL1 := Aside0.mk hl1; have HC1 := Aside0.mk hC1; clear hl1 hC1)
      | (go_at_call 76; with_reducible refine (HA.out _ _ _ (Kd.C_below HC1.out (by repeat (with_reducible first | assumption | exact Below.refl _ _ | apply below_alloc | apply pw_below_drewN | apply below_drew1 | refine below_set ?_ (by first | exact Nat.le_refl _ | assumption)))) HL1.out).mono ?_; rintro x w2 ⟨rfl, hb2⟩; (first | (have hk2 : w2.heap[w1.heap.size]? = some (.cells #[.int .i64 0, .int .i64 0] 113 (0, 0)) := blk_below (by first | exact blk_new _ _ | exact blk_drew (blk_new _ _)) hb2; have hk20 : w2.cell? ⟨w1.heap.size, 0, none⟩ = some (.int .i64 0) := (blk_cell hk2 0).trans rfl; have hk21 : w2.cell? ⟨w1.heap.size, 1, none⟩ = some (.int .i64 0) := (blk_cell hk2 1).trans rfl; have hk2f0 := blk_frozen hk2 0; have hk2f1 := blk_frozen hk2 1) | (have hk2 : w2.heap[w.heap.size]? = some (.cells #[.int .i64 0, .int .i64 0] 113 (0, 0)) := blk_below (by first | exact hk1 | exact blk_drew hk1) hb2; have hk20 : w2.cell? ⟨w.heap.size, 0, none⟩ = some (.int .i64 0) := (blk_cell hk2 0).trans rfl; have hk21 : w2.cell? ⟨w.heap.size, 1, none⟩ = some (.int .i64 0) := (blk_cell hk2 1).trans rfl; have hk2f0 := blk_frozen hk2 0; have hk2f1 := blk_frozen hk2 1) | skip); replace hb2 := below_step (show Below w.heap.size w _ from (by repeat (with_reducible first | assumption | exact Below.refl _ _ | apply below_alloc | apply pw_below_drewN | apply below_drew1 | refine below_set ?_ (by first | exact Nat.le_refl _ | assumption)))) hb2; have hs2 := hb2.size))
    all_goals
      rename_i hS9
      first
        | (have hk9 : ((w2.setCell ⟨w1.heap.size, 0, none⟩ (.int .i64 nx)).setCell ⟨w1.heap.size, 1, none⟩ (.int .i64 1)).heap[w1.heap.size]? = some (.cells #[.int .i64 nx, .int .i64 1] 113 (0, 0)) := blk_put (blk_put hk2 0 _ rfl) 1 _ rfl; clear hk20 hk21 hk2f0 hk2f1 hk2; have hg9 : b < w1.heap.size := (by omega); generalize (w2.setCell ⟨w1.heap.size, 0, none⟩ (.int .i64 nx)).setCell ⟨w1.heap.size, 1, none⟩ (.int .i64 1) = W9 at hk9 hS9 ⊢; generalize w1.heap.size = gb at hk9 hg9 ⊢)
        | (have hk9 : ((w2.setCell ⟨w.heap.size, 0, none⟩ (.int .i64 nx)).setCell ⟨w.heap.size, 1, none⟩ (.int .i64 1)).heap[w.heap.size]? = some (.cells #[.int .i64 nx, .int .i64 1] 113 (0, 0)) := blk_put (blk_put hk2 0 _ rfl) 1 _ rfl; clear hk20 hk21 hk2f0 hk2f1 hk2; have hg9 : b < w.heap.size := (by omega); generalize (w2.setCell ⟨w.heap.size, 0, none⟩ (.int .i64 nx)).setCell ⟨w.heap.size, 1, none⟩ (.int .i64 1) = W9 at hk9 hS9 ⊢; generalize w.heap.size = gb at hk9 hg9 ⊢)
        | (have hk9 := blk_new w2 (.cells #[.int .i64 nx, .int .i64 1] 113 (0, 0)); have hg9 : b < w2.heap.size := (by omega); generalize w2.alloc (.cells #[.int .i64 nx, .int .i64 1] 113 (0, 0)) = W9 at hk9 hS9 ⊢; generalize w2.heap.size = gb at hk9 hg9 ⊢)
      have hR9 := blk_below H.out hS9.2
      have hW9 := Aside0.mk (Wr.of_below hS9.2 (fun k => k = b))
      have hz0 : W9.cell? ⟨gb, 0, none⟩ = some (.int .i64 nx) := (blk_cell hk9 0).trans rfl
      have hz1 : W9.cell? ⟨gb, 1, none⟩ = some (.int .i64 1) := (blk_cell hk9 1).trans rfl
      have hb1 : W9.cell? ⟨b, 1, none⟩ = some (.int .i64 st) := (blk_cell hR9 1).trans rfl
      have hb3 : W9.cell? ⟨b, 3, none⟩ = some (.int .i64 due) := (blk_cell hR9 3).trans rfl
      have hf1 := blk_frozen hR9 1
      have hf3 := blk_frozen hR9 3
      have hn1 : ¬ b = gb := by omega
      have hn2 : ¬ gb = b := by omega
      have HR9 := Aside0.mk hR9
      clear hS9 hk9 hR9 hx hbl
      go_wp2
      go_end0
      exact ⟨rfl, blk_put (blk_put HR9.out 1 _ rfl) 3 _ rfl, (hW9.out.set (.inl rfl) 1 _).set (.inl rfl) 3 _⟩
  · rw [if_neg c]
    have c2 : ¬ (ac : Int) = 1 := by omega
    go_enter Tryd.func64, Tryd.ntmps64
    go_wp2_with fail
    go_region_held3 (fun W => W.cell? ⟨b, 1, none⟩ = some (.int .i64 st) ∧ Below w.heap.size w W) (first | exact ⟨HC.out _ (by repeat (with_reducible first | assumption | exact Below.refl _ _ | apply below_alloc | apply pw_below_drewN | apply below_drew1 | refine below_set ?_ (by first | exact Nat.le_refl _ | assumption))), (by repeat (with_reducible first | assumption | exact Below.refl _ _ | apply below_alloc | apply pw_below_drewN | apply below_drew1 | refine below_set ?_ (by first | exact Nat.le_refl _ | assumption)))⟩) (first
      | (go_at_call 81; with_reducible refine (tabR_calls _).mono ?_; rintro x w1 ⟨A1, c1, rfl, hl1, hC1, hb1⟩; (try (have hk1 : w1.heap[w.heap.size]? = some (.cells #[.int .i64 0, .int .i64 0] 113 (0, 0)) := blk_below (by first | exact blk_new _ _ | exact blk_drew (blk_new _ _)) hb1; have hk10 : w1.cell? ⟨w.heap.size, 0, none⟩ = some (.int .i64 0) := (blk_cell hk1 0).trans rfl; have hk11 : w1.cell? ⟨w.heap.size, 1, none⟩ = some (.int .i64 0) := (blk_cell hk1 1).trans rfl; have hk1f0 := blk_frozen hk1 0; have hk1f1 := blk_frozen hk1 1)); replace hb1 := below_step (show Below w.heap.size w _ from (by repeat (with_reducible first | assumption | exact Below.refl _ _ | apply below_alloc | apply pw_below_drewN | apply below_drew1 | refine below_set ?_ (by first | exact Nat.le_refl _ | assumption)))) hb1; have hs1 := hb1.size; have HL1 := Aside0.mk hl1; have HC1 := Aside0.mk hC1; clear hl1 hC1)
      | (go_at_call 76; with_reducible refine (HA.out _ _ _ (Kd.C_below HC1.out (by repeat (with_reducible first | assumption | exact Below.refl _ _ | apply below_alloc | apply pw_below_drewN | apply below_drew1 | refine below_set ?_ (by first | exact Nat.le_refl _ | assumption)))) HL1.out).mono ?_; rintro x w2 ⟨rfl, hb2⟩; (first | (have hk2 : w2.heap[w1.heap.size]? = some (.cells #[.int .i64 0, .int .i64 0] 113 (0, 0)) := blk_below (by first | exact blk_new _ _ | exact blk_drew (blk_new _ _)) hb2; have hk20 : w2.cell? ⟨w1.heap.size, 0, none⟩ = some (.int .i64 0) := (blk_cell hk2 0).trans rfl; have hk21 : w2.cell? ⟨w1.heap.size, 1, none⟩ = some (.int .i64 0) := (blk_cell hk2 1).trans rfl; have hk2f0 := blk_frozen hk2 0; have hk2f1 := blk_frozen hk2 1) | (have hk2 : w2.heap[w.heap.size]? = some (.cells #[.int .i64 0, .int .i64 0] 113 (0, 0)) := blk_below (by first | exact hk1 | exact blk_drew hk1) hb2; have hk20 : w2.cell? ⟨w.heap.size, 0, none⟩ = some (.int .i64 0) := (blk_cell hk2 0).trans rfl; have hk21 : w2.cell? ⟨w.heap.size, 1, none⟩ = some (.int .i64 0) := (blk_cell hk2 1).trans rfl; have hk2f0 := blk_frozen hk2 0; have hk2f1 := blk_frozen hk2 1) | skip); replace hb2 := below_step (show Below w.heap.size w _ from (by repeat (with_reducible first | assumption | exact Below.refl _ _ | apply below_alloc | apply pw_below_drewN | apply below_drew1 | refine below_set ?_ (by first | exact Nat.le_refl _ | assumption)))) hb2; have hs2 := hb2.size))
    all_goals
      rename_i hS9
      first
        | (have hk9 : ((w2.setCell ⟨w1.heap.size, 0, none⟩ (.int .i64 nx)).setCell ⟨w1.heap.size, 1, none⟩ (.int .i64 ac)).heap[w1.heap.size]? = some (.cells #[.int .i64 nx, .int .i64 ac] 113 (0, 0)) := blk_put (blk_put hk2 0 _ rfl) 1 _ rfl; clear hk20 hk21 hk2f0 hk2f1 hk2; have hg9 : b < w1.heap.size := (by omega); generalize (w2.setCell ⟨w1.heap.size, 0, none⟩ (.int .i64 nx)).setCell ⟨w1.heap.size, 1, none⟩ (.int .i64 ac) = W9 at hk9 hS9 ⊢; generalize w1.heap.size = gb at hk9 hg9 ⊢)
        | (have hk9 : ((w2.setCell ⟨w.heap.size, 0, none⟩ (.int .i64 nx)).setCell ⟨w.heap.size, 1, none⟩ (.int .i64 ac)).heap[w.heap.size]? = some (.cells #[.int .i64 nx, .int .i64 ac] 113 (0, 0)) := blk_put (blk_put hk2 0 _ rfl) 1 _ rfl; clear hk20 hk21 hk2f0 hk2f1 hk2; have hg9 : b < w.heap.size := (by omega); generalize (w2.setCell ⟨w.heap.size, 0, none⟩ (.int .i64 nx)).setCell ⟨w.heap.size, 1, none⟩ (.int .i64 ac) = W9 at hk9 hS9 ⊢; generalize w.heap.size = gb at hk9 hg9 ⊢)
        | (have hk9 := blk_new w2 (.cells #[.int .i64 nx, .int .i64 ac] 113 (0, 0)); have hg9 : b < w2.heap.size := (by omega); generalize w2.alloc (.cells #[.int .i64 nx, .int .i64 ac] 113 (0, 0)) = W9 at hk9 hS9 ⊢; generalize w2.heap.size = gb at hk9 hg9 ⊢)
      have hR9 := blk_below H.out hS9.2
      have hW9 := Aside0.mk (Wr.of_below hS9.2 (fun k => k = b))
      have hz0 : W9.cell? ⟨gb, 0, none⟩ = some (.int .i64 nx) := (blk_cell hk9 0).trans rfl
      have hz1 : W9.cell? ⟨gb, 1, none⟩ = some (.int .i64 ac) := (blk_cell hk9 1).trans rfl
      have hb1 : W9.cell? ⟨b, 1, none⟩ = some (.int .i64 st) := (blk_cell hR9 1).trans rfl
      have hb3 : W9.cell? ⟨b, 3, none⟩ = some (.int .i64 due) := (blk_cell hR9 3).trans rfl
      have hf1 := blk_frozen hR9 1
      have hf3 := blk_frozen hR9 3
      have hn1 : ¬ b = gb := by omega
      have hn2 : ¬ gb = b := by omega
      have HR9 := Aside0.mk hR9
      clear hS9 hk9 hR9 hx hbl
      go_wp2
      go_end0
      exact ⟨rfl, blk_put HR9.out 1 _ rfl, hW9.out.set (.inl rfl) 1 _⟩
end Go.Proofs.YtkahciadkgjbbaaDoor.QPty
namespace Go.Proofs.YtkahciadkgjbbaaDoor.QPty
open Go.RowKit Go.Proofs.YtkahciadkgjbbaaDoorW.PrintWords Go.Proofs.YtkahciadkgjbbaaDoorW.PrintLast Go.Proofs.YtkahciadkgjbbaaDoorW.PrintMore
attribute [local go_sem] max2_int min2_int max_two min_two
set_option linter.unusedVariables false
set_option linter.unusedSimpArgs false
theorem rstep_at (b : Nat) (r : RG) (ev : Int) (e : Nat) (hev : ev = (e : Int)) (now : Int) (w : World) (h : RgAt w b r) (hs : r.st < 3) (he : e < 5) :
    Calls Tryd.prog 64 #[.pointer (some ⟨b, 0, none⟩), .int .i64 ev, .int .i64 now] w fun x w' => x = .returned (.tuple #[]) ∧ RgAt w' b (rstep r e now) ∧ Wr w (fun k => k = b) w' := by
  subst hev
  exact rstep_calls b r e now w h hs he
def rhas (r : RG) : Bool := decide (r.mode = 1 ∨ (r.mode = 0 ∧ r.st ≠ 0))
def ridle (r : RG) : Bool := decide (r.mode = 0 ∧ r.st = 0)
set_option maxHeartbeats 4000000 in
set_option maxRecDepth 100000 in
theorem has_calls (b : Nat) (r : RG) (w : World) (h : RgAt w b r) : Calls Tryd.prog 37 #[.pointer (some ⟨b, 0, none⟩)] w fun x w' => x = .returned (.bool (rhas r)) ∧ w' = w := by
  obtain ⟨mode, st, born, due⟩ := r
  have h0 : w.cell? ⟨b, 0, none⟩ = some (.int .i64 mode) := (blk_cell h 0).trans rfl
  have h1 : w.cell? ⟨b, 1, none⟩ = some (.int .i64 st) := (blk_cell h 1).trans rfl
  have key : (mode = 1 ∧ rhas ⟨mode, st, born, due⟩ = true) ∨ (mode = 0 ∧ (st : Int) = 0 ∧ rhas ⟨mode, st, born, due⟩ = false) ∨ (mode = 0 ∧ ((st : Int) != 0) = true ∧ ¬ (st : Int) = 0 ∧ rhas ⟨mode, st, born, due⟩ = true) ∨ ((mode == 1) = false ∧ (mode == 0) = false ∧ ¬ mode = 1 ∧ ¬ mode = 0 ∧ rhas ⟨mode, st, born, due⟩ = false) := by
    unfold rhas
    simp only [decide_eq_true_eq, decide_eq_false_iff_not, bne_iff_ne, ne_eq, beq_eq_false_iff_ne]
    omega
  clear h
  rcases key with ⟨k, e⟩ | ⟨k, k2, e⟩ | ⟨k, k2, k3, e⟩ | ⟨k, k2, k3, k4, e⟩
  · rw [e]; subst k; clear e
    go_enter Tryd.func37, Tryd.ntmps37
    go_wp2
    go_ret
    exact ⟨rfl, rfl⟩
  · rw [e]; subst k; clear e
    rw [k2] at h1; clear k2
    go_enter Tryd.func37, Tryd.ntmps37
    go_wp2
    go_ret
    exact ⟨rfl, rfl⟩
  · rw [e]; subst k; clear e
    go_enter Tryd.func37, Tryd.ntmps37
    go_wp2
    go_ret
    exact ⟨rfl, rfl⟩
  · rw [e]; clear e
    go_enter Tryd.func37, Tryd.ntmps37
    go_wp2
    go_ret
    exact ⟨rfl, rfl⟩
set_option maxHeartbeats 4000000 in
set_option maxRecDepth 100000 in
theorem ridle_calls (b : Nat) (r : RG) (w : World) (h : RgAt w b r) : Calls Tryd.prog 79 #[.pointer (some ⟨b, 0, none⟩)] w fun x w' => x = .returned (.bool (ridle r)) ∧ w' = w := by
  obtain ⟨mode, st, born, due⟩ := r
  have h0 : w.cell? ⟨b, 0, none⟩ = some (.int .i64 mode) := (blk_cell h 0).trans rfl
  have h1 : w.cell? ⟨b, 1, none⟩ = some (.int .i64 st) := (blk_cell h 1).trans rfl
  have key : (mode = 0 ∧ (st : Int) = 0 ∧ ridle ⟨mode, st, born, due⟩ = true) ∨ (mode = 0 ∧ ((st : Int) == 0) = false ∧ ¬ (st : Int) = 0 ∧ ridle ⟨mode, st, born, due⟩ = false) ∨ ((mode == 0) = false ∧ ¬ mode = 0 ∧ ridle ⟨mode, st, born, due⟩ = false) := by
    unfold ridle
    simp only [decide_eq_true_eq, decide_eq_false_iff_not, beq_eq_false_iff_ne, ne_eq]
    omega
  clear h
  rcases key with ⟨k, k2, e⟩ | ⟨k, k2, k3, e⟩ | ⟨k, k2, e⟩
  · rw [e]; subst k; clear e
    rw [k2] at h1; clear k2
    go_enter Tryd.func79, Tryd.ntmps79
    go_wp2
    go_ret
    exact ⟨rfl, rfl⟩
  · rw [e]; subst k; clear e
    go_enter Tryd.func79, Tryd.ntmps79
    go_wp2
    go_ret
    first | exact ⟨rfl, rfl⟩ | exact ⟨by rw [k2], rfl⟩
  · rw [e]; clear e
    go_enter Tryd.func79, Tryd.ntmps79
    go_wp2
    go_ret
    exact ⟨rfl, rfl⟩
set_option maxHeartbeats 4000000 in
set_option maxRecDepth 100000 in
theorem rall_calls (b : Nat) (r : RG) (now : Int) (w : World) (h : RgAt w b r) (hs : r.st < 3) :
    Calls Tryd.prog 61 #[.pointer (some ⟨b, 0, none⟩), .int .i64 now] w fun x w' => x = .returned (.tuple #[]) ∧ RgAt w' b (rstep r 2 now) ∧ Wr w (fun k => k = b) w' := by
  have e64 : ∀ args w, (callFunc 64 args).run Tryd.prog w = .ok (.enter 64 args) w := enters_of Tryd.func64 (by kernel_rfl) rfl
  have HS := Aside0.mk (rstep_at b r 2 2 rfl now w h hs (by decide))
  clear h hs
  go_enter Tryd.func61, Tryd.ntmps61
  go_wp2_with (go_at_fn 64; with_reducible refine HS.out.mono ?_; rintro x w1 ⟨rfl, h1, h2⟩; have H1 := Aside0.mk h1; have H2 := Aside0.mk h2; clear h1 h2)
  go_end0
  exact ⟨rfl, H1.out, H2.out⟩
end Go.Proofs.YtkahciadkgjbbaaDoor.QPty
namespace Go.Proofs.YtkahciadkgjbbaaDoor.QPty
open Go.RowKit Go.Proofs.YtkahciadkgjbbaaDoorW.PrintWords Go.Proofs.YtkahciadkgjbbaaDoorW.PrintLast Go.Proofs.YtkahciadkgjbbaaDoorW.PrintMore
theorem min2_mn (k k' : IntKind) (x y : Int) : Builtin.min2 (.int k x) (.int k' y) = pure (.int k (mn x y)) := by rw [min2_int]; rfl
theorem max2_mx (k k' : IntKind) (x y : Int) : Builtin.max2 (.int k x) (.int k' y) = pure (.int k (mx x y)) := by rw [max2_int]; rfl
attribute [local go_sem] max2_mx min2_mn max_two min_two
set_option linter.unusedVariables false
set_option linter.unusedSimpArgs false
def old (born now : Int) : Bool := decide (wrap64 (now - born) > 120)
set_option maxHeartbeats 4000000 in
theorem old_calls (born now : Int) (w : World) : Calls Tryd.prog 63 #[.int .i64 born, .int .i64 now] w fun x w' => x = .returned (.bool (old born now)) ∧ w' = w := by
  unfold old
  go_enter Tryd.func63, Tryd.ntmps63
  go_wp2
  go_ret
  exact ⟨rfl, rfl⟩
def rt1 (r : RG) (now : Int) : RG := if r.st = 1 ∧ r.due ≤ now then rstep r 3 now else r
def rt2 (r : RG) (now : Int) : RG := if r.st ≠ 0 ∧ old r.born now = true then rstep r 4 now else r
def rtick (r : RG) (now : Int) : RG := rt2 (rt1 r now) now
theorem rstep_st (r : RG) (e : Nat) (now : Int) (hs : r.st < 3) (he : e < 5) : (rstep r e now).st < 3 := rN_lt r.st hs e he
theorem rt1_st (r : RG) (now : Int) (hs : r.st < 3) : (rt1 r now).st < 3 := by unfold rt1; split; exact rstep_st r 3 now hs (by decide); exact hs
theorem rt2_st (r : RG) (now : Int) (hs : r.st < 3) : (rt2 r now).st < 3 := by unfold rt2; split; exact rstep_st r 4 now hs (by decide); exact hs
theorem rtick_st (r : RG) (now : Int) (hs : r.st < 3) : (rtick r now).st < 3 := rt2_st _ _ (rt1_st r now hs)
set_option maxHeartbeats 4000000 in
set_option maxRecDepth 100000 in
theorem rtick_calls (b : Nat) (r : RG) (now : Int) (w : World) (h : RgAt w b r) (hs : r.st < 3) :
    Calls Tryd.prog 32 #[.pointer (some ⟨b, 0, none⟩), .int .i64 now] w fun x w' => x = .returned (.bool (rhas (rtick r now) != rhas r)) ∧ RgAt w' b (rtick r now) ∧ Wr w (fun k => k = b) w' := by
  have e64 : ∀ args w, (callFunc 64 args).run Tryd.prog w = .ok (.enter 64 args) w := enters_of Tryd.func64 (by kernel_rfl) rfl
  have e37 : ∀ args w, (callFunc 37 args).run Tryd.prog w = .ok (.enter 37 args) w := enters_of Tryd.func37 (by kernel_rfl) rfl
  have e63 : ∀ args w, (callFunc 63 args).run Tryd.prog w = .ok (.enter 63 args) w := enters_of Tryd.func63 (by kernel_rfl) rfl
  have HS := Aside0.mk (rstep_at b r 3 3 rfl now w h hs (by decide))
  have HH := Aside0.mk (has_calls b r w h)
  have H0 := Aside0.mk h
  have hs1 := rt1_st r now hs
  unfold rtick
  have key : (r.st = 1 ∧ r.due ≤ now ∧ rt1 r now = rstep r 3 now) ∨ (r.st = 1 ∧ ¬ r.due ≤ now ∧ rt1 r now = r) ∨ (¬ r.st = 1 ∧ rt1 r now = r) := by
    unfold rt1
    by_cases k : r.st = 1
    · by_cases k2 : r.due ≤ now
      · exact .inl ⟨k, k2, if_pos ⟨k, k2⟩⟩
      · exact .inr (.inl ⟨k, k2, if_neg (fun x => k2 x.2)⟩)
    · exact .inr (.inr ⟨k, if_neg (fun x => k x.1)⟩)
  generalize hr1 : rt1 r now = r1 at *
  have key2 : (r1.st = 0 ∧ rt2 r1 now = r1) ∨ (¬ r1.st = 0 ∧ old r1.born now = true ∧ rt2 r1 now = rstep r1 4 now) ∨ (¬ r1.st = 0 ∧ old r1.born now = false ∧ rt2 r1 now = r1) := by
    unfold rt2
    by_cases k : r1.st = 0
    · exact .inl ⟨k, if_neg (fun x => x.1 k)⟩
    · rcases Bool.eq_false_or_eq_true (old r1.born now) with k2 | k2
      · exact .inr (.inl ⟨k, k2, if_pos ⟨k, k2⟩⟩)
      · exact .inr (.inr ⟨k, k2, if_neg (fun x => by rw [k2] at x; exact absurd x.2 (by decide))⟩)
  have HS4 := Aside0.mk (fun W (hW : RgAt W b r1) => rstep_at b r1 4 4 rfl now W hW hs1 (by decide))
  have HH1 := Aside0.mk (fun W (hW : RgAt W b r1) => has_calls b r1 W hW)
  have HHx := Aside0.mk (fun W (hW : RgAt W b (rt2 r1 now)) => has_calls b (rt2 r1 now) W hW)
  have HO := Aside0.mk (fun W => old_calls r1.born now W)
  generalize hr2 : rt2 r1 now = r2 at *
  obtain ⟨mode, st, born, due⟩ := r
  obtain ⟨m1, s1, b1, d1⟩ := r1
  have h1 : w.cell? ⟨b, 1, none⟩ = some (.int .i64 st) := (blk_cell h 1).trans rfl
  have h3 : w.cell? ⟨b, 3, none⟩ = some (.int .i64 due) := (blk_cell h 3).trans rfl
  clear h hs hs1 hr1 hr2
  dsimp only at key key2 HO
  generalize old b1 now = ob at *
  rcases key with ⟨k, k2, e⟩ | ⟨k, k2, e⟩ | ⟨k, e⟩
  · subst k
    rw [← e] at HS
    clear e
    rcases key2 with ⟨q, e⟩ | ⟨q, q2, e⟩ | ⟨q, q2, e⟩
    · have qz : (s1 : Int) = 0 := by omega
      subst e
      clear q
      go_enter Tryd.func32, Tryd.ntmps32
      go_wp2_with (first
        | (go_at_fn 64; with_reducible refine HS.out.mono ?_; rintro x w1 ⟨rfl, hr, hw⟩; have hc1 : w1.cell? ⟨b, 1, none⟩ = some (.int .i64 s1) := (blk_cell hr 1).trans rfl; rw [qz] at hc1; have H1 := Aside0.mk hr; have W1 := Aside0.mk hw; clear hr hw)
        | (go_at_fn 37; with_reducible refine HH.out.mono ?_; rintro x w2 ⟨rfl, e1⟩; have e2 := e1.symm; subst e2)
        | (go_at_fn 37; with_reducible refine (HH1.out _ H1.out).mono ?_; rintro x w2 ⟨rfl, e1⟩; have e2 := e1.symm; subst e2))
      go_ret
      exact ⟨rfl, H1.out, W1.out⟩
    all_goals
      have qz : ¬ (s1 : Int) = 0 := by omega
      have qz2 : ((s1 : Int) != 0) = true := by simpa using q
      subst q2
      clear q
      try subst e
      try rw [← e] at HS4
      go_enter Tryd.func32, Tryd.ntmps32
      go_wp2_with (first
        | (go_at_fn 64; with_reducible refine HS.out.mono ?_; rintro x w1 ⟨rfl, hr, hw⟩; have hc1 : w1.cell? ⟨b, 1, none⟩ = some (.int .i64 s1) := (blk_cell hr 1).trans rfl; have hc2 : w1.cell? ⟨b, 2, none⟩ = some (.int .i64 b1) := (blk_cell hr 2).trans rfl; have H1 := Aside0.mk hr; have W1 := Aside0.mk hw; clear hr hw)
        | (go_at_fn 64; with_reducible refine (HS4.out _ H1.out).mono ?_; rintro x w3 ⟨rfl, hr, hw⟩; have H3 := Aside0.mk hr; have W3 := Aside0.mk hw; clear hr hw)
        | (go_at_fn 63; with_reducible refine (HO.out _).mono ?_; rintro x w2 ⟨rfl, e1⟩; have e2 := e1.symm; subst e2)
        | (go_at_fn 37; with_reducible refine HH.out.mono ?_; rintro x w2 ⟨rfl, e1⟩; have e2 := e1.symm; subst e2)
        | (go_at_fn 37; with_reducible refine (HHx.out _ H3.out).mono ?_; rintro x w2 ⟨rfl, e1⟩; have e2 := e1.symm; subst e2)
        | (go_at_fn 37; with_reducible refine (HH1.out _ H1.out).mono ?_; rintro x w2 ⟨rfl, e1⟩; have e2 := e1.symm; subst e2))
      go_ret
      first | exact ⟨rfl, H3.out, W1.out.then_ W3.out⟩ | exact ⟨rfl, H1.out, W1.out⟩
  all_goals
    injection e with e0 e1 e2 e3
    subst e0 e1 e2 e3
    have h2 : w.cell? ⟨b, 2, none⟩ = some (.int .i64 b1) := (blk_cell H0.out 2).trans rfl
    first
      | (subst k; clear HS)
      | (have kz : ((s1 : Int) == 1) = false := by simp only [beq_eq_false_iff_ne, ne_eq]; omega
         have kz2 : ¬ (s1 : Int) = 1 := by omega
         clear k HS)
    rcases key2 with ⟨q, e⟩ | ⟨q, q2, e⟩ | ⟨q, q2, e⟩
    · first
        | (exfalso; omega)
        | (have qz : (s1 : Int) = 0 := by omega
           subst e
           rw [qz] at h1
           clear q qz kz kz2
           go_enter Tryd.func32, Tryd.ntmps32
           go_wp2_with (go_at_fn 37; with_reducible refine HH.out.mono ?_; rintro x w2 ⟨rfl, e1⟩; have e2 := e1.symm; subst e2)
           go_ret
           exact ⟨by rw [bne_self_eq_false]; rfl, H0.out, Wr.refl _ _⟩)
    all_goals
      try have qz : ¬ (s1 : Int) = 0 := by omega
      try have qz2 : ((s1 : Int) != 0) = true := by simpa using q
      subst q2
      clear q
      try subst e
      try rw [← e] at HS4
      go_enter Tryd.func32, Tryd.ntmps32
      go_wp2_with (first
        | (go_at_fn 64; with_reducible refine (HS4.out _ H0.out).mono ?_; rintro x w3 ⟨rfl, hr, hw⟩; have H3 := Aside0.mk hr; have W3 := Aside0.mk hw; clear hr hw)
        | (go_at_fn 63; with_reducible refine (HO.out _).mono ?_; rintro x w2 ⟨rfl, e1⟩; have e2 := e1.symm; subst e2)
        | (go_at_fn 37; with_reducible refine HH.out.mono ?_; rintro x w2 ⟨rfl, e1⟩; have e2 := e1.symm; subst e2)
        | (go_at_fn 37; with_reducible refine (HHx.out _ H3.out).mono ?_; rintro x w2 ⟨rfl, e1⟩; have e2 := e1.symm; subst e2))
      go_ret
      first | exact ⟨rfl, H3.out, W3.out⟩ | exact ⟨by rw [bne_self_eq_false]; rfl, H0.out, Wr.refl _ _⟩
set_option maxHeartbeats 4000000 in
set_option maxRecDepth 100000 in
theorem rnew_calls (w : World) : Calls Tryd.prog 52 #[.int .i64 0] w fun x w' => ∃ b, x = .returned (.tuple #[.pointer (some ⟨b, 0, none⟩), .int .i64 0]) ∧ b = w.heap.size ∧ RgAt w' b ⟨0, 0, 0, 0⟩ ∧ Below w.heap.size w w' := by
  go_enter Tryd.func52, Tryd.ntmps52
  go_wp2_with ((with_reducible refine gate_dst (N := 12) rfl ?_); refine box_event ?hg (N := 12) ?hd (cs := rgCells ⟨0, 0, 0, 0⟩) (t := 102) ?hr ?_; (case hd => rfl); (case hg => rfl); (case hr => first | (go_simp; done) | (go_simp; rfl)); intro gb hg w3 hbox hb; have HB3 := Aside0.mk hb; have BK := Aside0.mk hbox; have HG := Aside0.mk hg; clear hb hbox hg)
  go_ret2
  exact ⟨gb, rfl, HG.out, BK.out, HB3.out⟩
def rjoin (r : RG) (born now : Int) : RG := rstep ⟨r.mode, r.st, if r.st = 0 then mn born now else mx r.born (mn born now), r.due⟩ 0 now
def rhear (r : RG) (e born now : Int) : RG := if e = 0 ∨ e = 1 ∨ e = 3 then (if old (mn born now) now = false ∧ 0 ≤ mn born now then rjoin r born now else r) else if e = 5 then rstep r 1 now else r
theorem rhear_st (r : RG) (e born now : Int) (hs : r.st < 3) : (rhear r e born now).st < 3 := by
  unfold rhear
  split
  · split
    · exact rN_lt r.st hs 0 (by decide)
    · exact hs
  · split
    · exact rstep_st r 1 now hs (by decide)
    · exact hs
set_option maxHeartbeats 4000000 in
set_option maxRecDepth 100000 in
theorem rhear_calls (b : Nat) (r : RG) (e born now : Int) (w : World) (h : RgAt w b r) (hs : r.st < 3) :
    Calls Tryd.prog 31 #[.pointer (some ⟨b, 0, none⟩), .int .i64 e, .int .i64 born, .int .i64 now] w fun x w' => x = .returned (.bool (rhas (rhear r e born now) != rhas r)) ∧ RgAt w' b (rhear r e born now) ∧ Wr w (fun k => k = b) w' := by
  have e64 : ∀ args w, (callFunc 64 args).run Tryd.prog w = .ok (.enter 64 args) w := enters_of Tryd.func64 (by kernel_rfl) rfl
  have e37 : ∀ args w, (callFunc 37 args).run Tryd.prog w = .ok (.enter 37 args) w := enters_of Tryd.func37 (by kernel_rfl) rfl
  have e63 : ∀ args w, (callFunc 63 args).run Tryd.prog w = .ok (.enter 63 args) w := enters_of Tryd.func63 (by kernel_rfl) rfl
  have HH := Aside0.mk (fun W r (hW : RgAt W b r) => has_calls b r W hW)
  have H0 := Aside0.mk h
  obtain ⟨mode, st, rb, due⟩ := r
  have h1 : w.cell? ⟨b, 1, none⟩ = some (.int .i64 st) := (blk_cell h 1).trans rfl
  have h2 : w.cell? ⟨b, 2, none⟩ = some (.int .i64 rb) := (blk_cell h 2).trans rfl
  have f2 := blk_frozen h 2
  by_cases c : e = 0 ∨ e = 1 ∨ e = 3
  · have HO := Aside0.mk (fun W => old_calls (mn born now) now W)
    have er : rhear ⟨mode, st, rb, due⟩ e born now = if old (mn born now) now = false ∧ 0 ≤ mn born now then rjoin ⟨mode, st, rb, due⟩ born now else ⟨mode, st, rb, due⟩ := by unfold rhear; rw [if_pos c]
    have HJ : ∀ W bn, RgAt W b ⟨mode, st, bn, due⟩ → Calls Tryd.prog 64 #[.pointer (some ⟨b, 0, none⟩), .int .i64 0, .int .i64 now] W fun x w' => x = .returned (.tuple #[]) ∧ RgAt w' b (rstep ⟨mode, st, bn, due⟩ 0 now) ∧ Wr W (fun k => k = b) w' := fun W bn hW => rstep_at b _ 0 0 rfl now W hW hs (by decide)
    have HJ := Aside0.mk HJ
    have key : (old (mn born now) now = true ∧ rhear ⟨mode, st, rb, due⟩ e born now = ⟨mode, st, rb, due⟩) ∨ (old (mn born now) now = false ∧ ¬ 0 ≤ mn born now ∧ rhear ⟨mode, st, rb, due⟩ e born now = ⟨mode, st, rb, due⟩) ∨ (old (mn born now) now = false ∧ 0 ≤ mn born now ∧ st = 0 ∧ rhear ⟨mode, st, rb, due⟩ e born now = rstep ⟨mode, st, mx (mn born now) (mn born now), due⟩ 0 now) ∨ (old (mn born now) now = false ∧ 0 ≤ mn born now ∧ ¬ st = 0 ∧ rhear ⟨mode, st, rb, due⟩ e born now = rstep ⟨mode, st, mx rb (mn born now), due⟩ 0 now) := by
      rw [er]
      unfold rjoin
      rcases Bool.eq_false_or_eq_true (old (mn born now) now) with k | k
      · exact .inl ⟨k, if_neg (fun x => by rw [k] at x; exact absurd x.1 (by decide))⟩
      · by_cases k2 : 0 ≤ mn born now
        · by_cases k3 : st = 0
          · refine .inr (.inr (.inl ⟨k, k2, k3, ?_⟩))
            rw [if_pos ⟨k, k2⟩]; dsimp only; rw [if_pos k3, show mx (mn born now) (mn born now) = mn born now by unfold mx; split <;> rfl]
          · refine .inr (.inr (.inr ⟨k, k2, k3, ?_⟩))
            rw [if_pos ⟨k, k2⟩]; dsimp only; rw [if_neg k3]
        · exact .inr (.inl ⟨k, k2, if_neg (fun x => k2 x.2)⟩)
    generalize rhear ⟨mode, st, rb, due⟩ e born now = r9 at *
    generalize old (mn born now) now = ob at *
    clear h hs er
    rcases key with ⟨k, e9⟩ | ⟨k, k2, e9⟩ | ⟨k, k2, k3, e9⟩ | ⟨k, k2, k3, e9⟩
    · subst k e9
      rcases c with c | c | c
      all_goals
        subst c
        go_enter Tryd.func31, Tryd.ntmps31
        go_wp2_with (first
          | (go_at_fn 63; with_reducible refine (HO.out _).mono ?_; rintro x w2 ⟨rfl, e1⟩; have e2 := e1.symm; subst e2)
          | (go_at_fn 37; with_reducible refine (HH.out _ _ H0.out).mono ?_; rintro x w2 ⟨rfl, e1⟩; have e2 := e1.symm; subst e2))
        go_ret
        exact ⟨by rw [bne_self_eq_false]; rfl, H0.out, Wr.refl _ _⟩
    · subst k e9
      rcases c with c | c | c
      all_goals
        subst c
        go_enter Tryd.func31, Tryd.ntmps31
        go_wp2_with (first
          | (go_at_fn 63; with_reducible refine (HO.out _).mono ?_; rintro x w2 ⟨rfl, e1⟩; have e2 := e1.symm; subst e2)
          | (go_at_fn 37; with_reducible refine (HH.out _ _ H0.out).mono ?_; rintro x w2 ⟨rfl, e1⟩; have e2 := e1.symm; subst e2))
        go_ret
        exact ⟨by rw [bne_self_eq_false]; rfl, H0.out, Wr.refl _ _⟩
    · subst k e9 k3
      have HR := Aside0.mk (blk_put (cs' := rgCells ⟨mode, 0, mx (mn born now) (mn born now), due⟩) (blk_put (cs' := rgCells ⟨mode, 0, mn born now, due⟩) H0.out 2 (.int .i64 (mn born now)) rfl) 2 (.int .i64 (mx (mn born now) (mn born now))) rfl)
      rcases c with c | c | c
      all_goals
        subst c
        go_enter Tryd.func31, Tryd.ntmps31
        go_wp2_with (first
          | (go_at_fn 64; with_reducible refine (HJ.out _ _ HR.out).mono ?_; rintro x w3 ⟨rfl, hr, hw⟩; have H3 := Aside0.mk hr; have W3 := Aside0.mk hw; clear hr hw)
          | (go_at_fn 63; with_reducible refine (HO.out _).mono ?_; rintro x w2 ⟨rfl, e1⟩; have e2 := e1.symm; subst e2)
          | (go_at_fn 37; with_reducible refine (HH.out _ _ H0.out).mono ?_; rintro x w2 ⟨rfl, e1⟩; have e2 := e1.symm; subst e2)
          | (go_at_fn 37; with_reducible refine (HH.out _ _ H3.out).mono ?_; rintro x w2 ⟨rfl, e1⟩; have e2 := e1.symm; subst e2))
        go_ret
        exact ⟨rfl, H3.out, (((Wr.refl w (fun k => k = b)).set (.inl rfl) 2 _).set (.inl rfl) 2 _).then_ W3.out⟩
    · subst k e9
      have HR := Aside0.mk (blk_put (cs' := rgCells ⟨mode, st, mx rb (mn born now), due⟩) H0.out 2 (.int .i64 (mx rb (mn born now))) rfl)
      have kz : ¬ (st : Int) = 0 := by omega
      have kz2 : ((st : Int) == 0) = false := by simp only [beq_eq_false_iff_ne, ne_eq]; omega
      clear k3
      rcases c with c | c | c
      all_goals
        subst c
        go_enter Tryd.func31, Tryd.ntmps31
        go_wp2_with (first
          | (go_at_fn 64; with_reducible refine (HJ.out _ _ HR.out).mono ?_; rintro x w3 ⟨rfl, hr, hw⟩; have H3 := Aside0.mk hr; have W3 := Aside0.mk hw; clear hr hw)
          | (go_at_fn 63; with_reducible refine (HO.out _).mono ?_; rintro x w2 ⟨rfl, e1⟩; have e2 := e1.symm; subst e2)
          | (go_at_fn 37; with_reducible refine (HH.out _ _ H0.out).mono ?_; rintro x w2 ⟨rfl, e1⟩; have e2 := e1.symm; subst e2)
          | (go_at_fn 37; with_reducible refine (HH.out _ _ H3.out).mono ?_; rintro x w2 ⟨rfl, e1⟩; have e2 := e1.symm; subst e2))
        go_ret
        exact ⟨rfl, H3.out, ((Wr.refl w (fun k => k = b)).set (.inl rfl) 2 _).then_ W3.out⟩
  · have c0 : (e == 0) = false := by simp only [beq_eq_false_iff_ne, ne_eq]; omega
    have c1 : (e == 1) = false := by simp only [beq_eq_false_iff_ne, ne_eq]; omega
    have c3 : (e == 3) = false := by simp only [beq_eq_false_iff_ne, ne_eq]; omega
    have hL := rstep_at b ⟨mode, st, rb, due⟩ 1 1 rfl now w h hs (by decide)
    unfold rhear
    rw [if_neg c]
    have HL := Aside0.mk hL
    clear hL h hs c h1 h2 f2
    by_cases c5 : e = 5
    · rw [if_pos c5]
      subst c5
      clear c0 c1 c3
      go_enter Tryd.func31, Tryd.ntmps31
      go_wp2_with (first
        | (go_at_fn 64; with_reducible refine HL.out.mono ?_; rintro x w3 ⟨rfl, hr, hw⟩; have H3 := Aside0.mk hr; have W3 := Aside0.mk hw; clear hr hw)
        | (go_at_fn 37; with_reducible refine (HH.out _ _ H0.out).mono ?_; rintro x w2 ⟨rfl, e1⟩; have e2 := e1.symm; subst e2)
        | (go_at_fn 37; with_reducible refine (HH.out _ _ H3.out).mono ?_; rintro x w2 ⟨rfl, e1⟩; have e2 := e1.symm; subst e2))
      go_ret
      exact ⟨rfl, H3.out, W3.out⟩
    · rw [if_neg c5]
      have c6 : (e == 5) = false := by simp only [beq_eq_false_iff_ne, ne_eq]; omega
      clear c5
      go_enter Tryd.func31, Tryd.ntmps31
      go_wp2_with (go_at_fn 37; with_reducible refine (HH.out _ _ H0.out).mono ?_; rintro x w2 ⟨rfl, e1⟩; have e2 := e1.symm; subst e2)
      go_ret
      exact ⟨by rw [bne_self_eq_false]; rfl, H0.out, Wr.refl _ _⟩
end Go.Proofs.YtkahciadkgjbbaaDoor.QPty
namespace Go.Proofs.YtkahciadkgjbbaaDoor.QPty
open Go.RowKit Go.Proofs.YtkahciadkgjbbaaDoorW.PrintWords Go.Proofs.YtkahciadkgjbbaaDoorW.PrintLast Go.Proofs.YtkahciadkgjbbaaDoorW.PrintMore
attribute [local go_sem] max2_int min2_int max_two min_two
set_option linter.unusedVariables false
set_option linter.unusedSimpArgs false
structure SL where
  a0 : Int
  a1 : Int
  rb : Nat
  st : Nat
  born : Int
deriving DecidableEq
abbrev slCells (s : SL) : Array Value := #[.int .i64 s.a0, .int .i64 s.a1, .pointer (some ⟨s.rb, 0, none⟩), .int .i64 s.st, .int .i64 s.born]
abbrev SlAt (w : World) (b : Nat) (s : SL) : Prop := w.heap[b]? = some (.cells (slCells s) 69 (0, 0))
def astep (s : SL) (e : Nat) : SL := ⟨s.a0, s.a1, s.rb, aN s.st e, s.born⟩
theorem astep_st (s : SL) (e : Nat) (hs : s.st < 5) (he : e < 6) : (astep s e).st < 5 := aN_lt s.st hs e he
set_option maxHeartbeats 4000000 in
set_option maxRecDepth 100000 in
theorem astep_calls (b : Nat) (s : SL) (e : Nat) (w : World) (h : SlAt w b s) (hs : s.st < 5) (he : e < 6) :
    Calls Tryd.prog 55 #[.pointer (some ⟨b, 3, none⟩), .int .i64 e] w fun x w' => x = .returned (.int .i64 (aA s.st e)) ∧ SlAt w' b (astep s e) ∧ Wr w (fun k => k = b) w' := by
  have e77 : ∀ args w, (callFunc 77 args).run Tryd.prog w = .ok (.enter 77 args) w := enters_of Tryd.func77 (by kernel_rfl) rfl
  have e76 : ∀ args w, (callFunc 76 args).run Tryd.prog w = .ok (.enter 76 args) w := enters_of Tryd.func76 (by kernel_rfl) rfl
  have mixed : Tryd.prog.follows .mixedOrders = true := by kernel_rfl
  have hu113 := Tryd.underlying113
  obtain ⟨a0, a1, rb, st, born⟩ := s
  dsimp only at h hs ⊢
  have hbl := blk_lt h
  have hc1 : ∀ W, Below w.heap.size w W → W.cell? ⟨b, 3, none⟩ = some (.int .i64 st) := fun W hb => (blk_cell (blk_below h hb) 3).trans rfl
  have H := Aside0.mk h
  have HC := Aside0.mk hc1
  have HA := Aside0.mk (fun A c W hC hl => atA_calls A c st e hs he W hC hl)
  have hx := hc1 w (Below.refl _ _)
  unfold astep
  dsimp only
  generalize hn : aN st e = nx at *
  generalize ha : aA st e = ac at *
  clear h hc1 hs he hn ha
  go_enter Tryd.func55, Tryd.ntmps55
  go_wp2_with fail
  go_region_held3 (fun W => W.cell? ⟨b, 3, none⟩ = some (.int .i64 st) ∧ Below w.heap.size w W) (first | exact ⟨HC.out _ (by repeat (with_reducible first | assumption | exact Below.refl _ _ | apply below_alloc | apply pw_below_drewN | apply below_drew1 | refine below_set ?_ (by first | exact Nat.le_refl _ | assumption))), (by repeat (with_reducible first | assumption | exact Below.refl _ _ | apply below_alloc | apply pw_below_drewN | apply below_drew1 | refine below_set ?_ (by first | exact Nat.le_refl _ | assumption)))⟩) (first
      | (go_at_call 77; with_reducible refine (tabA_calls _).mono ?_; rintro x w1 ⟨A1, c1, rfl, hl1, hC1, hb1⟩; (try (have hk1 : w1.heap[w.heap.size]? = some (.cells #[.int .i64 0, .int .i64 0] 113 (0, 0)) := blk_below (by first | exact blk_new _ _ | exact blk_drew (blk_new _ _)) hb1; have hk10 : w1.cell? ⟨w.heap.size, 0, none⟩ = some (.int .i64 0) := (blk_cell hk1 0).trans rfl; have hk11 : w1.cell? ⟨w.heap.size, 1, none⟩ = some (.int .i64 0) := (blk_cell hk1 1).trans rfl; have hk1f0 := blk_frozen hk1 0; have hk1f1 := blk_frozen hk1 1)); replace hb1 := below_step (show Below w.heap.size w _ from (by repeat (with_reducible first | assumption | exact Below.refl _ _ | apply below_alloc | apply pw_below_drewN | apply below_drew1 | refine below_set ?_ (by first | exact Nat.le_refl _ | assumption)))) hb1; have hs1 := hb1.size; have HL1 := Aside0.mk hl1; have HC1 := Aside0.mk hC1; clear hl1 hC1)
      | (go_at_call 76; with_reducible refine (HA.out _ _ _ (Kd.C_below HC1.out (by repeat (with_reducible first | assumption | exact Below.refl _ _ | apply below_alloc | apply pw_below_drewN | apply below_drew1 | refine below_set ?_ (by first | exact Nat.le_refl _ | assumption)))) HL1.out).mono ?_; rintro x w2 ⟨rfl, hb2⟩; (first | (have hk2 : w2.heap[w1.heap.size]? = some (.cells #[.int .i64 0, .int .i64 0] 113 (0, 0)) := blk_below (by first | exact blk_new _ _ | exact blk_drew (blk_new _ _)) hb2; have hk20 : w2.cell? ⟨w1.heap.size, 0, none⟩ = some (.int .i64 0) := (blk_cell hk2 0).trans rfl; have hk21 : w2.cell? ⟨w1.heap.size, 1, none⟩ = some (.int .i64 0) := (blk_cell hk2 1).trans rfl; have hk2f0 := blk_frozen hk2 0; have hk2f1 := blk_frozen hk2 1) | (have hk2 : w2.heap[w.heap.size]? = some (.cells #[.int .i64 0, .int .i64 0] 113 (0, 0)) := blk_below (by first | exact hk1 | exact blk_drew hk1) hb2; have hk20 : w2.cell? ⟨w.heap.size, 0, none⟩ = some (.int .i64 0) := (blk_cell hk2 0).trans rfl; have hk21 : w2.cell? ⟨w.heap.size, 1, none⟩ = some (.int .i64 0) := (blk_cell hk2 1).trans rfl; have hk2f0 := blk_frozen hk2 0; have hk2f1 := blk_frozen hk2 1) | skip); replace hb2 := below_step (show Below w.heap.size w _ from (by repeat (with_reducible first | assumption | exact Below.refl _ _ | apply below_alloc | apply pw_below_drewN | apply below_drew1 | refine below_set ?_ (by first | exact Nat.le_refl _ | assumption)))) hb2; have hs2 := hb2.size))
  all_goals
    rename_i hS9
    first
      | (have hk9 : ((w2.setCell ⟨w1.heap.size, 0, none⟩ (.int .i64 nx)).setCell ⟨w1.heap.size, 1, none⟩ (.int .i64 ac)).heap[w1.heap.size]? = some (.cells #[.int .i64 nx, .int .i64 ac] 113 (0, 0)) := blk_put (blk_put hk2 0 _ rfl) 1 _ rfl; clear hk20 hk21 hk2f0 hk2f1 hk2; have hg9 : b < w1.heap.size := (by omega); generalize (w2.setCell ⟨w1.heap.size, 0, none⟩ (.int .i64 nx)).setCell ⟨w1.heap.size, 1, none⟩ (.int .i64 ac) = W9 at hk9 hS9 ⊢; generalize w1.heap.size = gb at hk9 hg9 ⊢)
      | (have hk9 : ((w2.setCell ⟨w.heap.size, 0, none⟩ (.int .i64 nx)).setCell ⟨w.heap.size, 1, none⟩ (.int .i64 ac)).heap[w.heap.size]? = some (.cells #[.int .i64 nx, .int .i64 ac] 113 (0, 0)) := blk_put (blk_put hk2 0 _ rfl) 1 _ rfl; clear hk20 hk21 hk2f0 hk2f1 hk2; have hg9 : b < w.heap.size := (by omega); generalize (w2.setCell ⟨w.heap.size, 0, none⟩ (.int .i64 nx)).setCell ⟨w.heap.size, 1, none⟩ (.int .i64 ac) = W9 at hk9 hS9 ⊢; generalize w.heap.size = gb at hk9 hg9 ⊢)
      | (have hk9 := blk_new w2 (.cells #[.int .i64 nx, .int .i64 ac] 113 (0, 0)); have hg9 : b < w2.heap.size := (by omega); generalize w2.alloc (.cells #[.int .i64 nx, .int .i64 ac] 113 (0, 0)) = W9 at hk9 hS9 ⊢; generalize w2.heap.size = gb at hk9 hg9 ⊢)
    have hR9 := blk_below H.out hS9.2
    have hW9 := Aside0.mk (Wr.of_below hS9.2 (fun k => k = b))
    have hz0 : W9.cell? ⟨gb, 0, none⟩ = some (.int .i64 nx) := (blk_cell hk9 0).trans rfl
    have hz1 : W9.cell? ⟨gb, 1, none⟩ = some (.int .i64 ac) := (blk_cell hk9 1).trans rfl
    have hb1 : W9.cell? ⟨b, 3, none⟩ = some (.int .i64 st) := (blk_cell hR9 3).trans rfl
    have hf1 := blk_frozen hR9 3
    have hn1 : ¬ b = gb := by omega
    have hn2 : ¬ gb = b := by omega
    have HR9 := Aside0.mk hR9
    clear hS9 hk9 hR9 hx hbl
    go_wp2
    go_ret
    exact ⟨rfl, blk_put HR9.out 3 _ rfl, hW9.out.set (.inl rfl) 3 _⟩
theorem astep_at (b : Nat) (s : SL) (ev : Int) (e : Nat) (hev : ev = (e : Int)) (w : World) (h : SlAt w b s) (hs : s.st < 5) (he : e < 6) :
    Calls Tryd.prog 55 #[.pointer (some ⟨b, 3, none⟩), .int .i64 ev] w fun x w' => x = .returned (.int .i64 (aA s.st e)) ∧ SlAt w' b (astep s e) ∧ Wr w (fun k => k = b) w' := by
  subst hev
  exact astep_calls b s e w h hs he
def asays (st : Nat) : Bool := decide (st = 1 ∨ st = 2 ∨ st = 3)
set_option maxHeartbeats 4000000 in
theorem asays_calls (st : Nat) (w : World) : Calls Tryd.prog 56 #[.int .i64 st] w fun x w' => x = .returned (.bool (asays st)) ∧ w' = w := by
  have key : st = 1 ∨ st = 2 ∨ st = 3 ∨ (((st : Int) == 1) = false ∧ ((st : Int) == 2) = false ∧ ((st : Int) == 3) = false ∧ asays st = false) := by
    unfold asays
    simp only [beq_eq_false_iff_ne, ne_eq, decide_eq_false_iff_not]
    omega
  rcases key with k | k | k | ⟨k1, k2, k3, k4⟩
  · subst k
    go_enter Tryd.func56, Tryd.ntmps56
    go_wp2
    go_ret
    exact ⟨rfl, rfl⟩
  · subst k
    go_enter Tryd.func56, Tryd.ntmps56
    go_wp2
    go_ret
    exact ⟨rfl, rfl⟩
  · subst k
    go_enter Tryd.func56, Tryd.ntmps56
    go_wp2
    go_ret
    exact ⟨rfl, rfl⟩
  · rw [k4]
    go_enter Tryd.func56, Tryd.ntmps56
    go_wp2
    go_ret
    exact ⟨rfl, rfl⟩
set_option maxHeartbeats 4000000 in
set_option maxRecDepth 100000 in
theorem aall_calls (b : Nat) (s : SL) (w : World) (h : SlAt w b s) (hs : s.st < 5) :
    Calls Tryd.prog 62 #[.pointer (some ⟨b, 3, none⟩)] w fun x w' => x = .returned (.tuple #[]) ∧ SlAt w' b (astep s 2) ∧ Wr w (fun k => k = b) w' := by
  have e55 : ∀ args w, (callFunc 55 args).run Tryd.prog w = .ok (.enter 55 args) w := enters_of Tryd.func55 (by kernel_rfl) rfl
  have HS := Aside0.mk (astep_at b s 2 2 rfl w h hs (by decide))
  clear h hs
  go_enter Tryd.func62, Tryd.ntmps62
  go_wp2_with (go_at_fn 55; with_reducible refine HS.out.mono ?_; rintro x w1 ⟨rfl, h1, h2⟩; have H1 := Aside0.mk h1; have H2 := Aside0.mk h2; clear h1 h2)
  go_end0
  exact ⟨rfl, H1.out, H2.out⟩
set_option maxHeartbeats 4000000 in
set_option maxRecDepth 100000 in
theorem aagain_calls (b : Nat) (s : SL) (w : World) (h : SlAt w b s) (hs : s.st < 5) :
    Calls Tryd.prog 33 #[.pointer (some ⟨b, 3, none⟩)] w fun x w' => x = .returned (.tuple #[]) ∧ SlAt w' b (astep s 3) ∧ Wr w (fun k => k = b) w' := by
  have e55 : ∀ args w, (callFunc 55 args).run Tryd.prog w = .ok (.enter 55 args) w := enters_of Tryd.func55 (by kernel_rfl) rfl
  have HS := Aside0.mk (astep_at b s 3 3 rfl w h hs (by decide))
  clear h hs
  go_enter Tryd.func33, Tryd.ntmps33
  go_wp2_with (go_at_fn 55; with_reducible refine HS.out.mono ?_; rintro x w1 ⟨rfl, h1, h2⟩; have H1 := Aside0.mk h1; have H2 := Aside0.mk h2; clear h1 h2)
  go_end0
  exact ⟨rfl, H1.out, H2.out⟩
set_option maxHeartbeats 4000000 in
set_option maxRecDepth 100000 in
theorem aidle_calls (b : Nat) (s : SL) (w : World) (h : SlAt w b s) : Calls Tryd.prog 80 #[.pointer (some ⟨b, 3, none⟩)] w fun x w' => x = .returned (.bool (decide (s.st = 0))) ∧ w' = w := by
  have h3 : w.cell? ⟨b, 3, none⟩ = some (.int .i64 s.st) := (blk_cell h 3).trans rfl
  obtain ⟨a0, a1, rb, st, born⟩ := s
  clear h
  dsimp only at h3 ⊢
  by_cases c : st = 0
  · subst c
    go_enter Tryd.func80, Tryd.ntmps80
    go_wp2
    go_ret
    exact ⟨rfl, rfl⟩
  · have c2 : ((st : Int) == 0) = false := by simp only [beq_eq_false_iff_ne, ne_eq]; omega
    rw [decide_eq_false c]
    go_enter Tryd.func80, Tryd.ntmps80
    go_wp2
    go_ret
    first | exact ⟨rfl, rfl⟩ | exact ⟨by rw [c2], rfl⟩
def abirth (s : SL) (born : Int) : SL := ⟨s.a0, s.a1, s.rb, s.st, born⟩
def awant (s : SL) (born : Int) (new : Bool) : SL :=
  if born < 0 then astep s 1 else if asays s.st then abirth s born else astep (abirth s born) (if new then 5 else 0)
theorem awant_st (s : SL) (born : Int) (new : Bool) (hs : s.st < 5) : (awant s born new).st < 5 := by
  unfold awant
  split
  · exact astep_st s 1 hs (by decide)
  · split
    · exact hs
    · exact astep_st (abirth s born) _ hs (by split <;> decide)
set_option maxHeartbeats 4000000 in
set_option maxRecDepth 100000 in
theorem awant_calls (b : Nat) (s : SL) (born : Int) (new : Bool) (w : World) (h : SlAt w b s) (hs : s.st < 5) :
    Calls Tryd.prog 27 #[.pointer (some ⟨b, 3, none⟩), .int .i64 born, .bool new] w fun x w' => x = .returned (.tuple #[]) ∧ SlAt w' b (awant s born new) ∧ Wr w (fun k => k = b) w' := by
  have e55 : ∀ args w, (callFunc 55 args).run Tryd.prog w = .ok (.enter 55 args) w := enters_of Tryd.func55 (by kernel_rfl) rfl
  have e56 : ∀ args w, (callFunc 56 args).run Tryd.prog w = .ok (.enter 56 args) w := enters_of Tryd.func56 (by kernel_rfl) rfl
  unfold awant
  by_cases c : born < 0
  · rw [if_pos c]
    have HS := Aside0.mk (astep_at b s 1 1 rfl w h hs (by decide))
    clear h hs
    go_enter Tryd.func27, Tryd.ntmps27
    go_wp2_with (go_at_fn 55; with_reducible refine HS.out.mono ?_; rintro x w1 ⟨rfl, h1, h2⟩; have H1 := Aside0.mk h1; have H2 := Aside0.mk h2; clear h1 h2)
    go_end0
    exact ⟨rfl, H1.out, H2.out⟩
  · rw [if_neg c]
    have h3 : w.cell? ⟨b, 3, none⟩ = some (.int .i64 s.st) := (blk_cell h 3).trans rfl
    have h4 : w.cell? ⟨b, 4, none⟩ = some (.int .i64 s.born) := (blk_cell h 4).trans rfl
    have f4 := blk_frozen h 4
    have HB := blk_put (cs' := slCells (abirth s born)) h 4 (.int .i64 born) rfl
    have HS5 := Aside0.mk (astep_at b (abirth s born) 5 5 rfl _ HB hs (by decide))
    have HS0 := Aside0.mk (astep_at b (abirth s born) 0 0 rfl _ HB hs (by decide))
    have HW := Aside0.mk ((Wr.refl w (fun k => k = b)).set (.inl rfl) 4 (.int .i64 born))
    have HB := Aside0.mk HB
    have HA := Aside0.mk (fun W => asays_calls s.st W)
    clear h hs
    generalize asays s.st = sy at *
    generalize s.st = st at *
    generalize s.born = bo at *
    rcases Bool.eq_false_or_eq_true sy with k | k <;> rcases Bool.eq_false_or_eq_true new with k2 | k2 <;> subst k k2
    · rw [if_pos rfl]
      go_enter Tryd.func27, Tryd.ntmps27
      go_wp2_with (go_at_fn 56; with_reducible refine (HA.out _).mono ?_; rintro x w2 ⟨rfl, e1⟩; have e2 := e1.symm; subst e2)
      go_end0
      exact ⟨rfl, HB.out, HW.out⟩
    · rw [if_pos rfl]
      go_enter Tryd.func27, Tryd.ntmps27
      go_wp2_with (go_at_fn 56; with_reducible refine (HA.out _).mono ?_; rintro x w2 ⟨rfl, e1⟩; have e2 := e1.symm; subst e2)
      go_end0
      exact ⟨rfl, HB.out, HW.out⟩
    · rw [if_neg (by simp), if_pos rfl]
      go_enter Tryd.func27, Tryd.ntmps27
      go_wp2_with (first
        | (go_at_fn 56; with_reducible refine (HA.out _).mono ?_; rintro x w2 ⟨rfl, e1⟩; have e2 := e1.symm; subst e2)
        | (go_at_fn 55; with_reducible refine HS5.out.mono ?_; rintro x w1 ⟨rfl, h1, h2⟩; have H1 := Aside0.mk h1; have H2 := Aside0.mk h2; clear h1 h2))
      go_end0
      exact ⟨rfl, H1.out, HW.out.then_ H2.out⟩
    · rw [if_neg (by simp), if_neg (by simp)]
      go_enter Tryd.func27, Tryd.ntmps27
      go_wp2_with (first
        | (go_at_fn 56; with_reducible refine (HA.out _).mono ?_; rintro x w2 ⟨rfl, e1⟩; have e2 := e1.symm; subst e2)
        | (go_at_fn 55; with_reducible refine HS0.out.mono ?_; rintro x w1 ⟨rfl, h1, h2⟩; have H1 := Aside0.mk h1; have H2 := Aside0.mk h2; clear h1 h2))
      go_end0
      exact ⟨rfl, H1.out, HW.out.then_ H2.out⟩
end Go.Proofs.YtkahciadkgjbbaaDoor.QPty
namespace Go.Proofs.YtkahciadkgjbbaaDoor.Gen
open Go.RowKit Go.Proofs.YtkahciadkgjbbaaDoorW.PrintWords Go.Proofs.YtkahciadkgjbbaaDoorW.PrintLast Go.Proofs.YtkahciadkgjbbaaDoorW.PrintMore
set_option linter.unusedVariables false
set_option linter.unusedSimpArgs false
section
variable {α : Type} {enc : α → List Value} {k : Nat}
def flat (enc : α → List Value) (xs : List α) : List Value := xs.flatMap enc
theorem flat_cons (x : α) (r : List α) : flat enc (x :: r) = enc x ++ flat enc r := List.flatMap_cons
theorem flat_len (hk : ∀ x, (enc x).length = k) (xs : List α) : (flat enc xs).length = xs.length * k := by
  induction xs with
  | nil => simp [flat]
  | cons x r ih => rw [flat_cons, List.length_append, ih, hk, List.length_cons, Nat.add_mul, Nat.one_mul, Nat.add_comm]
theorem flat_at (hk : ∀ x, (enc x).length = k) : ∀ (xs : List α) (i j : Nat), j < k → (flat enc xs)[i * k + j]? = (xs[i]?).bind fun x => (enc x)[j]?
  | [], i, j, _ => by simp [flat]
  | x :: r, 0, j, hj => by rw [flat_cons, Nat.zero_mul, Nat.zero_add, List.getElem?_append_left (by rw [hk]; exact hj)]; rfl
  | x :: r, i + 1, j, hj => by
    rw [flat_cons, List.getElem?_append_right (by rw [hk, Nat.add_mul]; omega), hk, show (i + 1) * k + j - k = i * k + j by rw [Nat.add_mul]; omega, flat_at hk r i j hj, List.getElem?_cons_succ]
theorem flat_set (hk : ∀ x, (enc x).length = k) : ∀ (xs : List α) (i j : Nat) (x : α) (v : Value) (hi : i < xs.length), j < k → enc x = (enc xs[i]).set j v → flat enc (xs.set i x) = (flat enc xs).set (i * k + j) v
  | y :: r, 0, j, x, v, _, hj, e => by
    rw [List.set_cons_zero, flat_cons, flat_cons, Nat.zero_mul, Nat.zero_add, List.set_append_left _ _ (by rw [hk]; exact hj)]
    rw [e]; rfl
  | y :: r, i + 1, j, x, v, hi, hj, e => by
    have hi2 : i < r.length := by simpa using hi
    rw [List.set_cons_succ, flat_cons, flat_cons, flat_set hk r i j x v hi2 hj e, List.set_append_right _ _ (by rw [hk, Nat.add_mul]; omega), hk, show (i + 1) * k + j - k = i * k + j by rw [Nat.add_mul]; omega]
structure Own (enc : α → List Value) (k t : Nat) (w : World) (b cap : Nat) (xs : List α) : Prop where
  cells : ∃ cur : Array Value, w.heap[b]? = some (.cells cur t (0, 0)) ∧ cur.size = cap * k ∧ cur.toList.take (xs.length * k) = flat enc xs
  fits : xs.length ≤ cap
variable {t : Nat} {w W : World} {b cap : Nat} {xs : List α} {S : Nat → Prop}
theorem Own.lt (h : Own enc k t w b cap xs) : b < w.heap.size := by obtain ⟨cur, hb, _⟩ := h.cells; exact blk_lt hb
theorem Own.kept (h : Own enc k t w b cap xs) (hk : Kept w W S) (hn : ¬ S b) : Own enc k t W b cap xs := by
  obtain ⟨cur, hb, hs, ht⟩ := h.cells
  exact ⟨⟨cur, blk_kept hb hk hn, hs, ht⟩, h.fits⟩
theorem Own.below (h : Own enc k t w b cap xs) (hb : Below w.heap.size w W) : Own enc k t W b cap xs := h.kept (Kept.of_below hb (fun _ => False)) id
theorem lt_of (i j n k : Nat) (hi : i < n) (hj : j < k) : i * k + j < n * k := by
  have := Nat.mul_le_mul_right k (Nat.succ_le_of_lt hi)
  rw [Nat.succ_mul] at this
  omega
theorem Own.at_ (h : Own enc k t w b cap xs) (hk : ∀ x, (enc x).length = k) (i j : Nat) (hi : i < xs.length) (hj : j < k) : w.cell? ⟨b, i * k + j, none⟩ = (enc xs[i])[j]? := by
  obtain ⟨cur, hb, hs, ht⟩ := h.cells
  have := flat_at hk xs i j hj
  rw [List.getElem?_eq_getElem hi, Option.bind_some] at this
  rw [blk_cell hb, ← this, ← ht, List.getElem?_take_of_lt (lt_of i j xs.length k hi hj), Array.getElem?_toList]
theorem Own.put (h : Own enc k t w b cap xs) (hk : ∀ x, (enc x).length = k) (i j : Nat) (hi : i < xs.length) (hj : j < k) (x : α) (v : Value) (e : enc x = (enc xs[i]).set j v) : Own enc k t (w.setCell ⟨b, i * k + j, none⟩ v) b cap (xs.set i x) := by
  obtain ⟨cur, hb, hs, ht⟩ := h.cells
  refine ⟨⟨cur.setIfInBounds (i * k + j) v, blk_put hb _ v rfl, by simpa using hs, ?_⟩, by rw [List.length_set]; exact h.fits⟩
  rw [List.length_set, flat_set hk xs i j x v hi hj e, ← ht]
  rw [Array.toList_setIfInBounds, List.take_set]
variable {d : Kd α} {base : Nat} {ok : Nat → Prop} {u : Value}
theorem flat_cut (hk : ∀ x, (enc x).length = k) : ∀ (xs : List α) (j : Nat) (p : α), xs[j]? = some p → ((flat enc xs).drop (j * k)).take k = enc p
  | [], j, p, h => by simp at h
  | x :: r, 0, p, h => by
    have e : x = p := by simpa using h
    subst e
    rw [Nat.zero_mul, List.drop_zero, flat_cons, ← hk x, List.take_left']
    rfl
  | x :: r, j + 1, p, h => by
    rw [flat_cons, Nat.add_mul, Nat.one_mul, Nat.add_comm, ← List.drop_drop, List.drop_left' (hk x)]
    exact flat_cut hk r j p (by simpa using h)
theorem reps_flat (hk : ∀ x, (enc x).length = k) {R : α → List Value → Prop} (hR : ∀ x, R x (enc x)) (xs : List α) : Reps R k xs (flat enc xs) :=
  ⟨flat_len hk xs, fun j p hj => by rw [flat_cut hk xs j p hj]; exact hR p⟩
theorem flat_of_reps (hk : ∀ x, (enc x).length = k) {R : α → List Value → Prop} (hR : ∀ x cs, R x cs → cs = enc x) : ∀ (xs : List α) (inner : List Value), Reps R k xs inner → inner = flat enc xs
  | [], inner, h => by
    have := h.1
    simp at this
    subst this; rfl
  | x :: r, inner, h => by
    have h0 := hR _ _ (h.2 0 x rfl)
    rw [Nat.zero_mul, List.drop_zero] at h0
    have hl : inner.length = k + r.length * k := by rw [h.1, List.length_cons, Nat.add_mul, Nat.one_mul, Nat.add_comm]
    have hr : Reps R k r (inner.drop k) := by
      refine ⟨by rw [List.length_drop, hl]; omega, fun j p hj => ?_⟩
      have := h.2 (j + 1) p (by simpa using hj)
      rw [Nat.add_mul, Nat.one_mul, Nat.add_comm, ← List.drop_drop] at this
      exact this
    rw [flat_cons, ← h0, ← flat_of_reps hk hR r _ hr, List.take_append_drop]
theorem Own.toR (h : Own enc k t w b cap xs) (hk : ∀ x, (enc x).length = k) (hsz : d.sz = k) (hM : ∀ w base ok x, d.M w base ok x (enc x)) (hbase : base ≤ b) (hok : ok b) (hm : cap ≤ maxLen) : Kd.R d t w base ok (.slice (some ⟨b, 0, none⟩) xs.length cap) xs := by
  obtain ⟨cur, hb, hs, ht⟩ := h.cells
  subst hsz
  exact ⟨fun q hq => by cases hq; exact hok, flat enc xs, ⟨flat_len hk xs, .inr ⟨b, cap, cur, rfl, hbase, hb, h.fits, hm, hs, ht⟩⟩, reps_flat hk (fun x => hM _ _ _ x) xs⟩
theorem Own.ofR (hk : ∀ x, (enc x).length = k) (hsz : d.sz = k) (hM : ∀ w base ok x cs, d.M w base ok x cs → cs = enc x) (h : Kd.R d t w base ok u xs) : (u = .slice none 0 0 ∧ xs = []) ∨ ∃ b cap, u = .slice (some ⟨b, 0, none⟩) xs.length cap ∧ ok b ∧ base ≤ b ∧ cap ≤ maxLen ∧ Own enc k t w b cap xs := by
  obtain ⟨hok, inner, ho, hr⟩ := h
  rw [hsz] at ho hr
  have hi := flat_of_reps hk (fun x cs => hM _ _ _ x cs) xs inner hr
  rcases ho.2 with ⟨e1, e2⟩ | ⟨g, cap, cur, hv, hg, hb, h1, h2, h3, h4⟩
  · exact .inl ⟨e1, List.length_eq_zero_iff.1 e2⟩
  · exact .inr ⟨g, cap, hv, hok g (by rw [hv]; rfl), hg, h2, ⟨⟨cur, hb, h3, by rw [h4, hi]⟩, h1⟩⟩
end
section
variable {α : Type} {d : Kd α} {t base : Nat} {ok ok' : Nat → Prop} {w W : World} {u : Value} {xs : List α} {S : Nat → Prop}
abbrev Blk (u : Value) : Nat → Prop := fun k => u.ownBlock = some k
theorem R_kept (hE : d.E = []) (hr : Kd.R d t w base ok u xs) (hk : Kept w W S) (hn : ∀ q, Blk u q → ¬ S q) : Kd.R d t W base ok u xs :=
  Kd.R_reok hE (Kd.R_step (Kd.R_tight hE hr) (fun k hk' hlt => hk.2 k hlt (hn k hk'.symm))) hr.1
theorem R_open (hr : Kd.R d t w base ok u xs) : ∃ A c, u = .slice A xs.length c ∧ xs.length ≤ c ∧ Kd.C d w A xs.length xs := by
  obtain ⟨A, c, rfl⟩ := Kd.R_slice hr
  have := Kd.R_reads' hr
  exact ⟨A, c, rfl, this.2.1, this.2.2⟩
theorem grownBy_below {w W : World} {r : Option Nat} (h : Below w.heap.size w W) : w.grownBy W r := ⟨h.os, h.tape, h.output, h.size, fun q hq _ => h.block q hq⟩
theorem grownBy_set (W : World) (b j : Nat) (v : Value) : W.grownBy (W.setCell ⟨b, j, none⟩ v) (some b) := ⟨rfl, rfl, rfl, by simp [World.setCell], fun q _ hne => Below.heap_setCell W _ v q (fun e => hne (by rw [e]))⟩
theorem grownBy_trans {w W W2 : World} {r : Option Nat} (h : w.grownBy W r) (k : W.grownBy W2 r) : w.grownBy W2 r :=
  ⟨k.os.trans h.os, k.tape.trans h.tape, k.output.trans h.output, Nat.le_trans h.size k.size, fun q hq hne => (k.block q (Nat.lt_of_lt_of_le hq h.size) hne).trans (h.block q hq hne)⟩
theorem kept_set (w : World) (b j : Nat) (v : Value) : Kept w (w.setCell ⟨b, j, none⟩ v) (fun k => k = b) := Kept.setCell (S := fun k => k = b) (Kept.refl w _) (p := ⟨b, j, none⟩) (.inl rfl) v
structure Trn (base : Nat) (w0 w : World) (F F' : Nat → Prop) (W : World) : Prop where
  bel : Below base w0 W
  kept : Kept w W F
  own : ∀ k, F' k → F k ∨ w.heap.size ≤ k
theorem Trn.refl {base : Nat} {w0 w : World} {F : Nat → Prop} (hB : Below base w0 w) : Trn base w0 w F F w := ⟨hB, Kept.refl _ _, fun k hk => .inl hk⟩
theorem Trn.of_below {base : Nat} {w0 w W : World} {F : Nat → Prop} (hB : Below base w0 w) (hs : base ≤ w.heap.size) (hb : Below w.heap.size w W) : Trn base w0 w F F W :=
  ⟨Below.grown hB (grownBy_below (r := none) hb) hs (fun q hq => by cases hq), Kept.of_below hb _, fun k hk => .inl hk⟩
theorem Trn.trans {base : Nat} {w0 w W W2 : World} {F F' F2 : Nat → Prop} (a : Trn base w0 w F F' W) (b : Trn base w0 W F' F2 W2) : Trn base w0 w F F2 W2 :=
  ⟨b.bel, a.kept.then_ b.kept a.own, fun k hk => (b.own k hk).elim (a.own k) (fun h => .inr (Nat.le_trans a.kept.1 h))⟩
theorem Trn.set {base : Nat} {w0 w W : World} {F F' : Nat → Prop} (a : Trn base w0 w F F' W) (hs : base ≤ w.heap.size) {b : Nat} (hb : F' b) (hbase : base ≤ b) (j : Nat) (v : Value) : Trn base w0 w F F' (W.setCell ⟨b, j, none⟩ v) :=
  ⟨Below.grown a.bel (grownBy_set W b j v) (Nat.le_trans hs a.kept.1) (fun k hk => by cases hk; exact hbase), Kept.setCell a.kept (p := ⟨b, j, none⟩) (a.own b hb) v, a.own⟩
theorem Trn.size {base : Nat} {w0 w W : World} {F F' : Nat → Prop} (a : Trn base w0 w F F' W) : w.heap.size ≤ W.heap.size := a.kept.1
theorem Trn.apart {base : Nat} {w0 w W : World} {F F' G : Nat → Prop} (a : Trn base w0 w F F' W) (hG : ∀ k, G k → k < w.heap.size) (h : ∀ k, G k → ¬ F k) : ∀ k, G k → ¬ F' k := fun k hk hf => (a.own k hf).elim (h k hk) (fun h2 => by have := hG k hk; omega)
end
end Go.Proofs.YtkahciadkgjbbaaDoor.Gen
namespace Go.Proofs.YtkahciadkgjbbaaDoor.QPty
open Go.RowKit Go.Proofs.YtkahciadkgjbbaaDoorW.PrintWords Go.Proofs.YtkahciadkgjbbaaDoorW.PrintLast Go.Proofs.YtkahciadkgjbbaaDoorW.PrintMore Gen
set_option linter.unusedVariables false
set_option linter.unusedSimpArgs false
set_option maxHeartbeats 8000000 in
set_option maxRecDepth 100000 in
theorem cloneI_calls (A : Option Addr) (c : Nat) (l : List Int) (w : World) (hr : Kd.C (Kd.int .i64) w A l.length l) (hc : l.length ≤ c) (hl : l.length < 4398046511104) :
    Calls Tryd.prog 45 #[.slice A l.length c] w fun e w' => ∃ v, e = .returned v ∧ Kd.R (Kd.int .i64) 3 w' w.heap.size (fun _ => True) v l ∧ Below w.heap.size w w' := by
  have q22 : ∀ (w : World) (a : Option Addr) (n c n' c' : Nat), (binOp .eql 22 (.slice a n c) (.slice none n' c')).run Tryd.prog w = .ok (.bool a.isNone) w := fun w a n c n' c' => Go.Lib.run_eql_slice_nil w _ _ a n c n' c' Tryd.underlying22
  cases A with
  | none =>
    have h0 : l.length = 0 := by
      rcases Nat.eq_zero_or_pos l.length with h0 | h0
      · exact h0
      · obtain ⟨_, e, _⟩ := hr.2.2 h0; cases e
    obtain rfl := List.length_eq_zero_iff.1 h0
    go_enter Tryd.func45, Tryd.ntmps45
    go_wp2
    go_ret
    exact ⟨_, rfl, Kd.R_nil _ _ _ _ _, Below.refl _ _⟩
  | some ad =>
    have HR := Aside0.mk hr
    have HL := Aside0.mk hl
    clear hr hl
    go_enter Tryd.func45, Tryd.ntmps45
    go_wp2_with (first
      | ((with_reducible refine gate_dst (N := 5) rfl ?_); refine Kd.R_lit (Kd.int .i64) w.heap.size 3 ?hg (N := 5) ?hd (xs := ([] : List Int)) (inner := []) (ok := fun _ => True) (okp := fun _ => True) (w0 := w) ?hr ?hp (fun _ hk => hk) trivial (by repeat (first | exact Below.refl _ _ | apply below_alloc | apply pw_below_drewN | apply below_drew1)) (Nat.le_refl _) (by simp) ?_; (case hd => rfl); (case hg => rfl); (case hr => first | (go_simp; done) | (go_simp; rfl)); (case hp => exact Reps.none _ _); intro v1 w1 ho1 hb1 hg1 hn1; have HO1 := Aside0.mk ho1; have HB1 := Aside0.mk hb1; clear ho1 hb1 hg1 hn1)
      | ((with_reducible refine gate_builtin (b := .append) (xs := #[.tmp 5, .tmp 6]) rfl ?_); at_builtin; refine Kd.R_append_rows (Kd.int .i64) (w0 := w) w.heap.size rfl (.tmp 5) (.tmp 6) 22 3 (.int .i64 0) 8 rfl Tryd.underlying22 info3 rfl (by decide) (by omega) v1 ([] : List Int) l (some ad) _ _ (fun _ => True) (fun _ => False) rfl rfl ?aO ?aR (fun _ _ h => h) (fun _ h => h.elim) ?aF ?aB ?aS ?aL ?_; (case aR => exact Kd.C_below HR.out (by repeat (first | exact HB1.out | apply below_alloc | apply pw_below_drewN | apply below_drew1))); (case aB => exact (by repeat (first | exact HB1.out | apply below_alloc | apply pw_below_drewN | apply below_drew1))); (case aF => exact (fun _ _ => trivial)); (case aO => exact (by (with_reducible repeat (first | apply Kd.R_alloc | apply Kd.R_drewN | apply Kd.R_drew)); exact HO1.out)); (case aS => exact (below_size (by repeat (first | exact HB1.out | apply below_alloc | apply pw_below_drewN | apply below_drew1)))); (case aL => have := HL.out; simp only [List.length_nil]; omega); intro v2 w2 ho2 hb2 hg2 hat; have HO2 := Aside0.mk ho2; have HB2 := Aside0.mk hb2; clear ho2 hb2 hg2 hat))
    go_ret
    exact ⟨v2, rfl, (by (with_reducible repeat (first | apply Kd.R_alloc | apply Kd.R_drewN | apply Kd.R_drew)); exact HO2.out), by repeat (first | exact HB2.out | apply below_alloc | apply pw_below_drewN | apply below_drew1)⟩
structure Drw (w : World) (d : Nat) (v : Value) (l : List Int) (at_ : Nat) : Prop where
  cell : w.heap[d]? = some (.cells #[v, .int .i64 (at_ : Int)] 88 (0, 0))
  row : Kd.R (Kd.int .i64) 3 w 0 (fun _ => True) v l
  lt : l.length ≠ 0 → at_ < l.length
theorem blk_types {w : World} {a b : Nat} {x y : Array Value} {s t : Nat} {f g : Nat × Nat} (h1 : w.heap[a]? = some (.cells x s f)) (h2 : w.heap[b]? = some (.cells y t g)) (hn : s ≠ t) : a ≠ b := by
  rintro rfl
  rw [h1] at h2
  injection h2 with h2
  injection h2 with _ h2
  exact hn h2
theorem Drw.kept {w W : World} {d at_ : Nat} {v : Value} {l : List Int} {S : Nat → Prop} (h : Drw w d v l at_) (hk : Kept w W S) (hn : ¬ S d) (hv : ∀ q, Blk v q → ¬ S q) : Drw W d v l at_ := ⟨blk_kept h.cell hk hn, R_kept rfl h.row hk hv, h.lt⟩
theorem Drw.vd {w : World} {d at_ : Nat} {v : Value} {l : List Int} (h : Drw w d v l at_) (q : Nat) (hq : Blk v q) : ¬ q = d := by
  obtain ⟨inner, ho⟩ := h.row.2
  obtain ⟨cells, hc⟩ := own_typed ho.1 q hq
  exact blk_types hc h.cell (by decide)
set_option maxHeartbeats 4000000 in
theorem draw_calls (A : Option Addr) (c : Nat) (l : List Int) (w : World) (hr : Kd.C (Kd.int .i64) w A l.length l) (hc : l.length ≤ c) (hl : l.length < 4398046511104) :
    Calls Tryd.prog 22 #[.slice A l.length c] w fun e w' => ∃ d v, e = .returned (.pointer (some ⟨d, 0, none⟩)) ∧ Drw w' d v l 0 ∧ w.heap.size ≤ d ∧ Below w.heap.size w w' := by
  have e45 : ∀ args w, (callFunc 45 args).run Tryd.prog w = .ok (.enter 45 args) w := enters_of Tryd.func45 (by kernel_rfl) rfl
  have HK := Aside0.mk (cloneI_calls A c l w hr hc hl)
  clear hr hc hl
  go_enter Tryd.func22, Tryd.ntmps22
  go_wp2_with (first | (go_at_fn 45; refine HK.out.mono ?_; rintro e w1 ⟨v, rfl, hr, hb⟩; obtain ⟨A1, c1, rfl⟩ := Kd.R_slice hr; have HC := Aside0.mk hr; have HB := Aside0.mk hb; clear hr hb) | ((with_reducible refine gate_dst (N := 6) rfl ?_); refine box_event ?hg (N := 6) ?hd (cs := #[.slice A1 l.length c1, .int .i64 0]) (t := 88) ?hr ?_; (case hd => rfl); (case hg => rfl); (case hr => first | (go_simp; done) | (go_simp; rfl)); intro d hg w2 hbox hb2; have HX := Aside0.mk hbox; have HB2 := Aside0.mk hb2; have HG := Aside0.mk hg; clear hbox hb2 hg))
  go_ret
  refine ⟨d, _, rfl, ⟨HX.out, Kd.R_lower (Kd.R_below HC.out HB2.out) (Nat.zero_le _), fun h => Nat.pos_of_ne_zero h⟩, ?_, below_step HB.out HB2.out⟩
  have h1 := HB.out.size
  have h2 := HG.out
  omega
theorem CI_at {w : World} {A : Option Addr} {n : Nat} {xs : List Int} (h : Kd.C (Kd.int .i64) w A n xs) (j : Nat) (hj : j < xs.length) : ∃ ad, A = some ad ∧ w.cell? (ad.add j) = some (.int .i64 xs[j]) := by
  have hl := h.1
  obtain ⟨ad, e, hc⟩ := h.2.2 (by omega)
  obtain ⟨cs, h1, h2, h3⟩ := hc j _ (List.getElem?_eq_getElem hj)
  have e2 : cs = [.int .i64 xs[j]] := h2
  have h4 := h3 0 _ (by rw [e2]; rfl)
  rw [show (Kd.int .i64).sz = 1 from rfl, Nat.mul_one, Nat.add_zero] at h4
  exact ⟨ad, e, h4⟩
def drawnBy (y b : Int) : Int := wrap64 ((IntKind.u64.wrap y).tmod b)
def nextV (l : List Int) (at_ : Nat) (b : Int) : Int := if l.length = 0 ∨ b < 1 then 0 else drawnBy (l.getD at_ 0) b
def nextAt (l : List Int) (at_ : Nat) (b : Int) : Nat := if l.length = 0 ∨ b < 1 then at_ else (at_ + 1) % l.length
set_option maxHeartbeats 4000000 in
set_option maxRecDepth 100000 in
theorem next_none (d at_ : Nat) (v : Value) (l : List Int) (w : World) (hd : Drw w d v l at_) (b : Int) (h : l.length = 0 ∨ b < 1) :
    Calls Tryd.prog 46 #[.pointer (some ⟨d, 0, none⟩), .int .i64 b] w fun e w' => e = .returned (.int .i64 0) ∧ w' = w := by
  obtain ⟨A, c, rfl⟩ := Kd.R_slice hd.row
  have hg0 : w.cell? ⟨d, 0, none⟩ = some (.slice A l.length c) := (blk_cell hd.cell 0).trans rfl
  by_cases h0 : l.length = 0
  · have h0z : ((l.length : Nat) : Int) = 0 := by omega
    rw [h0] at hg0
    go_enter Tryd.func46, Tryd.ntmps46
    go_wp2
    go_ret
    exact ⟨rfl, rfl⟩
  · have h0z : ¬ ((l.length : Nat) : Int) = 0 := by omega
    have hb : b < 1 := by rcases h with h | h; exact absurd h h0; exact h
    go_enter Tryd.func46, Tryd.ntmps46
    go_wp2
    go_ret
    exact ⟨rfl, rfl⟩
set_option maxHeartbeats 4000000 in
set_option maxRecDepth 100000 in
theorem next_some (d at_ : Nat) (v : Value) (l : List Int) (w : World) (hd : Drw w d v l at_) (b : Int) (h0 : l.length ≠ 0) (hb1 : ¬ b < 1) (hbw : b ≤ 9223372036854775807) :
    Calls Tryd.prog 46 #[.pointer (some ⟨d, 0, none⟩), .int .i64 b] w fun e w' => e = .returned (.int .i64 (drawnBy (l.getD at_ 0) b)) ∧ Drw w' d v l ((at_ + 1) % l.length) ∧ Wr w (fun k => k = d) w' := by
  have hlt := hd.lt h0
  have HD := Aside0.mk hd
  obtain ⟨A, c, rfl⟩ := Kd.R_slice hd.row
  have hrow := (Kd.R_reads' hd.row).2.2
  have hmx : l.length ≤ 9223372036854775807 := hrow.2.1
  have hg0 : w.cell? ⟨d, 0, none⟩ = some (.slice A l.length c) := (blk_cell hd.cell 0).trans rfl
  have hg1 : w.cell? ⟨d, 1, none⟩ = some (.int .i64 (at_ : Int)) := (blk_cell hd.cell 1).trans rfl
  have hf1 := blk_frozen hd.cell 1
  have h0z : ¬ ((l.length : Nat) : Int) = 0 := by omega
  have hltz : (at_ : Int) < (l.length : Int) := by omega
  obtain ⟨ad, e, hx0⟩ := CI_at hrow at_ hlt
  have ey : l.getD at_ 0 = l[at_] := by rw [List.getD_eq_getElem?_getD, List.getElem?_eq_getElem hlt]; rfl
  rw [ey]
  generalize l[at_] = y at hx0
  subst e
  clear hd ey hrow
  go_enter Tryd.func46, Tryd.ntmps46
  go_wp2_with fail
  go_quiet (fail)
  go_wp2_with fail
  go_region
  go_wp2_with fail
  go_ret
  have hbd : Below w.heap.size w (w.drewN (nq + 1)) := pw_below_drewN (Below.refl _ _) _
  have hwr : Wr w (fun k => k = d) ((w.drewN (nq + 1)).setCell ⟨d, 1, none⟩ (.int .i64 (((at_ : Int) + 1) % (l.length : Int)))) := (Wr.of_below hbd (fun k => k = d)).set (.inl rfl) 1 _
  exact ⟨rfl, ⟨blk_put (blk_below HD.out.cell hbd) 1 _ rfl, R_kept rfl HD.out.row hwr.kept HD.out.vd, fun h => Nat.mod_lt _ (by omega)⟩, hwr⟩
theorem next_calls (d at_ : Nat) (v : Value) (l : List Int) (w : World) (hd : Drw w d v l at_) (b : Int) (hbw : b ≤ 9223372036854775807) :
    Calls Tryd.prog 46 #[.pointer (some ⟨d, 0, none⟩), .int .i64 b] w fun e w' => e = .returned (.int .i64 (nextV l at_ b)) ∧ Drw w' d v l (nextAt l at_ b) ∧ Wr w (fun k => k = d) w' := by
  by_cases h : l.length = 0 ∨ b < 1
  · rw [nextV, nextAt, if_pos h, if_pos h]
    refine (next_none d at_ v l w hd b h).mono ?_
    rintro e w' ⟨rfl, rfl⟩
    exact ⟨rfl, hd, Wr.refl _ _⟩
  · rw [nextV, nextAt, if_neg h, if_neg h]
    exact next_some d at_ v l w hd b (fun e => h (.inl e)) (fun e => h (.inr e)) hbw
def clamp (n : Int) : Int := if n < 0 then 0 else if 1048576 < n then 1048576 else n
theorem clamp_ge (n : Int) : 0 ≤ clamp n := by unfold clamp; split; omega; split <;> omega
theorem clamp_le (n : Int) : clamp n ≤ 1048576 := by unfold clamp; split; omega; split <;> omega
section
attribute [local go_sem] max2_int min2_int max_two min_two max_three min_three max_four min_four
set_option maxHeartbeats 400000 in
set_option maxRecDepth 100000 in
theorem jitter_calls (pv : Value) (V : Int) (Q : World → Prop) (w : World) (n : Int) (hv : 0 ≤ V ∧ V ≤ 1048576) (hk : Calls Tryd.prog 46 #[pv, .int .i64 (clamp n / 2 + 1)] w fun e w' => e = .returned (.int .i64 V) ∧ Q w') :
    Calls Tryd.prog 23 #[pv, .int .i64 n] w fun e w' => e = .returned (.int .i64 (clamp n + V)) ∧ Q w' := by
  have e8 : ∀ args w, (callFunc 46 args).run Tryd.prog w = .ok (.enter 46 args) w := enters_of Tryd.func46 (by kernel_rfl) rfl
  have h0 := clamp_ge n
  have h1 := clamp_le n
  obtain ⟨hv1, hv2⟩ := hv
  have HC : Aside0 (clamp n = if n < 0 then 0 else if 1048576 < n then 1048576 else n) := ⟨rfl⟩
  generalize clamp n = x at *
  by_cases c1 : n < 0
  · have hx : x = 0 := by rw [HC.out, if_pos c1]
    rw [hx, show (0 : Int) / 2 + 1 = 1 by decide] at hk
    rw [hx, Int.zero_add]
    have HK := Aside0.mk hk
    clear hk hx HC h0 h1
    go_enter Tryd.func23, Tryd.ntmps23
    go_wp2_with (go_at_fn 46; refine HK.out.mono ?_; rintro e w1 ⟨rfl, hq⟩; have HQ := Aside0.mk hq; clear hq)
    go_ret
    exact ⟨rfl, HQ.out⟩
  · by_cases c2 : 1048576 < n
    · have hx : x = 1048576 := by rw [HC.out, if_neg c1, if_pos c2]
      rw [hx, show (1048576 : Int) / 2 + 1 = 524289 by decide] at hk
      rw [hx]
      have HK := Aside0.mk hk
      clear hk hx HC h0 h1
      go_enter Tryd.func23, Tryd.ntmps23
      go_wp2_with (go_at_fn 46; refine HK.out.mono ?_; rintro e w1 ⟨rfl, hq⟩; have HQ := Aside0.mk hq; clear hq)
      go_ret
      exact ⟨rfl, HQ.out⟩
    · have hx : x = n := by rw [HC.out, if_neg c1, if_neg c2]
      rw [hx] at hk
      rw [hx]
      have HK := Aside0.mk hk
      clear hk hx HC h0 h1
      go_enter Tryd.func23, Tryd.ntmps23
      go_wp2_with (go_at_fn 46; refine HK.out.mono ?_; rintro e w1 ⟨rfl, hq⟩; have HQ := Aside0.mk hq; clear hq)
      go_ret
      exact ⟨rfl, HQ.out⟩
end
theorem drawnBy_range (y b : Int) (h : 1 ≤ b) (h2 : b ≤ 1048576) : 0 ≤ drawnBy y b ∧ drawnBy y b < b := by
  unfold drawnBy
  have h0 : 0 ≤ IntKind.u64.wrap y := by rw [IntKind.wrap_u64]; omega
  have h1 : 0 ≤ (IntKind.u64.wrap y).tmod b := by rw [Int.tmod_eq_emod_of_nonneg h0]; exact Int.emod_nonneg _ (by omega)
  have h3 : (IntKind.u64.wrap y).tmod b < b := by rw [Int.tmod_eq_emod_of_nonneg h0]; exact Int.emod_lt_of_pos _ (by omega)
  generalize (IntKind.u64.wrap y).tmod b = z at *
  have : wrap64 z = z := by unfold wrap64; omega
  omega
def jit (l : List Int) (at_ : Nat) : Int := 60 + nextV l at_ 31
theorem nextV_range (l : List Int) (at_ : Nat) : 0 ≤ nextV l at_ 31 ∧ nextV l at_ 31 ≤ 1048576 := by
  unfold nextV
  split
  · omega
  · have := drawnBy_range (l.getD at_ 0) 31 (by decide) (by decide); omega
theorem jit_calls (d at_ : Nat) (v : Value) (l : List Int) (w : World) (hd : Drw w d v l at_) :
    Calls Tryd.prog 23 #[.pointer (some ⟨d, 0, none⟩), .int .i64 60] w fun e w' => e = .returned (.int .i64 (jit l at_)) ∧ Drw w' d v l (nextAt l at_ 31) ∧ Wr w (fun k => k = d) w' :=
  jitter_calls _ _ _ w 60 (nextV_range l at_) (next_calls d at_ v l w hd 31 (by decide))
end Go.Proofs.YtkahciadkgjbbaaDoor.QPty
namespace Go.Proofs.YtkahciadkgjbbaaDoor.QPty
open Go.RowKit Go.Proofs.YtkahciadkgjbbaaDoorW.PrintWords Go.Proofs.YtkahciadkgjbbaaDoorW.PrintLast Go.Proofs.YtkahciadkgjbbaaDoorW.PrintMore Gen
set_option linter.unusedVariables false
set_option linter.unusedSimpArgs false
structure Ent where
  sb : Nat
  rb : Nat
  a0 : Int
  a1 : Int
  st : Nat
  born : Int
  rg : RG
deriving DecidableEq
abbrev pv (e : Ent) : Value := .pointer (some ⟨e.sb, 0, none⟩)
def kE : Kd Ent := Kd.scalar pv (fun _ => rfl)
abbrev Ent.sl (e : Ent) : SL := ⟨e.a0, e.a1, e.rb, e.st, e.born⟩
structure EntAt (w : World) (e : Ent) : Prop where
  sl : SlAt w e.sb e.sl
  rg : RgAt w e.rb e.rg
theorem EntAt.kept {w W : World} {S : Nat → Prop} {e : Ent} (h : EntAt w e) (hk : Kept w W S) (h1 : ¬ S e.sb) (h2 : ¬ S e.rb) : EntAt W e := ⟨blk_kept h.sl hk h1, blk_kept h.rg hk h2⟩
theorem EntAt.below {w W : World} {e : Ent} (h : EntAt w e) (hb : Below w.heap.size w W) : EntAt W e := ⟨blk_below h.sl hb, blk_below h.rg hb⟩
theorem grownBy_sets (b : Nat) : ∀ (vs : List Value) (o : Nat) (W : World), W.grownBy (W.setCells b o vs) (some b)
  | [], _, W => World.grownBy.refl _ _
  | v :: r, o, W => Gen.grownBy_trans (grownBy_set W b o v) (grownBy_sets b r (o + 1) _)
theorem sets_blk (b : Nat) {t : TypeId} : ∀ (vs : List Value) (o : Nat) (W : World) (cur : Array Value), W.heap[b]? = some (.cells cur t (0, 0)) → o + vs.length ≤ cur.size →
    ∃ cur' : Array Value, (W.setCells b o vs).heap[b]? = some (.cells cur' t (0, 0)) ∧ cur'.size = cur.size ∧ ∀ q, cur'[q]? = if o ≤ q ∧ q < o + vs.length then vs[q - o]? else cur[q]?
  | [], o, W, cur, h, _ => ⟨cur, h, rfl, fun q => by rw [if_neg (by simp)]⟩
  | v :: r, o, W, cur, h, hl => by
    simp only [List.length_cons] at hl
    obtain ⟨cur', h1, h2, h3⟩ := sets_blk b r (o + 1) (W.setCell ⟨b, o, none⟩ v) (cur.setIfInBounds o v) (blk_put h o v rfl) (by rw [Array.size_setIfInBounds]; omega)
    refine ⟨cur', h1, by rw [h2, Array.size_setIfInBounds], fun q => ?_⟩
    rw [h3]
    simp only [List.length_cons]
    by_cases c : o + 1 ≤ q ∧ q < o + 1 + r.length
    · rw [if_pos c, if_pos (by omega), show q - o = (q - (o + 1)) + 1 by omega, List.getElem?_cons_succ]
    · rw [if_neg c]
      by_cases e : q = o
      · subst e
        rw [if_pos (by omega), Nat.sub_self, Array.getElem?_setIfInBounds_self_of_lt (by omega)]; rfl
      · rw [if_neg (by omega), Array.getElem?_setIfInBounds_ne (by omega)]
structure Row (w : World) (blk cap : Nat) (xs : List Value) (W : World) : Prop where
  grown : w.grownBy W (some blk)
  cells : ∃ cur : Array Value, W.heap[blk]? = some (.cells cur 63 (0, 0)) ∧ cur.size = cap ∧ cur.toList.take xs.length = xs
  fits : xs.length ≤ cap
namespace Row
variable {w W W2 : World} {blk cap : Nat} {xs : List Value}
theorem spare (h : Row w blk cap xs W) (q : Nat) (hq : q < cap) : (W.cell? ⟨blk, q, none⟩).isSome = true ∧ W.frozen? ⟨blk, q, none⟩ = false := by
  obtain ⟨cur, hb, hs, ht⟩ := h.cells
  rw [blk_cell hb, Array.getElem?_eq_getElem (by omega)]
  exact ⟨rfl, blk_frozen hb _⟩
theorem cell (h : Row w blk cap xs W) (q : Nat) (v : Value) (hq : xs[q]? = some v) : W.cell? ⟨blk, q, none⟩ = some v := by
  obtain ⟨cur, hb, hs, ht⟩ := h.cells
  have hlt : q < xs.length := (List.getElem?_eq_some_iff.1 hq).1
  rw [blk_cell hb, ← hq, ← Array.getElem?_toList, ← List.getElem?_take_of_lt (l := cur.toList) hlt, ht]
theorem lt (h : Row w blk cap xs W) : blk < W.heap.size := by obtain ⟨cur, hb, _⟩ := h.cells; exact blk_lt hb
theorem below (h : Row w blk cap xs W) (hb : Below W.heap.size W W2) : Row w blk cap xs W2 := by
  obtain ⟨cur, hc, hs, ht⟩ := h.cells
  exact ⟨Gen.grownBy_trans h.grown (grownBy_below hb), ⟨cur, blk_below hc hb, hs, ht⟩, h.fits⟩
theorem drew (h : Row w blk cap xs W) : Row w blk cap xs W.drew := h.below (below_drew1 (Below.refl _ _))
theorem take (h : Row w blk cap xs W) (m : Nat) : Row w blk cap (xs.take m) W := by
  obtain ⟨cur, hc, hs, ht⟩ := h.cells
  refine ⟨h.grown, ⟨cur, hc, hs, ?_⟩, by have := h.fits; rw [List.length_take]; omega⟩
  rw [List.length_take]
  have e : xs.take m = cur.toList.take (min m xs.length) := by rw [← List.take_take, ht]
  exact e.symm
theorem write (h : Row w blk cap xs W) (s : Nat) (ys : List Value) (hs : s ≤ xs.length) (hc : s + ys.length ≤ cap) : Row w blk cap (xs.take s ++ ys ++ xs.drop (s + ys.length)) (W.setCells blk s ys) := by
  obtain ⟨cur, hb, hz, ht⟩ := h.cells
  have hf := h.fits
  obtain ⟨cur', h1, h2, h3⟩ := sets_blk blk ys s W cur hb (by omega)
  have hl : (xs.take s ++ ys ++ xs.drop (s + ys.length)).length ≤ cap := by simp; omega
  refine ⟨Gen.grownBy_trans h.grown (grownBy_sets blk _ _ W), ⟨cur', h1, by omega, ?_⟩, hl⟩
  apply List.ext_getElem?
  intro q
  have hlt : (xs.take s).length = s := by rw [List.length_take]; omega
  by_cases hq : q < (xs.take s ++ ys ++ xs.drop (s + ys.length)).length
  · rw [List.getElem?_take_of_lt hq, Array.getElem?_toList, h3 q]
    by_cases c : s ≤ q ∧ q < s + ys.length
    · rw [if_pos c, List.append_assoc, List.getElem?_append_right (by omega), hlt, List.getElem?_append_left (by omega)]
    · rw [if_neg c]
      have old : ∀ q, q < xs.length → cur[q]? = xs[q]? := fun q hq => by
        rw [← Array.getElem?_toList, ← List.getElem?_take_of_lt (l := cur.toList) hq, ht]
      by_cases c2 : q < s
      · rw [old q (by omega), List.append_assoc, List.getElem?_append_left (by omega), List.getElem?_take_of_lt (by omega)]
      · rw [List.getElem?_append_right (by simp; omega), List.length_append, hlt, List.getElem?_drop, show s + ys.length + (q - (s + ys.length)) = q by omega]
        have : q < xs.length := by simp at hq; omega
        rw [old q (by omega)]
  · rw [List.getElem?_eq_none (by rw [List.length_take]; omega), List.getElem?_eq_none (by omega)]
theorem set (h : Row w blk cap xs W) (i : Nat) (hi : i < xs.length) (x : Value) : Row w blk cap (xs.set i x) (W.setCell ⟨blk, i, none⟩ x) := by
  have := h.write i [x] (by omega) (by have := h.fits; simp; omega)
  have e : xs.take i ++ [x] ++ xs.drop (i + [x].length) = xs.set i x := by
    rw [List.set_eq_take_append_cons_drop, if_pos hi]; simp
  rw [e] at this
  exact this
end Row
abbrev RE (w : World) (u : Value) (l : List Ent) : Prop := Kd.R kE 63 w 0 (fun _ => True) u l
theorem flat_pv (l : List Ent) : flat (fun e : Ent => [pv e]) l = l.map pv := by
  induction l with
  | nil => rfl
  | cons x r ih => rw [flat_cons, ih]; rfl
theorem Row.toR {w W : World} {blk cap : Nat} {l : List Ent} (h : Row w blk cap (l.map pv) W) (hm : cap ≤ maxLen) : RE W (.slice (some ⟨blk, 0, none⟩) l.length cap) l := by
  obtain ⟨cur, hb, hz, ht⟩ := h.cells
  have hf := h.fits
  rw [List.length_map] at ht hf
  exact Own.toR (enc := fun e : Ent => [pv e]) (k := 1) (d := kE) ⟨⟨cur, hb, by omega, by rw [Nat.mul_one, ht, flat_pv]⟩, hf⟩ (fun _ => rfl) rfl (fun _ _ _ _ => rfl) (Nat.zero_le _) trivial hm
theorem Row.ofR {w : World} {u : Value} {l : List Ent} (h : RE w u l) : (u = .slice none 0 0 ∧ l = []) ∨ ∃ b cap, u = .slice (some ⟨b, 0, none⟩) l.length cap ∧ cap ≤ maxLen ∧ Row w b cap (l.map pv) w := by
  rcases Own.ofR (enc := fun e : Ent => [pv e]) (k := 1) (fun _ => rfl) rfl (fun w base ok x cs h => h) h with h | ⟨b, cap, e, _, _, hm, ho⟩
  · exact .inl h
  · obtain ⟨cur, hb, hs, ht⟩ := ho.cells
    refine .inr ⟨b, cap, e, hm, World.grownBy.refl _ _, ⟨cur, hb, by omega, ?_⟩, by rw [List.length_map]; exact ho.fits⟩
    rw [List.length_map, ← flat_pv, ← ht, Nat.mul_one]
abbrev PredOf (g : Nat) (l : List Ent) (p : Ent → Bool) (M : World → Prop) : Prop := ∀ (x : Ent) (W : World), x ∈ l → M W →
    Calls Tryd.prog g #[pv x] W fun e w' => e = .returned (.bool (p x)) ∧ Below W.heap.size W w'
def ixP (l : List Ent) (p : Ent → Bool) : Int := match l.findIdx? p with | some j => (j : Int) | none => -1
theorem ixP_hit {l : List Ent} {p : Ent → Bool} {j : Nat} (hj : j < l.length) (h : p l[j] = true) (hb : ∀ i, (hi : i < j) → p l[i] = false) : ixP l p = (j : Int) := by
  unfold ixP
  have : l.findIdx? p = some j := List.findIdx?_eq_some_iff_getElem.2 ⟨hj, h, fun i hi => by simpa using hb i hi⟩
  rw [this]
theorem ixP_miss {l : List Ent} {p : Ent → Bool} (hb : ∀ i, (hi : i < l.length) → p l[i] = false) : ixP l p = -1 := by
  unfold ixP
  have : l.findIdx? p = none := by
    rw [List.findIdx?_eq_none_iff]
    intro x hx
    obtain ⟨i, hi, rfl⟩ := List.getElem_of_mem hx
    exact hb i hi
  rw [this]
theorem ixP_cases (l : List Ent) (p : Ent → Bool) : (ixP l p = -1 ∧ ∀ i, (hi : i < l.length) → p l[i] = false) ∨ ∃ j : Nat, ixP l p = (j : Int) ∧ ∃ hj : j < l.length, p l[j] = true ∧ ∀ i, (hi : i < l.length) → i < j → p l[i] = false := by
  unfold ixP
  cases h : l.findIdx? p with
  | none =>
    rw [List.findIdx?_eq_none_iff] at h
    exact .inl ⟨rfl, fun i hi => h l[i] (by simp)⟩
  | some j =>
    obtain ⟨hj, hp, hb⟩ := List.findIdx?_eq_some_iff_getElem.1 h
    exact .inr ⟨j, rfl, hj, hp, fun i hi hij => by simpa using hb i hij⟩
set_option maxHeartbeats 4000000 in
set_option maxRecDepth 100000 in
theorem index_none (g : Nat) (w : World) :
    Calls Tryd.prog 78 #[.slice none 0 0, .func (.func g) #[] #[]] w fun e w' => e = .returned (.int .i64 (-1)) ∧ Below w.heap.size w w' := by
  go_enter Tryd.func78, Tryd.ntmps78
  go_wp2
  go_loopg [5, 8] 0 (fun gg _ s8 wr => s8 = .int .i64 0 ∧ Aside0 (Below w.heap.size w wr))
  case atStart => exact ⟨rfl, ⟨Below.refl _ w⟩⟩
  case round =>
    obtain ⟨rfl, BW⟩ := hrel
    go_wp2
    go_ret
    exact ⟨rfl, BW.out⟩
set_option maxHeartbeats 4000000 in
set_option maxRecDepth 100000 in
theorem index_calls (g : Nat) (p : Ent → Bool) (M : World → Prop) (blk cap c : Nat) (l : List Ent) (hp : PredOf g l p M) (hM : ∀ W W', M W → Below W.heap.size W W' → M W') (eg : ∀ args w, (callFunc g args).run Tryd.prog w = .ok (.enter g args) w) (w0 w : World) (hk : M w) (hr : Row w0 blk cap (l.map pv) w) (hmx : l.length ≤ 9223372036854775807) :
    Calls Tryd.prog 78 #[.slice (some ⟨blk, 0, none⟩) l.length c, .func (.func g) #[] #[]] w fun e w' => e = .returned (.int .i64 (ixP l p)) ∧ Below w.heap.size w w' := by
  have HK := Aside0.mk hk
  have HR := Aside0.mk hr
  have HP := Aside0.mk hp
  have HM := Aside0.mk hM
  clear hk hr hp hM
  go_enter Tryd.func78, Tryd.ntmps78
  go_wp2
  go_loopg [5, 8] l.length (fun gg _ s8 wr => ∃ kk : Nat, kk ≤ l.length ∧ l.length - kk ≤ gg ∧ s8 = .int .i64 kk ∧ Aside0 (Below w.heap.size w wr) ∧ Aside0 (∀ i, (hi : i < l.length) → i < kk → p l[i] = false))
  case atStart => exact ⟨0, Nat.zero_le _, by omega, rfl, ⟨Below.refl _ w⟩, ⟨fun j hj h0 => absurd h0 (Nat.not_lt_zero _)⟩⟩
  case round =>
    obtain ⟨kk, hkk, hg, rfl, BW, AA⟩ := hrel
    by_cases hlt : kk < l.length
    · have hltz : (kk : Int) < (l.length : Int) := by omega
      have hx0 : wr.cell? ⟨blk, kk, none⟩ = some (pv l[kk]) := (HR.out.below BW.out).cell kk _ (by rw [List.getElem?_map, List.getElem?_eq_getElem hlt]; rfl)
      have hcall := HP.out l[kk] wr (List.getElem_mem hlt) (HM.out _ _ HK.out BW.out)
      have hdec : p l[kk] = true ∨ p l[kk] = false := by cases p l[kk] <;> simp
      dsimp only [pv] at hx0 hcall
      rcases hdec with hd | hd
      · rw [hd] at hcall
        go_wp2_with (go_at_fn g; refine hcall.mono ?_; rintro e w' ⟨rfl, hb'⟩; have HB2 := Aside0.mk (below_step BW.out hb'); clear hb')
        go_ret
        refine ⟨?_, by repeat (first | exact HB2.out | apply below_alloc | apply pw_below_drewN | apply below_drew1)⟩
        rw [ixP_hit hlt hd (fun i hi => AA.out i (by omega) hi)]
        rfl
      · rw [hd] at hcall
        go_wp2_with (go_at_fn g; refine hcall.mono ?_; rintro e w' ⟨rfl, hb'⟩; have HB2 := Aside0.mk (below_step BW.out hb'); clear hb')
        go_roundg (l.length - (kk + 1))
        case measure => omega
        case rel =>
          refine ⟨kk + 1, by omega, by omega, by go_num, ⟨by repeat (first | exact HB2.out | apply below_alloc | apply pw_below_drewN | apply below_drew1)⟩, ⟨fun j hj h1 => ?_⟩⟩
          by_cases e : j = kk
          · subst e; exact hd
          · exact AA.out j hj (by omega)
    · have e : kk = l.length := by omega
      subst e
      go_wp2
      go_ret
      refine ⟨?_, BW.out⟩
      rw [ixP_miss (fun i hi => AA.out i hi (by omega))]
      rfl
def dropP (l : List Ent) (p : Ent → Bool) : List Ent := l.filter fun x => !p x
theorem dropP_all {l : List Ent} {p : Ent → Bool} (h : ∀ i, (hi : i < l.length) → p l[i] = false) : dropP l p = l := by
  unfold dropP
  rw [List.filter_eq_self]
  intro x hx
  obtain ⟨i, hi, rfl⟩ := List.getElem_of_mem hx
  simpa using h i hi
structure Del (l : List Ent) (p : Ent → Bool) (i j : Nat) (d : List Ent) : Prop where
  len : d.length = l.length
  lt : i < j
  low : d.take i = dropP (l.take j) p
  cnt : (dropP (l.take j) p).length = i
  high : ∀ t, i ≤ t → d[t]? = l[t]?
theorem Del.start {l : List Ent} {p : Ent → Bool} {j : Nat} (hj : j < l.length) (hk : p l[j] = true) (hb : ∀ i, (hi : i < l.length) → i < j → p l[i] = false) : Del l p j (j + 1) l := by
  have e : dropP (l.take (j + 1)) p = l.take j := by
    rw [List.take_succ_eq_append_getElem hj]
    unfold dropP
    rw [List.filter_append, List.filter_cons_of_neg (by simpa using hk), List.filter_nil, List.append_nil]
    exact dropP_all fun i hi => by
      rw [List.getElem_take]
      exact hb i (by simp at hi; omega) (by simp at hi; omega)
  exact ⟨rfl, by omega, e.symm, by rw [e, List.length_take]; omega, fun _ _ => rfl⟩
theorem Del.skip {l d : List Ent} {p : Ent → Bool} {i j : Nat} (h : Del l p i j d) (hj : j < l.length) (hk : p l[j] = true) : Del l p i (j + 1) d := by
  have e : dropP (l.take (j + 1)) p = dropP (l.take j) p := by
    rw [List.take_succ_eq_append_getElem hj]
    unfold dropP
    rw [List.filter_append, List.filter_cons_of_neg (by simpa using hk), List.filter_nil, List.append_nil]
  exact ⟨h.len, by have := h.lt; omega, by rw [e]; exact h.low, by rw [e]; exact h.cnt, h.high⟩
theorem Del.keep {l d : List Ent} {p : Ent → Bool} {i j : Nat} (h : Del l p i j d) (hj : j < l.length) (hk : p l[j] = false) : Del l p (i + 1) (j + 1) (d.set i l[j]) := by
  have hl := h.len
  have hlt := h.lt
  have e : dropP (l.take (j + 1)) p = dropP (l.take j) p ++ [l[j]] := by
    rw [List.take_succ_eq_append_getElem hj]
    unfold dropP
    rw [List.filter_append, List.filter_cons_of_pos (by simpa using hk), List.filter_nil]
  refine ⟨by simp [hl], by omega, ?_, by rw [e, List.length_append, h.cnt]; rfl, fun t ht => ?_⟩
  · rw [e, ← h.low, List.take_succ_eq_append_getElem (by simp; omega), List.getElem_set_self, List.take_set_of_le (Nat.le_refl i)]
  · rw [List.getElem?_set_ne (by omega), h.high t (by omega)]
theorem clear63 {w W : World} {blk cap : Nat} {xs : List Value} (h : Row w blk cap xs W) (i c : Nat) (hi : i < xs.length) (ty : TypeId) :
    (Builtin.clear_ #[59] ty #[.slice (some ⟨blk, i, none⟩) (xs.length - i) c]).run Tryd.prog W = .ok (.tuple #[]) (W.setCells blk i (List.replicate (xs.length - i) (.pointer none))) := by
  have hf := h.fits
  have hst := run_storeCells_cells (P := Tryd.prog) blk i (List.replicate (xs.length - i) (.pointer none)) 0 W (fun j hj => (h.spare _ (by simp at hj; omega)).1) (fun j hj => (h.spare _ (by simp at hj; omega)).2) (fun v hv => by rw [List.eq_of_mem_replicate hv]; rfl)
  rw [Nat.add_zero] at hst
  obtain ⟨m, hm⟩ : ∃ m, xs.length - i = m + 1 := ⟨xs.length - i - 1, by omega⟩
  rw [hm] at hst ⊢
  have hz : (Builtin.zeroCells (Value.pointer none).cells (m + 1)).toList = List.replicate (m + 1) (.pointer none) := by
    apply List.ext_getElem?
    intro j
    by_cases hj : j < m + 1
    · rw [List.getElem?_replicate, if_pos hj]; simp [Builtin.zeroCells, Value.cells, hj, Nat.mod_one]
    · rw [List.getElem?_replicate, if_neg hj]; simp [Builtin.zeroCells, Value.cells]; omega
  simp [Builtin.clear_, run_underlying Tryd.underlying59, Tryd.zeroValue63, hz, hst]
set_option maxHeartbeats 8000000 in
set_option maxRecDepth 100000 in
theorem delete_row (g : Nat) (p : Ent → Bool) (M : World → Prop) (l : List Ent) (hp : PredOf g l p M) (eg : ∀ args w, (callFunc g args).run Tryd.prog w = .ok (.enter g args) w) (blk cap : Nat) (w : World) (hM : ∀ W W', M W → W.grownBy W' (some blk) → M W') (hm : cap ≤ 9223372036854775807)
    (hk : M w) (hr : Row w blk cap (l.map pv) w) :
    Calls Tryd.prog 57 #[.slice (some ⟨blk, 0, none⟩) l.length cap, .func (.func g) #[] #[]] w fun e w' => e = .returned (.slice (some ⟨blk, 0, none⟩) (dropP l p).length cap) ∧ Row w blk cap ((dropP l p).map pv) w' := by
  have hfit := hr.fits
  rw [List.length_map] at hfit
  have hmx : l.length ≤ 9223372036854775807 := by omega
  have e78 : ∀ args w, (callFunc 78 args).run Tryd.prog w = .ok (.enter 78 args) w := enters_of Tryd.func78 (by kernel_rfl) rfl
  have hMb : ∀ W W', M W → Below W.heap.size W W' → M W' := fun W W' h hb => hM W W' h (grownBy_below hb)
  have hIF := index_calls g p M blk cap cap l hp hMb eg w w hk hr hmx
  have HK := Aside0.mk hk
  have HR := Aside0.mk hr
  have HP := Aside0.mk hp
  have HM := Aside0.mk hM
  have HMB := Aside0.mk hMb
  clear hk hr hp hM hMb
  rcases ixP_cases l p with ⟨e, hall⟩ | ⟨j0, e, hj0, hkey, hbef⟩
  · rw [e] at hIF
    rw [dropP_all hall]
    go_enter Tryd.func57, Tryd.ntmps57
    go_wp2_with (go_at_fn 78; refine hIF.mono ?_; rintro e w' ⟨rfl, hb'⟩; have HB2 := Aside0.mk hb'; clear hb')
    go_ret
    exact ⟨rfl, HR.out.below HB2.out⟩
  · rw [e] at hIF
    have hn1 : ¬ ((j0 : Int) = -1) := by omega
    go_enter Tryd.func57, Tryd.ntmps57
    go_wp2_with (go_at_fn 78; refine hIF.mono ?_; rintro e w' ⟨rfl, hb'⟩; have HB2 := Aside0.mk hb'; clear hb')
    clear hIF
    go_loopg [5, 6, 7] l.length (fun gg s5 s6 _ wr => ∃ (i j : Nat) (d : List Ent), s5 = .int .i64 i ∧ s6 = .int .i64 j ∧ j ≤ l.length ∧ l.length - j ≤ gg ∧ Aside0 (Row w blk cap (d.map pv) wr) ∧ Aside0 (Del l p i j d))
    case atStart => exact ⟨j0, j0 + 1, l, rfl, by go_num, by omega, by omega, ⟨HR.out.below HB2.out⟩, ⟨Del.start hj0 hkey hbef⟩⟩
    case round =>
      obtain ⟨i, j, d, rfl, rfl, hjd, hgg, R2, D2⟩ := hrel
      have hdl := D2.out.len
      have hij := D2.out.lt
      by_cases hlt : j < l.length
      · have hltz : (j : Int) < (l.length : Int) := by omega
        have ej : d[j]'(by omega) = l[j] := by
          have := D2.out.high j (by omega)
          rw [List.getElem?_eq_getElem (by omega), List.getElem?_eq_getElem hlt] at this
          exact Option.some.inj this
        have cj0 : wr.cell? ⟨blk, j, none⟩ = some (pv l[j]) := R2.out.cell j _ (by rw [List.getElem?_map, List.getElem?_eq_getElem (by omega), ej]; rfl)
        obtain ⟨bb, hbb⟩ : ∃ bb, p l[j] = bb := ⟨_, rfl⟩
        have hcall : ∀ W, M W → Calls Tryd.prog g #[pv l[j]] W fun e w' => e = .returned (.bool bb) ∧ Below W.heap.size W w' := fun W hW => by
          have := HP.out l[j] W (List.getElem_mem hlt) hW
          rwa [hbb] at this
        have HKR := Aside0.mk (HM.out _ _ HK.out R2.out.grown)
        have HCL := Aside0.mk hcall
        clear hcall
        have hil : i < d.length := by omega
        have hilm : i < (d.map pv).length := by rw [List.length_map]; exact hil
        have HDN := Aside0.mk (fun (h : p l[j] = false) => D2.out.keep hlt h)
        have HDY := Aside0.mk (fun (h : p l[j] = true) => D2.out.skip hlt h)
        generalize l[j] = y at cj0 HCL hbb HDN HDY
        clear ej D2
        dsimp only [pv] at cj0
        cases bb with
        | false =>
          go_wp2_with (go_at_fn g; refine (HCL.out _ HKR.out).mono ?_; rintro e w2 ⟨rfl, hb2⟩; have R4 := Aside0.mk (R2.out.below hb2); have ci0 := R4.out.spare i (by have := R4.out.fits; rw [List.length_map] at this; omega); obtain ⟨old, ci1⟩ := Option.isSome_iff_exists.1 ci0.1; have fi0 := ci0.2; clear hb2 ci0)
          go_roundg (l.length - (j + 1))
          case measure => omega
          case rel =>
            refine ⟨i + 1, j + 1, d.set i y, by go_num, by go_num, by omega, Nat.le_refl _, ⟨?_⟩, ⟨HDN.out hbb⟩⟩
            rw [List.map_set]
            exact R4.out.set i hilm (pv y)
        | true =>
          go_wp2_with (go_at_fn g; refine (HCL.out _ HKR.out).mono ?_; rintro e w2 ⟨rfl, hb2⟩; have R4 := Aside0.mk (R2.out.below hb2); clear hb2)
          go_roundg (l.length - (j + 1))
          case measure => omega
          case rel => exact ⟨i, j + 1, d, rfl, by go_num, by omega, Nat.le_refl _, ⟨R4.out⟩, ⟨HDY.out hbb⟩⟩
      · have ejl : j = l.length := by omega
        subst ejl
        have hdm : (d.map pv).length = l.length := by rw [List.length_map]; exact hdl
        have hcl := fun c ty => clear63 R2.out i c (by omega) ty
        rw [hdm] at hcl
        have hlen : (dropP l p).length = i := by have := D2.out.cnt; rwa [List.take_of_length_le (Nat.le_refl _)] at this
        have hrow : Row w blk cap ((dropP l p).map pv) (wr.setCells blk i (List.replicate (l.length - i) (.pointer none))) := by
          have h1 := R2.out.write i (List.replicate (l.length - i) (.pointer none)) (by omega) (by simp; omega)
          have h2 := h1.take i
          rw [List.append_assoc, List.take_append_of_le_length (by simp; omega), List.take_take, Nat.min_self, ← List.map_take, D2.out.low, List.take_of_length_le (Nat.le_refl _)] at h2
          exact h2
        have HROW := Aside0.mk hrow
        clear hrow
        go_wp2
        go_ret
        exact ⟨by rw [hlen]; rfl, HROW.out⟩
set_option maxHeartbeats 4000000 in
theorem delete_none (g : Nat) (w : World) :
    Calls Tryd.prog 57 #[.slice none 0 0, .func (.func g) #[] #[]] w fun e w' => e = .returned (.slice none 0 0) ∧ Below w.heap.size w w' := by
  have e78 : ∀ args w, (callFunc 78 args).run Tryd.prog w = .ok (.enter 78 args) w := enters_of Tryd.func78 (by kernel_rfl) rfl
  have hIF := index_none g w
  go_enter Tryd.func57, Tryd.ntmps57
  go_wp2_with (go_at_fn 78; refine hIF.mono ?_; rintro e w' ⟨rfl, hb'⟩; have HB2 := Aside0.mk hb'; clear hb')
  go_ret
  exact ⟨rfl, HB2.out⟩
theorem delete_calls (g : Nat) (p : Ent → Bool) (M : World → Prop) (l : List Ent) (hp : PredOf g l p M) (eg : ∀ args w, (callFunc g args).run Tryd.prog w = .ok (.enter g args) w) (u : Value) (w : World) (hM2 : ∀ W, Wr w (Blk u) W → M W) (ho : RE w u l) :
    Calls Tryd.prog 57 #[u, .func (.func g) #[] #[]] w fun e w' => ∃ v, e = .returned v ∧ RE w' v (dropP l p) ∧ Wr w (Blk u) w' ∧ v.ownBlock = u.ownBlock := by
  rcases Row.ofR ho with ⟨rfl, rfl⟩ | ⟨b, cap, rfl, hm, hr⟩
  · refine (delete_none g w).mono ?_
    rintro e w' ⟨rfl, hbel⟩
    exact ⟨_, rfl, Kd.R_nil _ _ _ _ _, Wr.of_below hbel _, rfl⟩
  · have wr_of : ∀ {W}, w.grownBy W (some b) → Wr w (Blk (.slice (some ⟨b, 0, none⟩) l.length cap)) W := fun h => ⟨h.os, h.tape, h.output, h.size, fun q hq hn => h.block q hq (fun e => hn e.symm)⟩
    refine (delete_row g p (fun W => w.grownBy W (some b)) l (fun x W hx hW => hp x W hx (hM2 W (wr_of hW))) eg b cap w (fun W W' h hg => Gen.grownBy_trans h hg) (by unfold maxLen at hm; omega) (World.grownBy.refl _ _) hr).mono ?_
    rintro e w' ⟨rfl, hR⟩
    exact ⟨_, rfl, hR.toR hm, wr_of hR.grown, rfl⟩
end Go.Proofs.YtkahciadkgjbbaaDoor.QPty
namespace Go.Proofs.YtkahciadkgjbbaaDoor.QPty
open Go.RowKit Go.Proofs.YtkahciadkgjbbaaDoorW.PrintWords Go.Proofs.YtkahciadkgjbbaaDoorW.PrintLast Go.Proofs.YtkahciadkgjbbaaDoorW.PrintMore
attribute [local go_sem] max2_int min2_int max_two min_two max_three min_three max_four min_four
set_option linter.unusedVariables false
set_option linter.unusedSimpArgs false
def cmp_Or_int.l0 : Nat → Int → List Int → Int → Int → Option (Int)
  | 0, _, _, _, _ => none
  | k + 1, x3, x6, x7, x8 => if x8 < x7 then (if 0 ≤ x8 then (if x8 < (x6.length : Int) then (if (rd x6 x8) = x3 then (cmp_Or_int.l0 k x3 x6 x7 (wrap64 (x8 + 1))) else (some (rd x6 x8))) else (none)) else (none)) else (some x3)
def cmp_Or_int.f (k : Nat) (l0 : List Int) : Option (Int) := cmp_Or_int.l0 k 0 l0 (l0.length : Int) 0
set_option maxHeartbeats 8000000 in
set_option maxRecDepth 100000 in
theorem cmp_Or_int.calls (k : Nat) (A0 : Option Addr) (c0 : Nat) (l0 : List Int) (r : Int) (w : World) (hr0 : Kd.C (Kd.int .i64) w A0 l0.length l0) (hc0 : l0.length ≤ c0) (h : cmp_Or_int.f k l0 = some r) :
    Calls Tryd.prog 72 #[.slice A0 l0.length c0] w fun e w' => e = .returned (.int .i64 r) ∧ Drawn0 w w' := by
  have HR0 := Aside0.mk hr0
  have HC0 := Aside0.mk hc0
  clear hr0 hc0
  have H : (cmp_Or_int.l0 k 0 l0 (l0.length : Int) 0) = some r := h
  clear h
  have H' := Aside0.mk H
  clear H
  go_enter Tryd.func72, Tryd.ntmps72
  go_wp2
  go_loopg [8] k (fun kq v8 w' => ∃ (x8_1 : Int), v8 = .int .i64 x8_1 ∧ Aside0 (cmp_Or_int.l0 kq 0 l0 (l0.length : Int) x8_1 = some r) ∧ Aside0 (kq ≤ k) ∧ Drawn0 w w')
  case atStart => exact ⟨(0), (by first | rfl | (simp; done) | (simp [*]; done)), H', ⟨Nat.le_refl _⟩, by repeat (first | exact Drawn0.refl _ | apply Drawn0.step)⟩
  case round =>
    clear H'
    obtain ⟨x8_1, rfl, HA, HK1, ⟨m1, rfl⟩⟩ := hrel
    cases gk with
    | zero => exact absurd HA.out (by simp [cmp_Or_int.l0])
    | succ k1 =>
      have H := HA.out
      clear HA
      simp only [cmp_Or_int.l0] at H
      by_cases c2 : x8_1 < (l0.length : Int)
      · rw [if_pos c2] at H
        have c2b0 : decide (x8_1 < (l0.length : Int)) = true := decide_eq_true c2
        clear c2
        by_cases c3 : 0 ≤ x8_1
        · rw [if_pos c3] at H
          have c3b0 : decide (0 ≤ x8_1) = true := decide_eq_true c3
          clear c3
          by_cases c4 : x8_1 < (l0.length : Int)
          · rw [if_pos c4] at H
            have c4b0 : decide (x8_1 < (l0.length : Int)) = true := decide_eq_true c4
            clear c4
            by_cases c5 : (rd l0 x8_1) = 0
            · rw [if_pos c5] at H
              have c5b0 : ((rd l0 x8_1) == 0) = true := beq_iff_eq.mpr c5
              have c5b1 : ((rd l0 x8_1) != 0) = false := bne_eq_false_iff_eq.mpr c5
              clear c5
              have H' := Aside0.mk H
              clear H
              have p288 : 0 ≤ (x8_1 : Int) := of_decide_eq_true (by first | (with_reducible assumption) | assumption)
              have q288 : x8_1 < (l0.length : Int) := of_decide_eq_true (by first | (with_reducible assumption) | assumption)
              obtain ⟨ad288, e288, hx288_0⟩ := Kd.at_int HR0.out x8_1 p288 q288
              cases e288
              replace p288 := eq_true p288
              replace q288 := eq_true q288
              go_wp2
              go_roundg k1
              case measure => have := HK1.out; omega
              case rel => exact ⟨(wrap64 (x8_1 + 1)), (by first | rfl | (simp; done) | (simp [*]; done)), H', ⟨by have := HK1.out; omega⟩, by repeat (first | exact Drawn0.refl _ | apply Drawn0.step)⟩
            · rw [if_neg c5] at H
              have c5b0 : ((rd l0 x8_1) == 0) = false := beq_eq_false_iff_ne.mpr c5
              have c5b1 : ((rd l0 x8_1) != 0) = true := bne_iff_ne.mpr c5
              obtain rfl := Option.some.inj H
              have p288 : 0 ≤ (x8_1 : Int) := of_decide_eq_true (by first | (with_reducible assumption) | assumption)
              have q288 : x8_1 < (l0.length : Int) := of_decide_eq_true (by first | (with_reducible assumption) | assumption)
              obtain ⟨ad288, e288, hx288_0⟩ := Kd.at_int HR0.out x8_1 p288 q288
              cases e288
              replace p288 := eq_true p288
              replace q288 := eq_true q288
              go_wp2
              go_ret
              exact ⟨by first | rfl | (simp; done) | (simp [*]; done), by repeat (first | exact Drawn0.refl _ | apply Drawn0.step)⟩
          · rw [if_neg c4] at H
            exact absurd H (by simp)
        · rw [if_neg c3] at H
          exact absurd H (by simp)
      · rw [if_neg c2] at H
        have c2b0 : decide (x8_1 < (l0.length : Int)) = false := decide_eq_false c2
        clear c2
        obtain rfl := Option.some.inj H
        go_wp2
        go_ret
        exact ⟨by first | rfl | (simp; done) | (simp [*]; done), by repeat (first | exact Drawn0.refl _ | apply Drawn0.step)⟩
def cmp_Compare_int.f (a0 : Int) (a1 : Int) : Option (Int) := (cmp_isNaN_int.f a0).bind fun t289 => ((cmp_isNaN_int.f a1).bind fun t290 => (if t289 = true then (if t290 = true then (some 0) else (some (-1))) else (if t290 = true then (some 1) else (if a0 < a1 then (some (-1)) else (if a0 > a1 then (some 1) else (some 0))))))
set_option maxHeartbeats 8000000 in
set_option maxRecDepth 100000 in
theorem cmp_Compare_int.calls (a0 : Int) (a1 : Int) (r : Int) (w : World) (h : cmp_Compare_int.f a0 a1 = some r) :
    Calls Tryd.prog 73 #[.int .i64 a0, .int .i64 a1] w fun e w' => e = .returned (.int .i64 r) ∧ Drawn0 w w' := by
  have H : ((cmp_isNaN_int.f a0).bind fun t289 => ((cmp_isNaN_int.f a1).bind fun t290 => (if t289 = true then (if t290 = true then (some 0) else (some (-1))) else (if t290 = true then (some 1) else (if a0 < a1 then (some (-1)) else (if a0 > a1 then (some 1) else (some 0))))))) = some r := h
  clear h
  replace H := Option.bind_eq_some_iff.mp H
  obtain ⟨t289, A30, H⟩ := H
  replace H : ((cmp_isNaN_int.f a1).bind fun t290 => (if t289 = true then (if t290 = true then (some 0) else (some (-1))) else (if t290 = true then (some 1) else (if a0 < a1 then (some (-1)) else (if a0 > a1 then (some 1) else (some 0)))))) = some r := H
  have A3 := Aside0.mk A30
  clear A30
  replace H := Option.bind_eq_some_iff.mp H
  obtain ⟨t290, A40, H⟩ := H
  replace H : (if t289 = true then (if t290 = true then (some 0) else (some (-1))) else (if t290 = true then (some 1) else (if a0 < a1 then (some (-1)) else (if a0 > a1 then (some 1) else (some 0))))) = some r := H
  have A4 := Aside0.mk A40
  clear A40
  by_cases c5 : t289 = true
  · subst c5
    have H1 : (if t290 = true then (some 0) else (some (-1))) = some r := by rw [if_pos rfl] at H; exact H
    clear H
    have H := H1
    clear H1
    by_cases c6 : t290 = true
    · subst c6
      have H1 : (some 0) = some r := by rw [if_pos rfl] at H; exact H
      clear H
      have H := H1
      clear H1
      obtain rfl := Option.some.inj H
      go_enter Tryd.func73, Tryd.ntmps73
      go_wp2_with (first | ((with_reducible refine gate_callee (f := 86) rfl ?_); refine goesL_ (some 8) rfl rfl Tryd.func86 (by kernel_rfl) rfl #[.int .i64 a0] rfl (by (try simp only [List.map_toArray, List.map_cons, List.map_nil]); first | done | rfl | (simp only [List.length_drop, List.length_take]; rfl)) ?_; (with_reducible refine (cmp_isNaN_int.calls a0 true _ A3.out).mono ?_); rintro e w' ⟨rfl, ⟨nd, rfl⟩⟩; refine ⟨_, rfl, ?_⟩) | ((with_reducible refine gate_callee (f := 86) rfl ?_); refine goesL_ (some 10) rfl rfl Tryd.func86 (by kernel_rfl) rfl #[.int .i64 a1] rfl (by (try simp only [List.map_toArray, List.map_cons, List.map_nil]); first | done | rfl | (simp only [List.length_drop, List.length_take]; rfl)) ?_; (with_reducible refine (cmp_isNaN_int.calls a1 true _ A4.out).mono ?_); rintro e w' ⟨rfl, ⟨nd, rfl⟩⟩; refine ⟨_, rfl, ?_⟩))
      go_ret
      exact ⟨by first | rfl | (simp; done) | (simp [*]; done), by repeat (first | exact Drawn0.refl _ | apply Drawn0.step)⟩
    · replace c6 := Bool.eq_false_iff.mpr c6
      subst c6
      have H1 : (some (-1)) = some r := by rw [if_neg (show ¬ (false = true) by decide)] at H; exact H
      clear H
      have H := H1
      clear H1
      obtain rfl := Option.some.inj H
      go_enter Tryd.func73, Tryd.ntmps73
      go_wp2_with (first | ((with_reducible refine gate_callee (f := 86) rfl ?_); refine goesL_ (some 8) rfl rfl Tryd.func86 (by kernel_rfl) rfl #[.int .i64 a0] rfl (by (try simp only [List.map_toArray, List.map_cons, List.map_nil]); first | done | rfl | (simp only [List.length_drop, List.length_take]; rfl)) ?_; (with_reducible refine (cmp_isNaN_int.calls a0 true _ A3.out).mono ?_); rintro e w' ⟨rfl, ⟨nd, rfl⟩⟩; refine ⟨_, rfl, ?_⟩) | ((with_reducible refine gate_callee (f := 86) rfl ?_); refine goesL_ (some 10) rfl rfl Tryd.func86 (by kernel_rfl) rfl #[.int .i64 a1] rfl (by (try simp only [List.map_toArray, List.map_cons, List.map_nil]); first | done | rfl | (simp only [List.length_drop, List.length_take]; rfl)) ?_; (with_reducible refine (cmp_isNaN_int.calls a1 false _ A4.out).mono ?_); rintro e w' ⟨rfl, ⟨nd, rfl⟩⟩; refine ⟨_, rfl, ?_⟩))
      go_ret
      exact ⟨by first | rfl | (simp; done) | (simp [*]; done), by repeat (first | exact Drawn0.refl _ | apply Drawn0.step)⟩
  · replace c5 := Bool.eq_false_iff.mpr c5
    subst c5
    have H1 : (if t290 = true then (some 1) else (if a0 < a1 then (some (-1)) else (if a0 > a1 then (some 1) else (some 0)))) = some r := by rw [if_neg (show ¬ (false = true) by decide)] at H; exact H
    clear H
    have H := H1
    clear H1
    by_cases c7 : t290 = true
    · subst c7
      have H1 : (some 1) = some r := by rw [if_pos rfl] at H; exact H
      clear H
      have H := H1
      clear H1
      obtain rfl := Option.some.inj H
      go_enter Tryd.func73, Tryd.ntmps73
      go_wp2_with (first | ((with_reducible refine gate_callee (f := 86) rfl ?_); refine goesL_ (some 8) rfl rfl Tryd.func86 (by kernel_rfl) rfl #[.int .i64 a0] rfl (by (try simp only [List.map_toArray, List.map_cons, List.map_nil]); first | done | rfl | (simp only [List.length_drop, List.length_take]; rfl)) ?_; (with_reducible refine (cmp_isNaN_int.calls a0 false _ A3.out).mono ?_); rintro e w' ⟨rfl, ⟨nd, rfl⟩⟩; refine ⟨_, rfl, ?_⟩) | ((with_reducible refine gate_callee (f := 86) rfl ?_); refine goesL_ (some 10) rfl rfl Tryd.func86 (by kernel_rfl) rfl #[.int .i64 a1] rfl (by (try simp only [List.map_toArray, List.map_cons, List.map_nil]); first | done | rfl | (simp only [List.length_drop, List.length_take]; rfl)) ?_; (with_reducible refine (cmp_isNaN_int.calls a1 true _ A4.out).mono ?_); rintro e w' ⟨rfl, ⟨nd, rfl⟩⟩; refine ⟨_, rfl, ?_⟩))
      go_ret
      exact ⟨by first | rfl | (simp; done) | (simp [*]; done), by repeat (first | exact Drawn0.refl _ | apply Drawn0.step)⟩
    · replace c7 := Bool.eq_false_iff.mpr c7
      subst c7
      have H1 : (if a0 < a1 then (some (-1)) else (if a0 > a1 then (some 1) else (some 0))) = some r := by rw [if_neg (show ¬ (false = true) by decide)] at H; exact H
      clear H
      have H := H1
      clear H1
      by_cases c8 : a0 < a1
      · rw [if_pos c8] at H
        have c8b0 : decide (a0 < a1) = true := decide_eq_true c8
        clear c8
        obtain rfl := Option.some.inj H
        go_enter Tryd.func73, Tryd.ntmps73
        go_wp2_with (first | ((with_reducible refine gate_callee (f := 86) rfl ?_); refine goesL_ (some 8) rfl rfl Tryd.func86 (by kernel_rfl) rfl #[.int .i64 a0] rfl (by (try simp only [List.map_toArray, List.map_cons, List.map_nil]); first | done | rfl | (simp only [List.length_drop, List.length_take]; rfl)) ?_; (with_reducible refine (cmp_isNaN_int.calls a0 false _ A3.out).mono ?_); rintro e w' ⟨rfl, ⟨nd, rfl⟩⟩; refine ⟨_, rfl, ?_⟩) | ((with_reducible refine gate_callee (f := 86) rfl ?_); refine goesL_ (some 10) rfl rfl Tryd.func86 (by kernel_rfl) rfl #[.int .i64 a1] rfl (by (try simp only [List.map_toArray, List.map_cons, List.map_nil]); first | done | rfl | (simp only [List.length_drop, List.length_take]; rfl)) ?_; (with_reducible refine (cmp_isNaN_int.calls a1 false _ A4.out).mono ?_); rintro e w' ⟨rfl, ⟨nd, rfl⟩⟩; refine ⟨_, rfl, ?_⟩))
        go_ret
        exact ⟨by first | rfl | (simp; done) | (simp [*]; done), by repeat (first | exact Drawn0.refl _ | apply Drawn0.step)⟩
      · rw [if_neg c8] at H
        have c8b0 : decide (a0 < a1) = false := decide_eq_false c8
        clear c8
        by_cases c9 : a0 > a1
        · rw [if_pos c9] at H
          have c9b0 : decide (a1 < a0) = true := decide_eq_true c9
          clear c9
          obtain rfl := Option.some.inj H
          go_enter Tryd.func73, Tryd.ntmps73
          go_wp2_with (first | ((with_reducible refine gate_callee (f := 86) rfl ?_); refine goesL_ (some 8) rfl rfl Tryd.func86 (by kernel_rfl) rfl #[.int .i64 a0] rfl (by (try simp only [List.map_toArray, List.map_cons, List.map_nil]); first | done | rfl | (simp only [List.length_drop, List.length_take]; rfl)) ?_; (with_reducible refine (cmp_isNaN_int.calls a0 false _ A3.out).mono ?_); rintro e w' ⟨rfl, ⟨nd, rfl⟩⟩; refine ⟨_, rfl, ?_⟩) | ((with_reducible refine gate_callee (f := 86) rfl ?_); refine goesL_ (some 10) rfl rfl Tryd.func86 (by kernel_rfl) rfl #[.int .i64 a1] rfl (by (try simp only [List.map_toArray, List.map_cons, List.map_nil]); first | done | rfl | (simp only [List.length_drop, List.length_take]; rfl)) ?_; (with_reducible refine (cmp_isNaN_int.calls a1 false _ A4.out).mono ?_); rintro e w' ⟨rfl, ⟨nd, rfl⟩⟩; refine ⟨_, rfl, ?_⟩))
          go_ret
          exact ⟨by first | rfl | (simp; done) | (simp [*]; done), by repeat (first | exact Drawn0.refl _ | apply Drawn0.step)⟩
        · rw [if_neg c9] at H
          have c9b0 : decide (a1 < a0) = false := decide_eq_false c9
          clear c9
          obtain rfl := Option.some.inj H
          go_enter Tryd.func73, Tryd.ntmps73
          go_wp2_with (first | ((with_reducible refine gate_callee (f := 86) rfl ?_); refine goesL_ (some 8) rfl rfl Tryd.func86 (by kernel_rfl) rfl #[.int .i64 a0] rfl (by (try simp only [List.map_toArray, List.map_cons, List.map_nil]); first | done | rfl | (simp only [List.length_drop, List.length_take]; rfl)) ?_; (with_reducible refine (cmp_isNaN_int.calls a0 false _ A3.out).mono ?_); rintro e w' ⟨rfl, ⟨nd, rfl⟩⟩; refine ⟨_, rfl, ?_⟩) | ((with_reducible refine gate_callee (f := 86) rfl ?_); refine goesL_ (some 10) rfl rfl Tryd.func86 (by kernel_rfl) rfl #[.int .i64 a1] rfl (by (try simp only [List.map_toArray, List.map_cons, List.map_nil]); first | done | rfl | (simp only [List.length_drop, List.length_take]; rfl)) ?_; (with_reducible refine (cmp_isNaN_int.calls a1 false _ A4.out).mono ?_); rintro e w' ⟨rfl, ⟨nd, rfl⟩⟩; refine ⟨_, rfl, ?_⟩))
          go_ret
          exact ⟨by first | rfl | (simp; done) | (simp [*]; done), by repeat (first | exact Drawn0.refl _ | apply Drawn0.step)⟩
def mrpdu_Compare.f (k : Nat) (a0_0 : Int) (a0_1 : Int) (a1_0 : Int) (a1_1 : Int) : Option (Int) := (cmp_Compare_int.f a0_0 a1_0).bind fun t293 => ((cmp_Compare_int.f a0_1 a1_1).bind fun t294 => ((cmp_Or_int.f k (([t293, t294] : List Int))).bind fun t298 => (some t298)))
def mrpdu_Compare.T1 : Bool × List (List Nat × List Nat) := (true, [([], []), ([0], [0]), ([], []), ([2], [2]), ([1, 3], [1, 3]), ([], []), ([5], [5]), ([], []), ([7], [7]), ([6, 8, 4], [6, 8]), ([4, 9], [4, 9]), ([10, 9], [10]), ([11, 11, 0, 1, 2, 3, 4, 5, 6, 7, 8, 9, 10, 11], [11])])
def mrpdu_Compare.B1 : List Nat := [0, 1, 0, 4, 15, 0, 32, 0, 128, 511, 1023, 2047, 4095]
theorem mrpdu_Compare.tab1 : rtab .any (opsOf Tryd.f51 1) = mrpdu_Compare.T1 := by kernel_rfl
theorem mrpdu_Compare.bits1 : waitsOk mrpdu_Compare.T1.2 mrpdu_Compare.B1 = true := by kernel_rfl
set_option maxHeartbeats 8000000 in
set_option maxRecDepth 100000 in
theorem mrpdu_Compare.calls (k : Nat) (a0_0 : Int) (a0_1 : Int) (a1_0 : Int) (a1_1 : Int) (r : Int) (w : World) (h : mrpdu_Compare.f k a0_0 a0_1 a1_0 a1_1 = some r) :
    Calls Tryd.prog 51 #[.agg #[.int .i64 a0_0, .int .i64 a0_1], .agg #[.int .i64 a1_0, .int .i64 a1_1]] w fun e w' => e = .returned (.int .i64 r) ∧ Below w.heap.size w w' := by
  have hu28 := Tryd.underlying28
  have HB := Aside0.mk (Below.refl w.heap.size w)
  have H : ((cmp_Compare_int.f a0_0 a1_0).bind fun t293 => ((cmp_Compare_int.f a0_1 a1_1).bind fun t294 => ((cmp_Or_int.f k (([t293, t294] : List Int))).bind fun t298 => (some t298)))) = some r := h
  clear h
  replace H := Option.bind_eq_some_iff.mp H
  obtain ⟨t293, A30, H⟩ := H
  replace H : ((cmp_Compare_int.f a0_1 a1_1).bind fun t294 => ((cmp_Or_int.f k (([t293, t294] : List Int))).bind fun t298 => (some t298))) = some r := H
  have A3 := Aside0.mk A30
  clear A30
  replace H := Option.bind_eq_some_iff.mp H
  obtain ⟨t294, A40, H⟩ := H
  replace H : ((cmp_Or_int.f k (([t293, t294] : List Int))).bind fun t298 => (some t298)) = some r := H
  have A4 := Aside0.mk A40
  clear A40
  obtain ⟨y295, hy295⟩ : ∃ y_ : List Int, y_ = (([t293, t294] : List Int)) := ⟨_, rfl⟩
  replace H : ((cmp_Or_int.f k y295).bind fun t298 => (some t298)) = some r := by first | (rw [hy295]; with_reducible exact H) | (have H2_ := (Option.bind_some _ _).symm.trans H; rw [hy295]; with_reducible exact H2_) | (have H2_ := (Option.bind_some _ _).symm.trans H; with_reducible exact H2_) | with_reducible exact H | (rw [hy295]; exact H) | exact H
  have Ny295 := Aside0.mk hy295
  clear hy295
  replace H := Option.bind_eq_some_iff.mp H
  obtain ⟨t298, A50, H⟩ := H
  replace H : (some t298) = some r := H
  have A5 := Aside0.mk A50
  clear A50
  obtain rfl := Option.some.inj H
  go_enter Tryd.func51, Tryd.ntmps51
  try go_wp2_with (first | ((with_reducible refine gate_dst (N := 2) rfl ?_); refine box_event ?hg (N := 2) ?hd (cs := #[.int .i64 a0_0, .int .i64 a0_1]) (t := 28) ?hr ?_; (case hd => rfl); (case hg => rfl); (case hr => first | (go_simp; done) | (go_simp; rfl)); intro gb291 hg w6 hbox hb; have n0_ := Aside0.mk (below_step (by repeat (first | (with_reducible first | exact HB.out | apply below_alloc | apply pw_below_drewN | apply below_drew1) | exact HB.out)) hb); have n1_ := Aside0.mk (hbox); have n2_ := Aside0.mk ((by rw [hg]; exact (below_size (by repeat (first | (with_reducible first | exact HB.out | apply below_alloc | apply pw_below_drewN | apply below_drew1) | exact HB.out))) : w.heap.size ≤ gb291)); have n3_ := Aside0.mk ((by rw [hg]; exact (below_size (by repeat (first | (with_reducible first | exact HB.out | apply below_alloc | apply pw_below_drewN | apply below_drew1) | exact HB.out))) : w.heap.size ≤ gb291)); clear HB; have HB := n0_; have BK291 := n1_; have GW291 := n2_; have GE291 := n3_; clear n0_ n1_ n2_ n3_; clear hb hbox hg) | ((with_reducible refine gate_dst (N := 3) rfl ?_); refine box_event ?hg (N := 3) ?hd (cs := #[.int .i64 a1_0, .int .i64 a1_1]) (t := 28) ?hr ?_; (case hd => rfl); (case hg => rfl); (case hr => first | (go_simp; done) | (go_simp; rfl)); intro gb292 hg w7 hbox hb; have n0_ := Aside0.mk (blk_below (g := gb291) (o := .cells #[.int .i64 a0_0, .int .i64 a0_1] 28 (0, 0)) (by (with_reducible repeat (first | refine blk_drewN ?_ _ | refine blk_drew ?_ | refine blk_alloc ?_ _)); exact BK291.out) hb); have n1_ := Aside0.mk (below_step (by repeat (first | (with_reducible first | exact HB.out | apply below_alloc | apply pw_below_drewN | apply below_drew1 | refine below_set ?_ GE291.out) | exact HB.out)) hb); have n2_ := Aside0.mk (hbox); have n3_ := Aside0.mk ((by rw [hg]; exact (below_size (by repeat (first | (with_reducible first | exact HB.out | apply below_alloc | apply pw_below_drewN | apply below_drew1 | refine below_set ?_ GE291.out) | exact HB.out))) : w.heap.size ≤ gb292)); have n4_ := Aside0.mk ((by rw [hg]; exact (below_size (by repeat (first | (with_reducible first | exact HB.out | apply below_alloc | apply pw_below_drewN | apply below_drew1 | refine below_set ?_ GE291.out) | exact HB.out))) : w.heap.size ≤ gb292)); have n5_ := Aside0.mk ((by rw [hg]; exact Nat.ne_of_lt (blk_lt (g := gb291) (o := .cells #[.int .i64 a0_0, .int .i64 a0_1] 28 (0, 0)) (by (with_reducible repeat (first | refine blk_drewN ?_ _ | refine blk_drew ?_ | refine blk_alloc ?_ _)); exact BK291.out)) : gb291 ≠ gb292)); have n6_ := Aside0.mk ((by rw [hg]; exact Nat.ne_of_gt (blk_lt (g := gb291) (o := .cells #[.int .i64 a0_0, .int .i64 a0_1] 28 (0, 0)) (by (with_reducible repeat (first | refine blk_drewN ?_ _ | refine blk_drew ?_ | refine blk_alloc ?_ _)); exact BK291.out)) : gb292 ≠ gb291)); clear BK291; clear HB; have BK291 := n0_; have HB := n1_; have BK292 := n2_; have GW292 := n3_; have GE292 := n4_; have NB291_292 := n5_; have NB292_291 := n6_; clear n0_ n1_ n2_ n3_ n4_ n5_ n6_; clear hb hbox hg))
  have n0_ := Aside0.mk (blk_drew BK291.out)
  have n1_ := Aside0.mk (blk_drew BK292.out)
  have n2_ := Aside0.mk (below_drew1 HB.out)
  clear BK291
  clear BK292
  clear HB
  have BK291 := n0_
  have BK292 := n1_
  have HB := n2_
  clear n0_ n1_ n2_
  refine start_ (n := 13) (S := fun w' => w'.cell? ⟨gb291, 0, none⟩ = some (.int .i64 a0_0) ∧ w'.cell? ⟨gb291, 1, none⟩ = some (.int .i64 a0_1) ∧ w'.cell? ⟨gb292, 0, none⟩ = some (.int .i64 a1_0) ∧ w'.cell? ⟨gb292, 1, none⟩ = some (.int .i64 a1_1)) (ds := []) #[false, false, false, false, false, false, false, false, false, false, false, false, false] (by kernel_rfl) rfl rfl ⟨(blk_cell BK291.out 0).trans rfl, (blk_cell BK291.out 1).trans rfl, (blk_cell BK292.out 0).trans rfl, (blk_cell BK292.out 1).trans rfl⟩ (fun hHeld => ?_); refine with_tabW mrpdu_Compare.tab1 mrpdu_Compare.bits1 (fun HT_ HW_ => ?_)
  generalize w7.drew = w8 at BK291 BK292 HB hHeld ⊢
  refine pure_ (i := 0) (N := some 5) (v := ?_) (a' := ?_) #[true, false, false, false, false, false, false, false, false, false, false, false, false] rfl rfl (any_of HT_.out (by kernel_rfl)) (fun _ _ _ h => h) (Or.inl ⟨by rfl, ?_⟩) ?_ ?_
  rotate_left
  · intro w'
    go_simp
    with_reducible rfl
  rotate_left
  · simp only [Act.put, List.setIfInBounds_toArray, List.set_cons_zero, List.set_cons_succ, i64_w, i32_w]
    rfl
  refine pure_ (i := 2) (N := some 7) (v := ?_) (a' := ?_) #[true, false, true, false, false, false, false, false, false, false, false, false, false] rfl rfl (any_of HT_.out (by kernel_rfl)) (fun _ _ _ h => h) (Or.inl ⟨by rfl, ?_⟩) ?_ ?_
  rotate_left
  · intro w'
    go_simp
    with_reducible rfl
  rotate_left
  · simp only [Act.put, List.setIfInBounds_toArray, List.set_cons_zero, List.set_cons_succ, i64_w, i32_w]
    rfl
  refine pure_ (i := 5) (N := some 10) (v := ?_) (a' := ?_) #[true, false, true, false, false, true, false, false, false, false, false, false, false] rfl rfl (any_of HT_.out (by kernel_rfl)) (fun _ _ _ h => h) (Or.inl ⟨by rfl, ?_⟩) ?_ ?_
  rotate_left
  · intro w'
    go_simp
    with_reducible rfl
  rotate_left
  · simp only [Act.put, List.setIfInBounds_toArray, List.set_cons_zero, List.set_cons_succ, i64_w, i32_w]
    rfl
  refine pure_ (i := 7) (N := some 12) (v := ?_) (a' := ?_) #[true, false, true, false, false, true, false, true, false, false, false, false, false] rfl rfl (any_of HT_.out (by kernel_rfl)) (fun _ _ _ h => h) (Or.inl ⟨by rfl, ?_⟩) ?_ ?_
  rotate_left
  · intro w'
    go_simp
    with_reducible rfl
  rotate_left
  · simp only [Act.put, List.setIfInBounds_toArray, List.set_cons_zero, List.set_cons_succ, i64_w, i32_w]
    rfl
  refine take_ (i := 1) (N := some 6) (v := ?_) (a' := ?_) #[true, true, true, false, false, true, false, true, false, false, false, false, false] rfl rfl (take_ofW HT_.out HW_.out (by kernel_rfl)) (fun _ _ _ h => h) (Or.inl ⟨by rfl, ?_⟩) hHeld ?_ ?_
  rotate_left
  · rintro w' ⟨s0, s1, s2, s3⟩
    go_simp
    with_reducible rfl
  rotate_left
  · simp only [Act.put, List.setIfInBounds_toArray, List.set_cons_zero, List.set_cons_succ, i64_w, i32_w]
    rfl
  refine take_ (i := 3) (N := some 8) (v := ?_) (a' := ?_) #[true, true, true, true, false, true, false, true, false, false, false, false, false] rfl rfl (take_ofW HT_.out HW_.out (by kernel_rfl)) (fun _ _ _ h => h) (Or.inl ⟨by rfl, ?_⟩) hHeld ?_ ?_
  rotate_left
  · rintro w' ⟨s0, s1, s2, s3⟩
    go_simp
    with_reducible rfl
  rotate_left
  · simp only [Act.put, List.setIfInBounds_toArray, List.set_cons_zero, List.set_cons_succ, i64_w, i32_w]
    rfl
  refine take_ (i := 6) (N := some 11) (v := ?_) (a' := ?_) #[true, true, true, true, false, true, true, true, false, false, false, false, false] rfl rfl (take_ofW HT_.out HW_.out (by kernel_rfl)) (fun _ _ _ h => h) (Or.inl ⟨by rfl, ?_⟩) hHeld ?_ ?_
  rotate_left
  · rintro w' ⟨s0, s1, s2, s3⟩
    go_simp
    with_reducible rfl
  rotate_left
  · simp only [Act.put, List.setIfInBounds_toArray, List.set_cons_zero, List.set_cons_succ, i64_w, i32_w]
    rfl
  refine take_ (i := 8) (N := some 13) (v := ?_) (a' := ?_) #[true, true, true, true, false, true, true, true, true, false, false, false, false] rfl rfl (take_ofW HT_.out HW_.out (by kernel_rfl)) (fun _ _ _ h => h) (Or.inl ⟨by rfl, ?_⟩) hHeld ?_ ?_
  rotate_left
  · rintro w' ⟨s0, s1, s2, s3⟩
    go_simp
    with_reducible rfl
  rotate_left
  · simp only [Act.put, List.setIfInBounds_toArray, List.set_cons_zero, List.set_cons_succ, i64_w, i32_w]
    rfl
  refine one_ (i := 4) (N := some 9) #[true, true, true, true, true, true, true, true, true, false, false, false, false] rfl rfl (one_of HT_.out (by kernel_rfl)) (by decide) (fun K hK => ?_)
  refine goes_ Tryd.func73 (by kernel_rfl) rfl #[.int .i64 a0_0, .int .i64 a1_0] (by rfl) rfl rfl (by (try simp only [List.map_toArray, List.map_cons, List.map_nil]); first | done | rfl | (simp only [List.length_drop, List.length_take]; rfl)) ?_
  with_reducible refine (cmp_Compare_int.calls a0_0 a1_0 t293 _ A3.out).mono ?_
  rintro e w' ⟨rfl, ⟨nd, rfl⟩⟩
  refine ⟨_, rfl, ?_⟩
  refine hK.out _ _ ⟨(blk_cell BK291.out 0).trans rfl, (blk_cell BK291.out 1).trans rfl, (blk_cell BK292.out 0).trans rfl, (blk_cell BK292.out 1).trans rfl⟩ (fun hHeld => ?_)
  clear hK K
  refine norm_ (a' := ?_) ?_ ?_
  rotate_left
  · show Act.put _ (some 9) _ = _
    simp only [Act.put, List.setIfInBounds_toArray, List.set_cons_zero, List.set_cons_succ, i64_w, i32_w]
    rfl
  refine one_ (i := 9) (N := some 14) #[true, true, true, true, true, true, true, true, true, true, false, false, false] rfl rfl (one_of HT_.out (by kernel_rfl)) (by decide) (fun K hK => ?_)
  refine goes_ Tryd.func73 (by kernel_rfl) rfl #[.int .i64 a0_1, .int .i64 a1_1] (by rfl) rfl rfl (by (try simp only [List.map_toArray, List.map_cons, List.map_nil]); first | done | rfl | (simp only [List.length_drop, List.length_take]; rfl)) ?_
  with_reducible refine (cmp_Compare_int.calls a0_1 a1_1 t294 _ A4.out).mono ?_
  rintro e w' ⟨rfl, ⟨nd, rfl⟩⟩
  refine ⟨_, rfl, ?_⟩
  refine hK.out _ _ ⟨(blk_cell BK291.out 0).trans rfl, (blk_cell BK291.out 1).trans rfl, (blk_cell BK292.out 0).trans rfl, (blk_cell BK292.out 1).trans rfl⟩ (fun hHeld => ?_)
  clear hK K
  refine norm_ (a' := ?_) ?_ ?_
  rotate_left
  · show Act.put _ (some 14) _ = _
    simp only [Act.put, List.setIfInBounds_toArray, List.set_cons_zero, List.set_cons_succ, i64_w, i32_w]
    rfl
  refine one_ (i := 10) (N := some 15) #[true, true, true, true, true, true, true, true, true, true, true, false, false] rfl rfl (one_of HT_.out (by kernel_rfl)) (by decide) (fun K hK => ?_)
  refine Kd.R_lit_step (Kd.int .i64) _ 3 ?hg (N := 15) ?hd (xs := ([t293, t294] : List Int)) (inner := [.int .i64 t293, .int .i64 t294]) (ok := fun _ => True) (okp := fun _ => True) ?hr ?hp (fun _ hk => hk) trivial (Below.refl _ _) (Nat.le_refl _) (by simp) ?_; (case hd => rfl); (case hg => rfl); (case hr => first | (go_simp; done) | (go_simp; rfl)); (case hp => exact (Reps.one (show Kd.M (Kd.int .i64) _ _ _ t293 [.int .i64 t293] from rfl) (Reps.one (show Kd.M (Kd.int .i64) _ _ _ t294 [.int .i64 t294] from rfl) (Reps.none _ _))))
  intro v296 w9 ho10 hb hg_ hnew_
  clear hg_ hnew_
  (first | rw [← Ny295.out] at ho10 | (simp only [Int.reduceToNat] at ho10; rw [← Ny295.out] at ho10))
  have n0_ := Aside0.mk (Kd.R_lower ho10 (below_size (by repeat (first | (with_reducible first | exact HB.out | apply below_alloc | apply pw_below_drewN | apply below_drew1 | refine below_set ?_ GE291.out | refine below_set ?_ GE292.out) | exact HB.out))))
  have n1_ := Aside0.mk (blk_below (g := gb291) (o := .cells #[.int .i64 a0_0, .int .i64 a0_1] 28 (0, 0)) (by (with_reducible repeat (first | refine blk_drewN ?_ _ | refine blk_drew ?_ | refine blk_alloc ?_ _)); exact BK291.out) hb)
  have n2_ := Aside0.mk (blk_below (g := gb292) (o := .cells #[.int .i64 a1_0, .int .i64 a1_1] 28 (0, 0)) (by (with_reducible repeat (first | refine blk_drewN ?_ _ | refine blk_drew ?_ | refine blk_alloc ?_ _)); exact BK292.out) hb)
  have n3_ := Aside0.mk (below_step (by repeat (first | (with_reducible first | exact HB.out | apply below_alloc | apply pw_below_drewN | apply below_drew1 | refine below_set ?_ GE291.out | refine below_set ?_ GE292.out) | exact HB.out)) hb)
  clear BK291
  clear BK292
  clear HB
  have HO297 := n0_
  have BK291 := n1_
  have BK292 := n2_
  have HB := n3_
  clear n0_ n1_ n2_ n3_
  clear hb ho10
  obtain ⟨Ao11, co11, eo11⟩ := Kd.R_slice HO297.out
  (first | subst eo11 | (injection eo11 with f1_ f2_ f3_; have f4_ := f1_.symm; have f5_ := f3_.symm; clear f1_ f2_ f3_; subst f4_; subst f5_))
  refine hK.out _ _ ⟨(blk_cell BK291.out 0).trans rfl, (blk_cell BK291.out 1).trans rfl, (blk_cell BK292.out 0).trans rfl, (blk_cell BK292.out 1).trans rfl⟩ (fun hHeld => ?_)
  clear hK K
  refine norm_ (a' := ?_) ?_ ?_
  rotate_left
  · show Act.put _ (some 15) _ = _
    simp only [Act.put, List.setIfInBounds_toArray, List.set_cons_zero, List.set_cons_succ, i64_w, i32_w]
    rfl
  refine one_ (i := 11) (N := some 16) #[true, true, true, true, true, true, true, true, true, true, true, true, false] rfl rfl (one_of HT_.out (by kernel_rfl)) (by decide) (fun K hK => ?_)
  refine goes_ Tryd.func72 (by kernel_rfl) rfl #[.slice Ao11 y295.length co11] (by rfl) rfl rfl (by (try simp only [List.map_toArray, List.map_cons, List.map_nil]); first | done | rfl | (simp only [List.length_drop, List.length_take]; rfl)) ?_
  with_reducible refine (cmp_Or_int.calls k _ _ y295 t298 _ ?side1 ?side2 A5.out).mono ?_
  (case side1 => repeat (first | exact (Kd.R_reads' HO297.out).2.2 | (with_reducible refine Kd.C_alloc ?_ _) | (with_reducible refine Kd.C_drewN ?_ _) | (with_reducible refine Kd.C_drew ?_)))
  (case side2 => exact (Kd.R_reads' HO297.out).2.1)
  rintro e w' ⟨rfl, ⟨nd, rfl⟩⟩
  refine ⟨_, rfl, ?_⟩
  refine hK.out _ _ ⟨(blk_cell BK291.out 0).trans rfl, (blk_cell BK291.out 1).trans rfl, (blk_cell BK292.out 0).trans rfl, (blk_cell BK292.out 1).trans rfl⟩ (fun hHeld => ?_)
  clear hK K
  refine norm_ (a' := ?_) ?_ ?_
  rotate_left
  · show Act.put _ (some 16) _ = _
    simp only [Act.put, List.setIfInBounds_toArray, List.set_cons_zero, List.set_cons_succ, i64_w, i32_w]
    rfl
  refine pure_ (i := 12) (N := some 4) (v := ?_) (a' := ?_) #[true, true, true, true, true, true, true, true, true, true, true, true, true] rfl rfl (any_of HT_.out (by kernel_rfl)) (fun _ _ _ h => h) (Or.inl ⟨by rfl, ?_⟩) ?_ ?_
  rotate_left
  · intro w'
    go_simp
    with_reducible rfl
  rotate_left
  · simp only [Act.put, List.setIfInBounds_toArray, List.set_cons_zero, List.set_cons_succ, i64_w, i32_w]
    rfl
  refine done_ (done_of HT_.out (by kernel_rfl)) ?_
  try go_wp2
  go_ret
  exact ⟨by first | rfl | (simp [errW_none, errW_some] <;> rfl) | (simp [*, errW_none, errW_some] <;> rfl), by repeat (first | (with_reducible first | exact HB.out | apply below_alloc | apply pw_below_drewN | apply below_drew1 | refine below_set ?_ GE291.out | refine below_set ?_ GE292.out) | exact HB.out)⟩
def mrpdu_size.f (a0 : Int) : Option (Int) := if a0 = 1 then (some 2) else (if a0 = 2 then (some 6) else (if a0 = 3 then (some 1) else (some 0)))
set_option maxHeartbeats 8000000 in
set_option maxRecDepth 100000 in
theorem mrpdu_size.calls (a0 : Int) (r : Int) (w : World) (h : mrpdu_size.f a0 = some r) :
    Calls Tryd.prog 59 #[.int .i64 a0] w fun e w' => e = .returned (.int .i64 r) ∧ Drawn0 w w' := by
  have H : (if a0 = 1 then (some 2) else (if a0 = 2 then (some 6) else (if a0 = 3 then (some 1) else (some 0)))) = some r := h
  clear h
  by_cases c2 : a0 = 1
  · rw [if_pos c2] at H
    have c2b0 : (a0 == 1) = true := beq_iff_eq.mpr c2
    have c2b1 : (a0 != 1) = false := bne_eq_false_iff_eq.mpr c2
    clear c2
    obtain rfl := Option.some.inj H
    go_enter Tryd.func59, Tryd.ntmps59
    go_wp2
    go_ret
    exact ⟨by first | rfl | (simp; done) | (simp [*]; done), by repeat (first | exact Drawn0.refl _ | apply Drawn0.step)⟩
  · rw [if_neg c2] at H
    have c2b0 : (a0 == 1) = false := beq_eq_false_iff_ne.mpr c2
    have c2b1 : (a0 != 1) = true := bne_iff_ne.mpr c2
    by_cases c3 : a0 = 2
    · rw [if_pos c3] at H
      have c3b0 : (a0 == 2) = true := beq_iff_eq.mpr c3
      have c3b1 : (a0 != 2) = false := bne_eq_false_iff_eq.mpr c3
      clear c3
      obtain rfl := Option.some.inj H
      go_enter Tryd.func59, Tryd.ntmps59
      go_wp2
      go_ret
      exact ⟨by first | rfl | (simp; done) | (simp [*]; done), by repeat (first | exact Drawn0.refl _ | apply Drawn0.step)⟩
    · rw [if_neg c3] at H
      have c3b0 : (a0 == 2) = false := beq_eq_false_iff_ne.mpr c3
      have c3b1 : (a0 != 2) = true := bne_iff_ne.mpr c3
      by_cases c4 : a0 = 3
      · rw [if_pos c4] at H
        have c4b0 : (a0 == 3) = true := beq_iff_eq.mpr c4
        have c4b1 : (a0 != 3) = false := bne_eq_false_iff_eq.mpr c4
        clear c4
        obtain rfl := Option.some.inj H
        go_enter Tryd.func59, Tryd.ntmps59
        go_wp2
        go_ret
        exact ⟨by first | rfl | (simp; done) | (simp [*]; done), by repeat (first | exact Drawn0.refl _ | apply Drawn0.step)⟩
      · rw [if_neg c4] at H
        have c4b0 : (a0 == 3) = false := beq_eq_false_iff_ne.mpr c4
        have c4b1 : (a0 != 3) = true := bne_iff_ne.mpr c4
        obtain rfl := Option.some.inj H
        go_enter Tryd.func59, Tryd.ntmps59
        go_wp2
        go_ret
        exact ⟨by first | rfl | (simp; done) | (simp [*]; done), by repeat (first | exact Drawn0.refl _ | apply Drawn0.step)⟩
def mrpdu_word.f (a0_0 : Int) (a0_1 : Int) (a0_2 : Int) (a0_3 : Int) : Option (Bool) := (mrpdu_Attr.f a0_0 a0_1).bind fun t300 => (if t300 = true then (if a0_2 ≥ 0 then (if a0_2 ≤ 5 then (if a0_3 ≥ 0 then (some (decide (a0_3 ≤ 1048576))) else (some false)) else (some false)) else (some false)) else (some false))
set_option maxHeartbeats 8000000 in
set_option maxRecDepth 100000 in
theorem mrpdu_word.calls (a0_0 : Int) (a0_1 : Int) (a0_2 : Int) (a0_3 : Int) (r : Bool) (w : World) (h : mrpdu_word.f a0_0 a0_1 a0_2 a0_3 = some r) :
    Calls Tryd.prog 60 #[.agg #[.int .i64 a0_0, .int .i64 a0_1, .int .i64 a0_2, .int .i64 a0_3]] w fun e w' => e = .returned (.bool r) ∧ Below w.heap.size w w' := by
  have hu42 := Tryd.underlying42
  have hu28 := Tryd.underlying28
  have HB := Aside0.mk (Below.refl w.heap.size w)
  have H : ((mrpdu_Attr.f a0_0 a0_1).bind fun t300 => (if t300 = true then (if a0_2 ≥ 0 then (if a0_2 ≤ 5 then (if a0_3 ≥ 0 then (some (decide (a0_3 ≤ 1048576))) else (some false)) else (some false)) else (some false)) else (some false))) = some r := h
  clear h
  replace H := Option.bind_eq_some_iff.mp H
  obtain ⟨t300, A20, H⟩ := H
  replace H : (if t300 = true then (if a0_2 ≥ 0 then (if a0_2 ≤ 5 then (if a0_3 ≥ 0 then (some (decide (a0_3 ≤ 1048576))) else (some false)) else (some false)) else (some false)) else (some false)) = some r := H
  have A2 := Aside0.mk A20
  clear A20
  by_cases c3 : t300 = true
  · subst c3
    have H1 : (if a0_2 ≥ 0 then (if a0_2 ≤ 5 then (if a0_3 ≥ 0 then (some (decide (a0_3 ≤ 1048576))) else (some false)) else (some false)) else (some false)) = some r := by rw [if_pos rfl] at H; exact H
    clear H
    have H := H1
    clear H1
    by_cases c4 : a0_2 ≥ 0
    · rw [if_pos c4] at H
      have c4b0 : decide (0 ≤ a0_2) = true := decide_eq_true c4
      clear c4
      by_cases c5 : a0_2 ≤ 5
      · rw [if_pos c5] at H
        have c5b0 : decide (a0_2 ≤ 5) = true := decide_eq_true c5
        clear c5
        by_cases c6 : a0_3 ≥ 0
        · rw [if_pos c6] at H
          have c6b0 : decide (0 ≤ a0_3) = true := decide_eq_true c6
          clear c6
          obtain rfl := Option.some.inj H
          go_enter Tryd.func60, Tryd.ntmps60
          go_wp2_with (first | ((with_reducible refine gate_dst (N := 1) rfl ?_); refine box_event ?hg (N := 1) ?hd (cs := #[.int .i64 a0_0, .int .i64 a0_1, .int .i64 a0_2, .int .i64 a0_3]) (t := 42) ?hr ?_; (case hd => rfl); (case hg => rfl); (case hr => first | (go_simp; done) | (go_simp; rfl)); intro gb299 hg w7 hbox hb; have n0_ := Aside0.mk (below_step (by repeat (first | (with_reducible first | exact HB.out | apply below_alloc | apply pw_below_drewN | apply below_drew1) | exact HB.out)) hb); have n1_ := Aside0.mk (hbox); have n2_ := Aside0.mk ((by rw [hg]; exact (below_size (by repeat (first | (with_reducible first | exact HB.out | apply below_alloc | apply pw_below_drewN | apply below_drew1) | exact HB.out))) : w.heap.size ≤ gb299)); have n3_ := Aside0.mk ((by rw [hg]; exact (below_size (by repeat (first | (with_reducible first | exact HB.out | apply below_alloc | apply pw_below_drewN | apply below_drew1) | exact HB.out))) : w.heap.size ≤ gb299)); clear HB; have HB := n0_; have BK299 := n1_; have GW299 := n2_; have GE299 := n3_; clear n0_ n1_ n2_ n3_; clear hb hbox hg; have hcz8_0 : w7.cell? ⟨gb299, 0, none⟩ = some (.int .i64 a0_0) := (blk_cell BK299.out 0).trans rfl; have hcz8_1 : w7.cell? ⟨gb299, 1, none⟩ = some (.int .i64 a0_1) := (blk_cell BK299.out 1).trans rfl; have hcz8_2 : w7.cell? ⟨gb299, 2, none⟩ = some (.int .i64 a0_2) := (blk_cell BK299.out 2).trans rfl; have hcz8_3 : w7.cell? ⟨gb299, 3, none⟩ = some (.int .i64 a0_3) := (blk_cell BK299.out 3).trans rfl; have hfz8_0 := blk_frozen BK299.out 0; have hfz8_1 := blk_frozen BK299.out 1; have hfz8_2 := blk_frozen BK299.out 2; have hfz8_3 := blk_frozen BK299.out 3) | ((with_reducible refine gate_callee (f := 24) rfl ?_); refine goesL_ (some 5) rfl rfl Tryd.func24 (by kernel_rfl) rfl #[.agg #[.int .i64 a0_0, .int .i64 a0_1]] rfl (by (try simp only [List.map_toArray, List.map_cons, List.map_nil]); first | done | rfl | (simp only [List.length_drop, List.length_take]; rfl)) ?_; (with_reducible refine (mrpdu_Attr.calls a0_0 a0_1 true _ A2.out).mono ?_); rintro e w9 ⟨rfl, hb⟩; refine ⟨_, rfl, ?_⟩; have n0_ := Aside0.mk (blk_below (g := gb299) (o := .cells #[.int .i64 a0_0, .int .i64 a0_1, .int .i64 a0_2, .int .i64 a0_3] 42 (0, 0)) (by (with_reducible repeat (first | refine blk_drewN ?_ _ | refine blk_drew ?_ | refine blk_alloc ?_ _)); exact BK299.out) hb); have n1_ := Aside0.mk (below_step (by repeat (first | (with_reducible first | exact HB.out | apply below_alloc | apply pw_below_drewN | apply below_drew1 | refine below_set ?_ GE299.out) | exact HB.out)) hb); clear BK299; clear HB; have BK299 := n0_; have HB := n1_; clear n0_ n1_; (try clear hb); (try clear hb2); (try clear hk); (try clear hi); have hcz10_0 : w9.cell? ⟨gb299, 0, none⟩ = some (.int .i64 a0_0) := (blk_cell BK299.out 0).trans rfl; have hcz10_1 : w9.cell? ⟨gb299, 1, none⟩ = some (.int .i64 a0_1) := (blk_cell BK299.out 1).trans rfl; have hcz10_2 : w9.cell? ⟨gb299, 2, none⟩ = some (.int .i64 a0_2) := (blk_cell BK299.out 2).trans rfl; have hcz10_3 : w9.cell? ⟨gb299, 3, none⟩ = some (.int .i64 a0_3) := (blk_cell BK299.out 3).trans rfl; have hfz10_0 := blk_frozen BK299.out 0; have hfz10_1 := blk_frozen BK299.out 1; have hfz10_2 := blk_frozen BK299.out 2; have hfz10_3 := blk_frozen BK299.out 3))
          go_ret
          exact ⟨by first | rfl | (simp [errW_none, errW_some] <;> rfl) | (simp [*, errW_none, errW_some] <;> rfl), by repeat (first | (with_reducible first | exact HB.out | apply below_alloc | apply pw_below_drewN | apply below_drew1 | refine below_set ?_ GE299.out) | exact HB.out)⟩
        · rw [if_neg c6] at H
          have c6b0 : decide (0 ≤ a0_3) = false := decide_eq_false c6
          clear c6
          obtain rfl := Option.some.inj H
          go_enter Tryd.func60, Tryd.ntmps60
          go_wp2_with (first | ((with_reducible refine gate_dst (N := 1) rfl ?_); refine box_event ?hg (N := 1) ?hd (cs := #[.int .i64 a0_0, .int .i64 a0_1, .int .i64 a0_2, .int .i64 a0_3]) (t := 42) ?hr ?_; (case hd => rfl); (case hg => rfl); (case hr => first | (go_simp; done) | (go_simp; rfl)); intro gb299 hg w11 hbox hb; have n0_ := Aside0.mk (below_step (by repeat (first | (with_reducible first | exact HB.out | apply below_alloc | apply pw_below_drewN | apply below_drew1) | exact HB.out)) hb); have n1_ := Aside0.mk (hbox); have n2_ := Aside0.mk ((by rw [hg]; exact (below_size (by repeat (first | (with_reducible first | exact HB.out | apply below_alloc | apply pw_below_drewN | apply below_drew1) | exact HB.out))) : w.heap.size ≤ gb299)); have n3_ := Aside0.mk ((by rw [hg]; exact (below_size (by repeat (first | (with_reducible first | exact HB.out | apply below_alloc | apply pw_below_drewN | apply below_drew1) | exact HB.out))) : w.heap.size ≤ gb299)); clear HB; have HB := n0_; have BK299 := n1_; have GW299 := n2_; have GE299 := n3_; clear n0_ n1_ n2_ n3_; clear hb hbox hg; have hcz12_0 : w11.cell? ⟨gb299, 0, none⟩ = some (.int .i64 a0_0) := (blk_cell BK299.out 0).trans rfl; have hcz12_1 : w11.cell? ⟨gb299, 1, none⟩ = some (.int .i64 a0_1) := (blk_cell BK299.out 1).trans rfl; have hcz12_2 : w11.cell? ⟨gb299, 2, none⟩ = some (.int .i64 a0_2) := (blk_cell BK299.out 2).trans rfl; have hcz12_3 : w11.cell? ⟨gb299, 3, none⟩ = some (.int .i64 a0_3) := (blk_cell BK299.out 3).trans rfl; have hfz12_0 := blk_frozen BK299.out 0; have hfz12_1 := blk_frozen BK299.out 1; have hfz12_2 := blk_frozen BK299.out 2; have hfz12_3 := blk_frozen BK299.out 3) | ((with_reducible refine gate_callee (f := 24) rfl ?_); refine goesL_ (some 5) rfl rfl Tryd.func24 (by kernel_rfl) rfl #[.agg #[.int .i64 a0_0, .int .i64 a0_1]] rfl (by (try simp only [List.map_toArray, List.map_cons, List.map_nil]); first | done | rfl | (simp only [List.length_drop, List.length_take]; rfl)) ?_; (with_reducible refine (mrpdu_Attr.calls a0_0 a0_1 true _ A2.out).mono ?_); rintro e w13 ⟨rfl, hb⟩; refine ⟨_, rfl, ?_⟩; have n0_ := Aside0.mk (blk_below (g := gb299) (o := .cells #[.int .i64 a0_0, .int .i64 a0_1, .int .i64 a0_2, .int .i64 a0_3] 42 (0, 0)) (by (with_reducible repeat (first | refine blk_drewN ?_ _ | refine blk_drew ?_ | refine blk_alloc ?_ _)); exact BK299.out) hb); have n1_ := Aside0.mk (below_step (by repeat (first | (with_reducible first | exact HB.out | apply below_alloc | apply pw_below_drewN | apply below_drew1 | refine below_set ?_ GE299.out) | exact HB.out)) hb); clear BK299; clear HB; have BK299 := n0_; have HB := n1_; clear n0_ n1_; (try clear hb); (try clear hb2); (try clear hk); (try clear hi); have hcz14_0 : w13.cell? ⟨gb299, 0, none⟩ = some (.int .i64 a0_0) := (blk_cell BK299.out 0).trans rfl; have hcz14_1 : w13.cell? ⟨gb299, 1, none⟩ = some (.int .i64 a0_1) := (blk_cell BK299.out 1).trans rfl; have hcz14_2 : w13.cell? ⟨gb299, 2, none⟩ = some (.int .i64 a0_2) := (blk_cell BK299.out 2).trans rfl; have hcz14_3 : w13.cell? ⟨gb299, 3, none⟩ = some (.int .i64 a0_3) := (blk_cell BK299.out 3).trans rfl; have hfz14_0 := blk_frozen BK299.out 0; have hfz14_1 := blk_frozen BK299.out 1; have hfz14_2 := blk_frozen BK299.out 2; have hfz14_3 := blk_frozen BK299.out 3))
          go_ret
          exact ⟨by first | rfl | (simp [errW_none, errW_some] <;> rfl) | (simp [*, errW_none, errW_some] <;> rfl), by repeat (first | (with_reducible first | exact HB.out | apply below_alloc | apply pw_below_drewN | apply below_drew1 | refine below_set ?_ GE299.out) | exact HB.out)⟩
      · rw [if_neg c5] at H
        have c5b0 : decide (a0_2 ≤ 5) = false := decide_eq_false c5
        clear c5
        obtain rfl := Option.some.inj H
        go_enter Tryd.func60, Tryd.ntmps60
        go_wp2_with (first | ((with_reducible refine gate_dst (N := 1) rfl ?_); refine box_event ?hg (N := 1) ?hd (cs := #[.int .i64 a0_0, .int .i64 a0_1, .int .i64 a0_2, .int .i64 a0_3]) (t := 42) ?hr ?_; (case hd => rfl); (case hg => rfl); (case hr => first | (go_simp; done) | (go_simp; rfl)); intro gb299 hg w15 hbox hb; have n0_ := Aside0.mk (below_step (by repeat (first | (with_reducible first | exact HB.out | apply below_alloc | apply pw_below_drewN | apply below_drew1) | exact HB.out)) hb); have n1_ := Aside0.mk (hbox); have n2_ := Aside0.mk ((by rw [hg]; exact (below_size (by repeat (first | (with_reducible first | exact HB.out | apply below_alloc | apply pw_below_drewN | apply below_drew1) | exact HB.out))) : w.heap.size ≤ gb299)); have n3_ := Aside0.mk ((by rw [hg]; exact (below_size (by repeat (first | (with_reducible first | exact HB.out | apply below_alloc | apply pw_below_drewN | apply below_drew1) | exact HB.out))) : w.heap.size ≤ gb299)); clear HB; have HB := n0_; have BK299 := n1_; have GW299 := n2_; have GE299 := n3_; clear n0_ n1_ n2_ n3_; clear hb hbox hg; have hcz16_0 : w15.cell? ⟨gb299, 0, none⟩ = some (.int .i64 a0_0) := (blk_cell BK299.out 0).trans rfl; have hcz16_1 : w15.cell? ⟨gb299, 1, none⟩ = some (.int .i64 a0_1) := (blk_cell BK299.out 1).trans rfl; have hcz16_2 : w15.cell? ⟨gb299, 2, none⟩ = some (.int .i64 a0_2) := (blk_cell BK299.out 2).trans rfl; have hcz16_3 : w15.cell? ⟨gb299, 3, none⟩ = some (.int .i64 a0_3) := (blk_cell BK299.out 3).trans rfl; have hfz16_0 := blk_frozen BK299.out 0; have hfz16_1 := blk_frozen BK299.out 1; have hfz16_2 := blk_frozen BK299.out 2; have hfz16_3 := blk_frozen BK299.out 3) | ((with_reducible refine gate_callee (f := 24) rfl ?_); refine goesL_ (some 5) rfl rfl Tryd.func24 (by kernel_rfl) rfl #[.agg #[.int .i64 a0_0, .int .i64 a0_1]] rfl (by (try simp only [List.map_toArray, List.map_cons, List.map_nil]); first | done | rfl | (simp only [List.length_drop, List.length_take]; rfl)) ?_; (with_reducible refine (mrpdu_Attr.calls a0_0 a0_1 true _ A2.out).mono ?_); rintro e w17 ⟨rfl, hb⟩; refine ⟨_, rfl, ?_⟩; have n0_ := Aside0.mk (blk_below (g := gb299) (o := .cells #[.int .i64 a0_0, .int .i64 a0_1, .int .i64 a0_2, .int .i64 a0_3] 42 (0, 0)) (by (with_reducible repeat (first | refine blk_drewN ?_ _ | refine blk_drew ?_ | refine blk_alloc ?_ _)); exact BK299.out) hb); have n1_ := Aside0.mk (below_step (by repeat (first | (with_reducible first | exact HB.out | apply below_alloc | apply pw_below_drewN | apply below_drew1 | refine below_set ?_ GE299.out) | exact HB.out)) hb); clear BK299; clear HB; have BK299 := n0_; have HB := n1_; clear n0_ n1_; (try clear hb); (try clear hb2); (try clear hk); (try clear hi); have hcz18_0 : w17.cell? ⟨gb299, 0, none⟩ = some (.int .i64 a0_0) := (blk_cell BK299.out 0).trans rfl; have hcz18_1 : w17.cell? ⟨gb299, 1, none⟩ = some (.int .i64 a0_1) := (blk_cell BK299.out 1).trans rfl; have hcz18_2 : w17.cell? ⟨gb299, 2, none⟩ = some (.int .i64 a0_2) := (blk_cell BK299.out 2).trans rfl; have hcz18_3 : w17.cell? ⟨gb299, 3, none⟩ = some (.int .i64 a0_3) := (blk_cell BK299.out 3).trans rfl; have hfz18_0 := blk_frozen BK299.out 0; have hfz18_1 := blk_frozen BK299.out 1; have hfz18_2 := blk_frozen BK299.out 2; have hfz18_3 := blk_frozen BK299.out 3))
        go_ret
        exact ⟨by first | rfl | (simp [errW_none, errW_some] <;> rfl) | (simp [*, errW_none, errW_some] <;> rfl), by repeat (first | (with_reducible first | exact HB.out | apply below_alloc | apply pw_below_drewN | apply below_drew1 | refine below_set ?_ GE299.out) | exact HB.out)⟩
    · rw [if_neg c4] at H
      have c4b0 : decide (0 ≤ a0_2) = false := decide_eq_false c4
      clear c4
      obtain rfl := Option.some.inj H
      go_enter Tryd.func60, Tryd.ntmps60
      go_wp2_with (first | ((with_reducible refine gate_dst (N := 1) rfl ?_); refine box_event ?hg (N := 1) ?hd (cs := #[.int .i64 a0_0, .int .i64 a0_1, .int .i64 a0_2, .int .i64 a0_3]) (t := 42) ?hr ?_; (case hd => rfl); (case hg => rfl); (case hr => first | (go_simp; done) | (go_simp; rfl)); intro gb299 hg w19 hbox hb; have n0_ := Aside0.mk (below_step (by repeat (first | (with_reducible first | exact HB.out | apply below_alloc | apply pw_below_drewN | apply below_drew1) | exact HB.out)) hb); have n1_ := Aside0.mk (hbox); have n2_ := Aside0.mk ((by rw [hg]; exact (below_size (by repeat (first | (with_reducible first | exact HB.out | apply below_alloc | apply pw_below_drewN | apply below_drew1) | exact HB.out))) : w.heap.size ≤ gb299)); have n3_ := Aside0.mk ((by rw [hg]; exact (below_size (by repeat (first | (with_reducible first | exact HB.out | apply below_alloc | apply pw_below_drewN | apply below_drew1) | exact HB.out))) : w.heap.size ≤ gb299)); clear HB; have HB := n0_; have BK299 := n1_; have GW299 := n2_; have GE299 := n3_; clear n0_ n1_ n2_ n3_; clear hb hbox hg; have hcz20_0 : w19.cell? ⟨gb299, 0, none⟩ = some (.int .i64 a0_0) := (blk_cell BK299.out 0).trans rfl; have hcz20_1 : w19.cell? ⟨gb299, 1, none⟩ = some (.int .i64 a0_1) := (blk_cell BK299.out 1).trans rfl; have hcz20_2 : w19.cell? ⟨gb299, 2, none⟩ = some (.int .i64 a0_2) := (blk_cell BK299.out 2).trans rfl; have hcz20_3 : w19.cell? ⟨gb299, 3, none⟩ = some (.int .i64 a0_3) := (blk_cell BK299.out 3).trans rfl; have hfz20_0 := blk_frozen BK299.out 0; have hfz20_1 := blk_frozen BK299.out 1; have hfz20_2 := blk_frozen BK299.out 2; have hfz20_3 := blk_frozen BK299.out 3) | ((with_reducible refine gate_callee (f := 24) rfl ?_); refine goesL_ (some 5) rfl rfl Tryd.func24 (by kernel_rfl) rfl #[.agg #[.int .i64 a0_0, .int .i64 a0_1]] rfl (by (try simp only [List.map_toArray, List.map_cons, List.map_nil]); first | done | rfl | (simp only [List.length_drop, List.length_take]; rfl)) ?_; (with_reducible refine (mrpdu_Attr.calls a0_0 a0_1 true _ A2.out).mono ?_); rintro e w21 ⟨rfl, hb⟩; refine ⟨_, rfl, ?_⟩; have n0_ := Aside0.mk (blk_below (g := gb299) (o := .cells #[.int .i64 a0_0, .int .i64 a0_1, .int .i64 a0_2, .int .i64 a0_3] 42 (0, 0)) (by (with_reducible repeat (first | refine blk_drewN ?_ _ | refine blk_drew ?_ | refine blk_alloc ?_ _)); exact BK299.out) hb); have n1_ := Aside0.mk (below_step (by repeat (first | (with_reducible first | exact HB.out | apply below_alloc | apply pw_below_drewN | apply below_drew1 | refine below_set ?_ GE299.out) | exact HB.out)) hb); clear BK299; clear HB; have BK299 := n0_; have HB := n1_; clear n0_ n1_; (try clear hb); (try clear hb2); (try clear hk); (try clear hi); have hcz22_0 : w21.cell? ⟨gb299, 0, none⟩ = some (.int .i64 a0_0) := (blk_cell BK299.out 0).trans rfl; have hcz22_1 : w21.cell? ⟨gb299, 1, none⟩ = some (.int .i64 a0_1) := (blk_cell BK299.out 1).trans rfl; have hcz22_2 : w21.cell? ⟨gb299, 2, none⟩ = some (.int .i64 a0_2) := (blk_cell BK299.out 2).trans rfl; have hcz22_3 : w21.cell? ⟨gb299, 3, none⟩ = some (.int .i64 a0_3) := (blk_cell BK299.out 3).trans rfl; have hfz22_0 := blk_frozen BK299.out 0; have hfz22_1 := blk_frozen BK299.out 1; have hfz22_2 := blk_frozen BK299.out 2; have hfz22_3 := blk_frozen BK299.out 3))
      go_ret
      exact ⟨by first | rfl | (simp [errW_none, errW_some] <;> rfl) | (simp [*, errW_none, errW_some] <;> rfl), by repeat (first | (with_reducible first | exact HB.out | apply below_alloc | apply pw_below_drewN | apply below_drew1 | refine below_set ?_ GE299.out) | exact HB.out)⟩
  · replace c3 := Bool.eq_false_iff.mpr c3
    subst c3
    have H1 : (some false) = some r := by rw [if_neg (show ¬ (false = true) by decide)] at H; exact H
    clear H
    have H := H1
    clear H1
    obtain rfl := Option.some.inj H
    go_enter Tryd.func60, Tryd.ntmps60
    go_wp2_with (first | ((with_reducible refine gate_dst (N := 1) rfl ?_); refine box_event ?hg (N := 1) ?hd (cs := #[.int .i64 a0_0, .int .i64 a0_1, .int .i64 a0_2, .int .i64 a0_3]) (t := 42) ?hr ?_; (case hd => rfl); (case hg => rfl); (case hr => first | (go_simp; done) | (go_simp; rfl)); intro gb299 hg w23 hbox hb; have n0_ := Aside0.mk (below_step (by repeat (first | (with_reducible first | exact HB.out | apply below_alloc | apply pw_below_drewN | apply below_drew1) | exact HB.out)) hb); have n1_ := Aside0.mk (hbox); have n2_ := Aside0.mk ((by rw [hg]; exact (below_size (by repeat (first | (with_reducible first | exact HB.out | apply below_alloc | apply pw_below_drewN | apply below_drew1) | exact HB.out))) : w.heap.size ≤ gb299)); have n3_ := Aside0.mk ((by rw [hg]; exact (below_size (by repeat (first | (with_reducible first | exact HB.out | apply below_alloc | apply pw_below_drewN | apply below_drew1) | exact HB.out))) : w.heap.size ≤ gb299)); clear HB; have HB := n0_; have BK299 := n1_; have GW299 := n2_; have GE299 := n3_; clear n0_ n1_ n2_ n3_; clear hb hbox hg; have hcz24_0 : w23.cell? ⟨gb299, 0, none⟩ = some (.int .i64 a0_0) := (blk_cell BK299.out 0).trans rfl; have hcz24_1 : w23.cell? ⟨gb299, 1, none⟩ = some (.int .i64 a0_1) := (blk_cell BK299.out 1).trans rfl; have hcz24_2 : w23.cell? ⟨gb299, 2, none⟩ = some (.int .i64 a0_2) := (blk_cell BK299.out 2).trans rfl; have hcz24_3 : w23.cell? ⟨gb299, 3, none⟩ = some (.int .i64 a0_3) := (blk_cell BK299.out 3).trans rfl; have hfz24_0 := blk_frozen BK299.out 0; have hfz24_1 := blk_frozen BK299.out 1; have hfz24_2 := blk_frozen BK299.out 2; have hfz24_3 := blk_frozen BK299.out 3) | ((with_reducible refine gate_callee (f := 24) rfl ?_); refine goesL_ (some 5) rfl rfl Tryd.func24 (by kernel_rfl) rfl #[.agg #[.int .i64 a0_0, .int .i64 a0_1]] rfl (by (try simp only [List.map_toArray, List.map_cons, List.map_nil]); first | done | rfl | (simp only [List.length_drop, List.length_take]; rfl)) ?_; (with_reducible refine (mrpdu_Attr.calls a0_0 a0_1 false _ A2.out).mono ?_); rintro e w25 ⟨rfl, hb⟩; refine ⟨_, rfl, ?_⟩; have n0_ := Aside0.mk (blk_below (g := gb299) (o := .cells #[.int .i64 a0_0, .int .i64 a0_1, .int .i64 a0_2, .int .i64 a0_3] 42 (0, 0)) (by (with_reducible repeat (first | refine blk_drewN ?_ _ | refine blk_drew ?_ | refine blk_alloc ?_ _)); exact BK299.out) hb); have n1_ := Aside0.mk (below_step (by repeat (first | (with_reducible first | exact HB.out | apply below_alloc | apply pw_below_drewN | apply below_drew1 | refine below_set ?_ GE299.out) | exact HB.out)) hb); clear BK299; clear HB; have BK299 := n0_; have HB := n1_; clear n0_ n1_; (try clear hb); (try clear hb2); (try clear hk); (try clear hi)))
    go_ret
    exact ⟨by first | rfl | (simp [errW_none, errW_some] <;> rfl) | (simp [*, errW_none, errW_some] <;> rfl), by repeat (first | (with_reducible first | exact HB.out | apply below_alloc | apply pw_below_drewN | apply below_drew1 | refine below_set ?_ GE299.out) | exact HB.out)⟩
end Go.Proofs.YtkahciadkgjbbaaDoor.QPty
