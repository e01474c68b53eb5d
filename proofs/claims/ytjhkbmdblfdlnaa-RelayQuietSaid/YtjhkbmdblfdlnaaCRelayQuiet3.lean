/- Functions of the program as plain Lean functions, what their calls do, and what follows of it. Conditions: each theorem's own. -/
import Derived.Test.YtjhkbmdblfdlnaaCRelayQuiet2
namespace Go.Proofs.Ytjhkbmdblfdlnaa.QRel
open Go.RowKit Go.Proofs.YtjhkbmdblfdlnaaW.PrintWords Go.Proofs.YtjhkbmdblfdlnaaW.PrintLast Go.Proofs.YtjhkbmdblfdlnaaW.PrintMore
attribute [local go_sem] max2_int min2_int max_two min_two max_three min_three max_four min_four
set_option linter.unusedVariables false
set_option linter.unusedSimpArgs false
mutual
def kissgatelaw19_RelayQuiet.j0 : Nat → List (S54) → Int → Bool → Int → Int → Bool → Int → Int → Int → ByteArray → Int → Int → Bool → Int → Int → Int → ByteArray → Option (Bool)
  | 0, _, _, _, _, _, _, _, _, _, _, _, _, _, _, _, _, _ => none
  | k + 1, x0, x1, x36, x186000, x186001, x186002, x186003, x186004, x186005, x186006, x187000, x187001, x187002, x187003, x187004, x187005, x187006 => if x36 = true then (some true) else (kissgatelaw19_RelayQuiet.l0 k x0 x1 ([] : List (S54)) ([] : List (S54)) x0 (x0.length : Int) 0 x186000 x186001 x186002 x186003 x186004 x186005 x186006 x187000 x187001 x187002 x187003 x187004 x187005 x187006)
def kissgatelaw19_RelayQuiet.l0 : Nat → List (S54) → Int → List (S54) → List (S54) → List (S54) → Int → Int → Int → Int → Bool → Int → Int → Int → ByteArray → Int → Int → Bool → Int → Int → Int → ByteArray → Option (Bool)
  | 0, _, _, _, _, _, _, _, _, _, _, _, _, _, _, _, _, _, _, _, _, _ => none
  | k + 1, x0, x1, x11, x12, x37, x38, x39, x186000, x186001, x186002, x186003, x186004, x186005, x186006, x187000, x187001, x187002, x187003, x187004, x187005, x187006 => if x39 < x38 then (if 0 ≤ x39 then (if x39 < (x37.length : Int) then (if x11.length < 2932031007402 then (if x12.length < 2932031007402 then (kissgatelaw19_RelayQuiet.l0 k x0 x1 (x11 ++ [(⟨mn (mx ((rd_T54 x37 x39).f0) 0) 1, (rd_T54 x37 x39).f1, (rd_T54 x37 x39).f2, (rd_T54 x37 x39).f3⟩ : S54)]) (x12 ++ [(⟨(rd_T54 x37 x39).f0, (rd_T54 x37 x39).f1, (rd_T54 x37 x39).f2, ([] : List Int)⟩ : S54)]) x37 x38 (wrap64 (x39 + 1)) x186000 x186001 x186002 x186003 x186004 x186005 x186006 x187000 x187001 x187002 x187003 x187004 x187005 x187006) else (none)) else (none)) else (none)) else (none)) else ((fdb_New.f).bind fun t201 => ((relay_Relay.f k x11 x1 x186000 x186001 x186002 x186003 x186004 x186005 x186006 t201).bind fun t202 => (if (t202.length : Int) = 0 then ((fdb_New.f).bind fun t205 => ((relay_Relay.f k x12 x1 x186000 x186001 x186002 x186003 x186004 x186005 x186006 t205).bind fun t206 => (if (t206.length : Int) = 0 then ((fdb_New.f).bind fun t209 => ((relay_Relay.f k x0 x1 x187000 (-1) x187002 x187003 x187004 x187005 x187006 t209).bind fun t210 => (some ((t210.length : Int) == 0)))) else (some false)))) else (some false))))
end
def kissgatelaw19_RelayQuiet.f (k : Nat) (l0 : List (S54)) (a1 : Int) (a2_0 : Int) (a2_1 : Int) (a2_2 : Bool) (a2_3 : Int) (a2_4 : Int) (a2_5 : Int) (a2_6 : ByteArray) (a3_0 : Int) (a3_1 : Int) (a3_2 : Bool) (a3_3 : Int) (a3_4 : Int) (a3_5 : Int) (a3_6 : ByteArray) : Option (Bool) := (kissgatelaw19_alive.f k).bind fun t187 => (if t187 = true then ((kissgatelaw19_plain.f k l0).bind fun bt188 => (if bt188.2 = true then (if (a2_6.size : Int) > 1000 then (kissgatelaw19_RelayQuiet.j0 k l0 a1 true a2_0 a2_1 a2_2 a2_3 a2_4 a2_5 a2_6 a3_0 a3_1 a3_2 a3_3 a3_4 a3_5 a3_6) else (kissgatelaw19_RelayQuiet.j0 k l0 a1 (decide ((a3_6.size : Int) > 1000)) a2_0 a2_1 a2_2 a2_3 a2_4 a2_5 a2_6 a3_0 a3_1 a3_2 a3_3 a3_4 a3_5 a3_6)) else (kissgatelaw19_RelayQuiet.j0 k l0 a1 true a2_0 a2_1 a2_2 a2_3 a2_4 a2_5 a2_6 a3_0 a3_1 a3_2 a3_3 a3_4 a3_5 a3_6))) else (some false))
def kissgatelaw19_RelayQuiet.T17 : Bool × List (List Nat × List Nat) := (true, [([], []), ([], []), ([], []), ([], []), ([0, 1, 2, 3, 3], [0, 1, 2, 3]), ([4], [4]), ([5], [5]), ([6, 4], [6]), ([7], [7]), ([7], [7]), ([7], [7]), ([7, 7], [7]), ([8, 9, 10, 11, 11, 7], [7, 8, 9, 10, 11]), ([12, 7], [7, 12]), ([13, 7], [7, 13]), ([7, 14], [7, 14]), ([15, 12], [15]), ([16], [16]), ([16], [16]), ([16], [16]), ([16, 16], [16]), ([17, 18, 19, 20, 20, 16], [16, 17, 18, 19, 20]), ([21, 16], [16, 21]), ([22, 16], [16, 22]), ([16, 23], [16, 23]), ([24, 21, 0, 1, 2, 3, 4, 5, 6, 7, 8, 9, 10, 11, 12, 13, 14, 15, 16, 17, 18, 19, 20, 21, 22, 23, 24], [24])])
def kissgatelaw19_RelayQuiet.B17 : List Nat := [0, 0, 0, 0, 15, 31, 63, 127, 255, 255, 255, 255, 4095, 8191, 16383, 32767, 65535, 131071, 131071, 131071, 131071, 2097151, 4194303, 8388607, 16777215, 33554431]
theorem kissgatelaw19_RelayQuiet.tab17 : rtab .any (opsOf Try.f9 17) = kissgatelaw19_RelayQuiet.T17 := by kernel_rfl
theorem kissgatelaw19_RelayQuiet.bits17 : waitsOk kissgatelaw19_RelayQuiet.T17.2 kissgatelaw19_RelayQuiet.B17 = true := by kernel_rfl
set_option maxHeartbeats 8000000 in
set_option maxRecDepth 100000 in
theorem kissgatelaw19_RelayQuiet.calls (k : Nat) (P0_ : Nat → Prop) (A0 : Option Addr) (c0 : Nat) (l0 : List (S54)) (a1 : Int) (a2_0 : Int) (a2_1 : Int) (a2_2 : Bool) (a2_3 : Int) (a2_4 : Int) (a2_5 : Int) (a2_6 : ByteArray) (a3_0 : Int) (a3_1 : Int) (a3_2 : Bool) (a3_3 : Int) (a3_4 : Int) (a3_5 : Int) (a3_6 : ByteArray) (r : Bool) (hT : r = true) (w : World) (hs0 : Kd.V k54 54 w w.heap.size (fun k_ => P0_ k_) (.slice A0 l0.length c0) l0) (h : kissgatelaw19_RelayQuiet.f k l0 a1 a2_0 a2_1 a2_2 a2_3 a2_4 a2_5 a2_6 a3_0 a3_1 a3_2 a3_3 a3_4 a3_5 a3_6 = some r) :
    Calls Try.prog 9 #[.slice A0 l0.length c0, .int .i64 a1, .agg #[.int .i64 a2_0, .int .i64 a2_1, .bool a2_2, .int .i64 a2_3, .int .i64 a2_4, .int .i64 a2_5, .string a2_6], .agg #[.int .i64 a3_0, .int .i64 a3_1, .bool a3_2, .int .i64 a3_3, .int .i64 a3_4, .int .i64 a3_5, .string a3_6]] w fun e w' => e = .returned (.bool r) ∧ Below w.heap.size w w' := by
  have HRT := Aside0.mk hT
  clear hT
  have hu49 := Try.underlying49
  have hu54 := Try.underlying54
  have HO0 := Aside0.mk (show Kd.V k54 54 w w.heap.size (fun k_ => (P0_ k_ ∨ w.heap.size ≤ k_)) (.slice A0 l0.length c0) l0 from Kd.V_mono hs0 (fun k_ hk => .inl hk))
  have HB := Aside0.mk (Below.refl w.heap.size w)
  have H : ((kissgatelaw19_alive.f k).bind fun t187 => (if t187 = true then ((kissgatelaw19_plain.f k l0).bind fun bt188 => (if bt188.2 = true then (if (a2_6.size : Int) > 1000 then (kissgatelaw19_RelayQuiet.j0 k l0 a1 true a2_0 a2_1 a2_2 a2_3 a2_4 a2_5 a2_6 a3_0 a3_1 a3_2 a3_3 a3_4 a3_5 a3_6) else (kissgatelaw19_RelayQuiet.j0 k l0 a1 (decide ((a3_6.size : Int) > 1000)) a2_0 a2_1 a2_2 a2_3 a2_4 a2_5 a2_6 a3_0 a3_1 a3_2 a3_3 a3_4 a3_5 a3_6)) else (kissgatelaw19_RelayQuiet.j0 k l0 a1 true a2_0 a2_1 a2_2 a2_3 a2_4 a2_5 a2_6 a3_0 a3_1 a3_2 a3_3 a3_4 a3_5 a3_6))) else (some false))) = some r := h
  clear h
  replace H := Option.bind_eq_some_iff.mp H
  obtain ⟨t187, A50, H⟩ := H
  replace H : (if t187 = true then ((kissgatelaw19_plain.f k l0).bind fun bt188 => (if bt188.2 = true then (if (a2_6.size : Int) > 1000 then (kissgatelaw19_RelayQuiet.j0 k l0 a1 true a2_0 a2_1 a2_2 a2_3 a2_4 a2_5 a2_6 a3_0 a3_1 a3_2 a3_3 a3_4 a3_5 a3_6) else (kissgatelaw19_RelayQuiet.j0 k l0 a1 (decide ((a3_6.size : Int) > 1000)) a2_0 a2_1 a2_2 a2_3 a2_4 a2_5 a2_6 a3_0 a3_1 a3_2 a3_3 a3_4 a3_5 a3_6)) else (kissgatelaw19_RelayQuiet.j0 k l0 a1 true a2_0 a2_1 a2_2 a2_3 a2_4 a2_5 a2_6 a3_0 a3_1 a3_2 a3_3 a3_4 a3_5 a3_6))) else (some false)) = some r := H
  have A5 := Aside0.mk A50
  clear A50
  by_cases c6 : t187 = true
  · subst c6
    have H1 : ((kissgatelaw19_plain.f k l0).bind fun bt188 => (if bt188.2 = true then (if (a2_6.size : Int) > 1000 then (kissgatelaw19_RelayQuiet.j0 k l0 a1 true a2_0 a2_1 a2_2 a2_3 a2_4 a2_5 a2_6 a3_0 a3_1 a3_2 a3_3 a3_4 a3_5 a3_6) else (kissgatelaw19_RelayQuiet.j0 k l0 a1 (decide ((a3_6.size : Int) > 1000)) a2_0 a2_1 a2_2 a2_3 a2_4 a2_5 a2_6 a3_0 a3_1 a3_2 a3_3 a3_4 a3_5 a3_6)) else (kissgatelaw19_RelayQuiet.j0 k l0 a1 true a2_0 a2_1 a2_2 a2_3 a2_4 a2_5 a2_6 a3_0 a3_1 a3_2 a3_3 a3_4 a3_5 a3_6))) = some r := by rw [if_pos rfl] at H; exact H
    clear H
    have H := H1
    clear H1
    replace H := Option.bind_eq_some_iff.mp H
    obtain ⟨⟨t188, t191⟩, A70, H⟩ := H
    replace H : (if t191 = true then (if (a2_6.size : Int) > 1000 then (kissgatelaw19_RelayQuiet.j0 k l0 a1 true a2_0 a2_1 a2_2 a2_3 a2_4 a2_5 a2_6 a3_0 a3_1 a3_2 a3_3 a3_4 a3_5 a3_6) else (kissgatelaw19_RelayQuiet.j0 k l0 a1 (decide ((a3_6.size : Int) > 1000)) a2_0 a2_1 a2_2 a2_3 a2_4 a2_5 a2_6 a3_0 a3_1 a3_2 a3_3 a3_4 a3_5 a3_6)) else (kissgatelaw19_RelayQuiet.j0 k l0 a1 true a2_0 a2_1 a2_2 a2_3 a2_4 a2_5 a2_6 a3_0 a3_1 a3_2 a3_3 a3_4 a3_5 a3_6)) = some r := H
    have A7 := Aside0.mk A70
    clear A70
    have HC8 := Aside0.mk H
    clear H
    go_enter Try.func9, Try.ntmps9
    go_upto_region 4 with (first | ((with_reducible refine gate_dst (N := 6) rfl ?_); (try (refine gate_guard (by rfl) ?_; dsimp only)); refine box_event ?hg (N := 6) ?hd (cs := #[.int .i64 a2_0, .int .i64 a2_1, .bool a2_2, .int .i64 a2_3, .int .i64 a2_4, .int .i64 a2_5, .string a2_6]) (t := 49) ?hr ?_; (case hd => rfl); (case hg => rfl); (case hr => first | (go_simp; done) | (go_simp; rfl)); intro gb185 hg w9 hbox hb; have n0_ := Aside0.mk (Kd.V_below (Kd.V_elderB (by (with_reducible repeat (first | apply Kd.V_alloc | apply Kd.V_drewN | apply Kd.V_drew)); exact HO0.out) gb185 (Nat.le_of_eq hg.symm)) hb); have n1_ := Aside0.mk (below_step (by repeat (first | (with_reducible first | exact HB.out | apply below_alloc | apply pw_below_drewN | apply below_drew1) | exact HB.out)) hb); have n2_ := Aside0.mk (hbox); have n3_ := Aside0.mk ((by rw [hg]; exact (below_size (by repeat (first | (with_reducible first | exact HB.out | apply below_alloc | apply pw_below_drewN | apply below_drew1) | exact HB.out))) : w.heap.size ≤ gb185)); have n4_ := Aside0.mk ((by rw [hg]; exact (below_size (by repeat (first | (with_reducible first | exact HB.out | apply below_alloc | apply pw_below_drewN | apply below_drew1) | exact HB.out))) : w.heap.size ≤ gb185)); clear HO0; clear HB; have HO0 := n0_; have HB := n1_; have BK185 := n2_; have GW185 := n3_; have GE185 := n4_; clear n0_ n1_ n2_ n3_ n4_; clear hb hbox hg) | ((with_reducible refine gate_dst (N := 7) rfl ?_); (try (refine gate_guard (by rfl) ?_; dsimp only)); refine box_event ?hg (N := 7) ?hd (cs := #[.int .i64 a3_0, .int .i64 a3_1, .bool a3_2, .int .i64 a3_3, .int .i64 a3_4, .int .i64 a3_5, .string a3_6]) (t := 49) ?hr ?_; (case hd => rfl); (case hg => rfl); (case hr => first | (go_simp; done) | (go_simp; rfl)); intro gb186 hg w10 hbox hb; have n0_ := Aside0.mk (Kd.V_below (Kd.V_elderB (by (with_reducible repeat (first | apply Kd.V_alloc | apply Kd.V_drewN | apply Kd.V_drew)); exact HO0.out) gb186 (Nat.le_of_eq hg.symm)) hb); have n1_ := Aside0.mk (blk_below (g := gb185) (o := .cells #[.int .i64 a2_0, .int .i64 a2_1, .bool a2_2, .int .i64 a2_3, .int .i64 a2_4, .int .i64 a2_5, .string a2_6] 49 (0, 0)) (by (with_reducible repeat (first | refine blk_drewN ?_ _ | refine blk_drew ?_ | refine blk_alloc ?_ _)); exact BK185.out) hb); have n2_ := Aside0.mk (below_step (by repeat (first | (with_reducible first | exact HB.out | apply below_alloc | apply pw_below_drewN | apply below_drew1 | refine below_set ?_ GE185.out) | exact HB.out)) hb); have n3_ := Aside0.mk (hbox); have n4_ := Aside0.mk ((by rw [hg]; exact (below_size (by repeat (first | (with_reducible first | exact HB.out | apply below_alloc | apply pw_below_drewN | apply below_drew1 | refine below_set ?_ GE185.out) | exact HB.out))) : w.heap.size ≤ gb186)); have n5_ := Aside0.mk ((by rw [hg]; exact (below_size (by repeat (first | (with_reducible first | exact HB.out | apply below_alloc | apply pw_below_drewN | apply below_drew1 | refine below_set ?_ GE185.out) | exact HB.out))) : w.heap.size ≤ gb186)); have n6_ := Aside0.mk ((by rw [hg]; exact Nat.ne_of_lt (blk_lt (g := gb185) (o := .cells #[.int .i64 a2_0, .int .i64 a2_1, .bool a2_2, .int .i64 a2_3, .int .i64 a2_4, .int .i64 a2_5, .string a2_6] 49 (0, 0)) (by (with_reducible repeat (first | refine blk_drewN ?_ _ | refine blk_drew ?_ | refine blk_alloc ?_ _)); exact BK185.out)) : gb185 ≠ gb186)); have n7_ := Aside0.mk ((by rw [hg]; exact Nat.ne_of_gt (blk_lt (g := gb185) (o := .cells #[.int .i64 a2_0, .int .i64 a2_1, .bool a2_2, .int .i64 a2_3, .int .i64 a2_4, .int .i64 a2_5, .string a2_6] 49 (0, 0)) (by (with_reducible repeat (first | refine blk_drewN ?_ _ | refine blk_drew ?_ | refine blk_alloc ?_ _)); exact BK185.out)) : gb186 ≠ gb185)); clear HO0; clear BK185; clear HB; have HO0 := n0_; have BK185 := n1_; have HB := n2_; have BK186 := n3_; have GW186 := n4_; have GE186 := n5_; have NB185_186 := n6_; have NB186_185 := n7_; clear n0_ n1_ n2_ n3_ n4_ n5_ n6_ n7_; clear hb hbox hg) | ((with_reducible refine gate_callee (f := 25) rfl ?_); refine goesL_ (some 16) rfl rfl Try.func25 (by kernel_rfl) rfl #[] rfl (by (try simp only [List.map_toArray, List.map_cons, List.map_nil]); first | done | rfl | (simp only [List.length_drop, List.length_take]; rfl)) ?_; (with_reducible refine (kissgatelaw19_alive.calls k  true _ A5.out).mono ?_); rintro e w11 ⟨rfl, hb⟩; refine ⟨_, rfl, ?_⟩; have n0_ := Aside0.mk (Kd.V_below (by (with_reducible repeat (first | apply Kd.V_alloc | apply Kd.V_drewN | apply Kd.V_drew)); exact HO0.out) hb); have n1_ := Aside0.mk (blk_below (g := gb185) (o := .cells #[.int .i64 a2_0, .int .i64 a2_1, .bool a2_2, .int .i64 a2_3, .int .i64 a2_4, .int .i64 a2_5, .string a2_6] 49 (0, 0)) (by (with_reducible repeat (first | refine blk_drewN ?_ _ | refine blk_drew ?_ | refine blk_alloc ?_ _)); exact BK185.out) hb); have n2_ := Aside0.mk (blk_below (g := gb186) (o := .cells #[.int .i64 a3_0, .int .i64 a3_1, .bool a3_2, .int .i64 a3_3, .int .i64 a3_4, .int .i64 a3_5, .string a3_6] 49 (0, 0)) (by (with_reducible repeat (first | refine blk_drewN ?_ _ | refine blk_drew ?_ | refine blk_alloc ?_ _)); exact BK186.out) hb); have n3_ := Aside0.mk (below_step (by repeat (first | (with_reducible first | exact HB.out | apply below_alloc | apply pw_below_drewN | apply below_drew1 | refine below_set ?_ GE185.out | refine below_set ?_ GE186.out) | exact HB.out)) hb); clear HO0; clear BK185; clear BK186; clear HB; have HO0 := n0_; have BK185 := n1_; have BK186 := n2_; have HB := n3_; clear n0_ n1_ n2_ n3_; (try clear hb); (try clear hb2); (try clear hk); (try clear hi)) | ((with_reducible refine gate_callee (f := 26) rfl ?_); refine goesL_ (some 20) rfl rfl Try.func26 (by kernel_rfl) rfl #[.slice A0 l0.length c0] rfl (by (try simp only [List.map_toArray, List.map_cons, List.map_nil]); first | done | rfl | (simp only [List.length_drop, List.length_take]; rfl)) ?_; (with_reducible refine (kissgatelaw19_plain.calls k (fun k_ => (((P0_ k_ ∨ w.heap.size ≤ k_) ∧ k_ ≠ gb185) ∧ k_ ≠ gb186)) _ _ l0 t188 t191 _ ?side1 A7.out).mono ?_); (case side1 => exact HO0.out); rintro e w12 ⟨v189, rfl, ho0, hb⟩; refine ⟨_, rfl, ?_⟩; have n0_ := Aside0.mk (Kd.V_elder' (by (with_reducible repeat (first | apply Kd.V_alloc | apply Kd.V_drewN | apply Kd.V_drew)); exact HO0.out) (Kd.N_base ho0) hb); have n1_ := Aside0.mk (Kd.N_lower (Kd.N_mono (ok' := fun k_ => (P0_ k_ ∨ w.heap.size ≤ k_) ∧ k_ ≠ gb185 ∧ k_ ≠ gb186) ho0 (fun k_ hk_ => ⟨Or.elim hk_ (fun hs_ => hs_.1.1) (fun hn_ => (.inr (Nat.le_trans (below_size (by repeat (first | (with_reducible first | exact HB.out | apply below_alloc | apply pw_below_drewN | apply below_drew1 | refine below_set ?_ GE185.out | refine below_set ?_ GE186.out) | exact HB.out))) hn_))), Or.elim hk_ (fun hs_ => hs_.1.2) (fun hn_ => (Kd.freshB (g := gb185) (o := .cells #[.int .i64 a2_0, .int .i64 a2_1, .bool a2_2, .int .i64 a2_3, .int .i64 a2_4, .int .i64 a2_5, .string a2_6] 49 (0, 0)) (by (with_reducible repeat (first | refine blk_drewN ?_ _ | refine blk_drew ?_ | refine blk_alloc ?_ _)); exact BK185.out) k_ hn_)), Or.elim hk_ (fun hs_ => hs_.2) (fun hn_ => (Kd.freshB (g := gb186) (o := .cells #[.int .i64 a3_0, .int .i64 a3_1, .bool a3_2, .int .i64 a3_3, .int .i64 a3_4, .int .i64 a3_5, .string a3_6] 49 (0, 0)) (by (with_reducible repeat (first | refine blk_drewN ?_ _ | refine blk_drew ?_ | refine blk_alloc ?_ _)); exact BK186.out) k_ hn_))⟩)) (below_size (by repeat (first | (with_reducible first | exact HB.out | apply below_alloc | apply pw_below_drewN | apply below_drew1 | refine below_set ?_ GE185.out | refine below_set ?_ GE186.out) | exact HB.out)))); have n2_ := Aside0.mk (blk_below (g := gb185) (o := .cells #[.int .i64 a2_0, .int .i64 a2_1, .bool a2_2, .int .i64 a2_3, .int .i64 a2_4, .int .i64 a2_5, .string a2_6] 49 (0, 0)) (by (with_reducible repeat (first | refine blk_drewN ?_ _ | refine blk_drew ?_ | refine blk_alloc ?_ _)); exact BK185.out) hb); have n3_ := Aside0.mk (blk_below (g := gb186) (o := .cells #[.int .i64 a3_0, .int .i64 a3_1, .bool a3_2, .int .i64 a3_3, .int .i64 a3_4, .int .i64 a3_5, .string a3_6] 49 (0, 0)) (by (with_reducible repeat (first | refine blk_drewN ?_ _ | refine blk_drew ?_ | refine blk_alloc ?_ _)); exact BK186.out) hb); have n4_ := Aside0.mk (below_step (by repeat (first | (with_reducible first | exact HB.out | apply below_alloc | apply pw_below_drewN | apply below_drew1 | refine below_set ?_ GE185.out | refine below_set ?_ GE186.out) | exact HB.out)) hb); clear HO0; clear BK185; clear BK186; clear HB; have HO0 := n0_; have HO190 := n1_; have BK185 := n2_; have BK186 := n3_; have HB := n4_; clear n0_ n1_ n2_ n3_ n4_; (try clear hb); (try clear hb2); (try clear hk); (try clear hi); (try clear ho0)))
    (try simp only [Act.put, List.setIfInBounds_toArray, List.set_cons_zero, List.set_cons_succ])
    go_cut [36] (fun v36 wc => ∃ (kq : Nat) (x36_7 : Bool), v36 = .bool x36_7 ∧ Aside0 (kissgatelaw19_RelayQuiet.j0 kq l0 a1 x36_7 a2_0 a2_1 a2_2 a2_3 a2_4 a2_5 a2_6 a3_0 a3_1 a3_2 a3_3 a3_4 a3_5 a3_6 = some r) ∧ Aside0 (kq ≤ k) ∧ Aside0 (Kd.V k54 54 wc w.heap.size (fun k_ => (P0_ k_ ∨ w.heap.size ≤ k_) ∧ k_ ≠ gb185 ∧ k_ ≠ gb186) (.slice A0 l0.length c0) l0) ∧ Aside0 (wc.heap[gb185]? = some (.cells #[.int .i64 a2_0, .int .i64 a2_1, .bool a2_2, .int .i64 a2_3, .int .i64 a2_4, .int .i64 a2_5, .string a2_6] 49 (0, 0))) ∧ Aside0 (wc.heap[gb186]? = some (.cells #[.int .i64 a3_0, .int .i64 a3_1, .bool a3_2, .int .i64 a3_3, .int .i64 a3_4, .int .i64 a3_5, .string a3_6] 49 (0, 0))) ∧ Aside0 (Below w.heap.size w wc))
    case first =>
      have H := HC8.out
      clear HC8
      by_cases c13 : t191 = true
      · subst c13
        have H1 : (if (a2_6.size : Int) > 1000 then (kissgatelaw19_RelayQuiet.j0 k l0 a1 true a2_0 a2_1 a2_2 a2_3 a2_4 a2_5 a2_6 a3_0 a3_1 a3_2 a3_3 a3_4 a3_5 a3_6) else (kissgatelaw19_RelayQuiet.j0 k l0 a1 (decide ((a3_6.size : Int) > 1000)) a2_0 a2_1 a2_2 a2_3 a2_4 a2_5 a2_6 a3_0 a3_1 a3_2 a3_3 a3_4 a3_5 a3_6)) = some r := by rw [if_pos rfl] at H; exact H
        clear H
        have H := H1
        clear H1
        by_cases c14 : (a2_6.size : Int) > 1000
        · rw [if_pos c14] at H
          have c14b0 : decide (1000 < (a2_6.size : Int)) = true := decide_eq_true c14
          have c14b1 : decide (1000 < a2_6.size) = true := decide_eq_true (by omega)
          clear c14
          (first | rw [c14b0] | (simp only [i64_w, i32_w]; rw [c14b0]) | skip)
          have H' := Aside0.mk H
          clear H
          have hnb15 := NB185_186.out
          have hnc15 := NB186_185.out
          have hcz16_0 : w12.cell? ⟨gb185, 0, none⟩ = some (.int .i64 a2_0) := (blk_cell BK185.out 0).trans rfl
          have hcz16_1 : w12.cell? ⟨gb185, 1, none⟩ = some (.int .i64 a2_1) := (blk_cell BK185.out 1).trans rfl
          have hcz16_2 : w12.cell? ⟨gb185, 2, none⟩ = some (.bool a2_2) := (blk_cell BK185.out 2).trans rfl
          have hcz16_3 : w12.cell? ⟨gb185, 3, none⟩ = some (.int .i64 a2_3) := (blk_cell BK185.out 3).trans rfl
          have hcz16_4 : w12.cell? ⟨gb185, 4, none⟩ = some (.int .i64 a2_4) := (blk_cell BK185.out 4).trans rfl
          have hcz16_5 : w12.cell? ⟨gb185, 5, none⟩ = some (.int .i64 a2_5) := (blk_cell BK185.out 5).trans rfl
          have hcz16_6 : w12.cell? ⟨gb185, 6, none⟩ = some (.string a2_6) := (blk_cell BK185.out 6).trans rfl
          have hfz16_0 := blk_frozen BK185.out 0
          have hfz16_1 := blk_frozen BK185.out 1
          have hfz16_2 := blk_frozen BK185.out 2
          have hfz16_3 := blk_frozen BK185.out 3
          have hfz16_4 := blk_frozen BK185.out 4
          have hfz16_5 := blk_frozen BK185.out 5
          have hfz16_6 := blk_frozen BK185.out 6
          go_wp2
          go_meet
          case rel => exact ⟨_, (true), (by first | rfl | (simp; done) | (simp [*]; done)), H', ⟨by first | omega | exact Nat.le_refl _⟩, ⟨by (with_reducible repeat (first | apply Kd.V_alloc | apply Kd.V_drewN | apply Kd.V_drew)); exact Kd.V_mono HO0.out (fun _ hk => ⟨hk.1.1.1, ⟨hk.1.1.2, hk.1.2⟩⟩)⟩, ⟨by (with_reducible repeat (first | refine blk_drewN ?_ _ | refine blk_drew ?_ | refine blk_alloc ?_ _)); exact BK185.out⟩, ⟨by (with_reducible repeat (first | refine blk_drewN ?_ _ | refine blk_drew ?_ | refine blk_alloc ?_ _)); exact BK186.out⟩, ⟨by repeat (first | (with_reducible first | exact HB.out | apply below_alloc | apply pw_below_drewN | apply below_drew1 | refine below_set ?_ GE185.out | refine below_set ?_ GE186.out) | exact HB.out)⟩⟩
        · rw [if_neg c14] at H
          have c14b0 : decide (1000 < (a2_6.size : Int)) = false := decide_eq_false c14
          have c14b1 : decide (1000 < a2_6.size) = false := decide_eq_false (by omega)
          clear c14
          (first | rw [c14b0] | (simp only [i64_w, i32_w]; rw [c14b0]) | skip)
          have H' := Aside0.mk H
          clear H
          have hnb17 := NB185_186.out
          have hnc17 := NB186_185.out
          have hcz18_0 : w12.cell? ⟨gb185, 0, none⟩ = some (.int .i64 a2_0) := (blk_cell BK185.out 0).trans rfl
          have hcz18_1 : w12.cell? ⟨gb185, 1, none⟩ = some (.int .i64 a2_1) := (blk_cell BK185.out 1).trans rfl
          have hcz18_2 : w12.cell? ⟨gb185, 2, none⟩ = some (.bool a2_2) := (blk_cell BK185.out 2).trans rfl
          have hcz18_3 : w12.cell? ⟨gb185, 3, none⟩ = some (.int .i64 a2_3) := (blk_cell BK185.out 3).trans rfl
          have hcz18_4 : w12.cell? ⟨gb185, 4, none⟩ = some (.int .i64 a2_4) := (blk_cell BK185.out 4).trans rfl
          have hcz18_5 : w12.cell? ⟨gb185, 5, none⟩ = some (.int .i64 a2_5) := (blk_cell BK185.out 5).trans rfl
          have hcz18_6 : w12.cell? ⟨gb185, 6, none⟩ = some (.string a2_6) := (blk_cell BK185.out 6).trans rfl
          have hfz18_0 := blk_frozen BK185.out 0
          have hfz18_1 := blk_frozen BK185.out 1
          have hfz18_2 := blk_frozen BK185.out 2
          have hfz18_3 := blk_frozen BK185.out 3
          have hfz18_4 := blk_frozen BK185.out 4
          have hfz18_5 := blk_frozen BK185.out 5
          have hfz18_6 := blk_frozen BK185.out 6
          have hcz19_0 : w12.cell? ⟨gb186, 0, none⟩ = some (.int .i64 a3_0) := (blk_cell BK186.out 0).trans rfl
          have hcz19_1 : w12.cell? ⟨gb186, 1, none⟩ = some (.int .i64 a3_1) := (blk_cell BK186.out 1).trans rfl
          have hcz19_2 : w12.cell? ⟨gb186, 2, none⟩ = some (.bool a3_2) := (blk_cell BK186.out 2).trans rfl
          have hcz19_3 : w12.cell? ⟨gb186, 3, none⟩ = some (.int .i64 a3_3) := (blk_cell BK186.out 3).trans rfl
          have hcz19_4 : w12.cell? ⟨gb186, 4, none⟩ = some (.int .i64 a3_4) := (blk_cell BK186.out 4).trans rfl
          have hcz19_5 : w12.cell? ⟨gb186, 5, none⟩ = some (.int .i64 a3_5) := (blk_cell BK186.out 5).trans rfl
          have hcz19_6 : w12.cell? ⟨gb186, 6, none⟩ = some (.string a3_6) := (blk_cell BK186.out 6).trans rfl
          have hfz19_0 := blk_frozen BK186.out 0
          have hfz19_1 := blk_frozen BK186.out 1
          have hfz19_2 := blk_frozen BK186.out 2
          have hfz19_3 := blk_frozen BK186.out 3
          have hfz19_4 := blk_frozen BK186.out 4
          have hfz19_5 := blk_frozen BK186.out 5
          have hfz19_6 := blk_frozen BK186.out 6
          go_wp2
          go_meet
          case rel => exact ⟨_, (decide ((a3_6.size : Int) > 1000)), (by first | rfl | (simp; done) | (simp [*]; done)), H', ⟨by first | omega | exact Nat.le_refl _⟩, ⟨by (with_reducible repeat (first | apply Kd.V_alloc | apply Kd.V_drewN | apply Kd.V_drew)); exact Kd.V_mono HO0.out (fun _ hk => ⟨hk.1.1.1, ⟨hk.1.1.2, hk.1.2⟩⟩)⟩, ⟨by (with_reducible repeat (first | refine blk_drewN ?_ _ | refine blk_drew ?_ | refine blk_alloc ?_ _)); exact BK185.out⟩, ⟨by (with_reducible repeat (first | refine blk_drewN ?_ _ | refine blk_drew ?_ | refine blk_alloc ?_ _)); exact BK186.out⟩, ⟨by repeat (first | (with_reducible first | exact HB.out | apply below_alloc | apply pw_below_drewN | apply below_drew1 | refine below_set ?_ GE185.out | refine below_set ?_ GE186.out) | exact HB.out)⟩⟩
      · replace c13 := Bool.eq_false_iff.mpr c13
        subst c13
        have H1 : (kissgatelaw19_RelayQuiet.j0 k l0 a1 true a2_0 a2_1 a2_2 a2_3 a2_4 a2_5 a2_6 a3_0 a3_1 a3_2 a3_3 a3_4 a3_5 a3_6) = some r := by rw [if_neg (show ¬ (false = true) by decide)] at H; exact H
        clear H
        have H := H1
        clear H1
        have H' := Aside0.mk H
        clear H
        go_wp2
        go_meet
        case rel => exact ⟨_, (true), (by first | rfl | (simp; done) | (simp [*]; done)), H', ⟨by first | omega | exact Nat.le_refl _⟩, ⟨by (with_reducible repeat (first | apply Kd.V_alloc | apply Kd.V_drewN | apply Kd.V_drew)); exact Kd.V_mono HO0.out (fun _ hk => ⟨hk.1.1.1, ⟨hk.1.1.2, hk.1.2⟩⟩)⟩, ⟨by (with_reducible repeat (first | refine blk_drewN ?_ _ | refine blk_drew ?_ | refine blk_alloc ?_ _)); exact BK185.out⟩, ⟨by (with_reducible repeat (first | refine blk_drewN ?_ _ | refine blk_drew ?_ | refine blk_alloc ?_ _)); exact BK186.out⟩, ⟨by repeat (first | (with_reducible first | exact HB.out | apply below_alloc | apply pw_below_drewN | apply below_drew1 | refine below_set ?_ GE185.out | refine below_set ?_ GE186.out) | exact HB.out)⟩⟩
    case rest =>
      clear HC8
      try clear c1
      try clear c2
      try clear p2
      try clear c6
      try clear c9
      try clear c13
      try clear c14
      try clear c14b0
      try clear c14b1
      try clear c15
      try clear c17
      try clear hcz16_0
      try clear hcz16_1
      try clear hcz16_2
      try clear hcz16_3
      try clear hcz16_4
      try clear hcz16_5
      try clear hcz16_6
      try clear hcz18_0
      try clear hcz18_1
      try clear hcz18_2
      try clear hcz18_3
      try clear hcz18_4
      try clear hcz18_5
      try clear hcz18_6
      try clear hcz19_0
      try clear hcz19_1
      try clear hcz19_2
      try clear hcz19_3
      try clear hcz19_4
      try clear hcz19_5
      try clear hcz19_6
      try clear hfz16_0
      try clear hfz16_1
      try clear hfz16_2
      try clear hfz16_3
      try clear hfz16_4
      try clear hfz16_5
      try clear hfz16_6
      try clear hfz18_0
      try clear hfz18_1
      try clear hfz18_2
      try clear hfz18_3
      try clear hfz18_4
      try clear hfz18_5
      try clear hfz18_6
      try clear hfz19_0
      try clear hfz19_1
      try clear hfz19_2
      try clear hfz19_3
      try clear hfz19_4
      try clear hfz19_5
      try clear hfz19_6
      obtain ⟨kq, x36_7, rfl, HA, HJ7, HO_0, BK185, BK186, HB⟩ := hcut
      cases kq with
      | zero => exact absurd HA.out (by simp [kissgatelaw19_RelayQuiet.j0])
      | succ kj7 =>
        have H := HA.out
        clear HA
        simp only [kissgatelaw19_RelayQuiet.j0] at H
        by_cases c20 : x36_7 = true
        · subst c20
          have H1 : (some true) = some r := by rw [if_pos rfl] at H; exact H
          clear H
          have H := H1
          clear H1
          obtain rfl := Option.some.inj H
          go_wp2
          go_ret
          exact ⟨by first | rfl | (simp [errW_none, errW_some] <;> rfl) | (simp [*, errW_none, errW_some] <;> rfl), by repeat (first | (with_reducible first | exact HB.out | apply below_alloc | apply pw_below_drewN | apply below_drew1 | refine below_set ?_ GE185.out | refine below_set ?_ GE186.out) | exact HB.out)⟩
        · replace c20 := Bool.eq_false_iff.mpr c20
          subst c20
          have H1 : (kissgatelaw19_RelayQuiet.l0 kj7 l0 a1 ([] : List (S54)) ([] : List (S54)) l0 (l0.length : Int) 0 a2_0 a2_1 a2_2 a2_3 a2_4 a2_5 a2_6 a3_0 a3_1 a3_2 a3_3 a3_4 a3_5 a3_6) = some r := by rw [if_neg (show ¬ (false = true) by decide)] at H; exact H
          clear H
          have H := H1
          clear H1
          have H' := Aside0.mk H
          clear H
          go_wp2
          go_loopg [11, 12, 39] kj7 (fun kq v11 v12 v39 w' => ∃ (x11_2 : List (S54)) (x12_2 : List (S54)) (x39_2 : Int), v39 = .int .i64 x39_2 ∧ Aside0 (kissgatelaw19_RelayQuiet.l0 kq l0 a1 x11_2 x12_2 l0 (l0.length : Int) x39_2 a2_0 a2_1 a2_2 a2_3 a2_4 a2_5 a2_6 a3_0 a3_1 a3_2 a3_3 a3_4 a3_5 a3_6 = some r) ∧ Aside0 (kq ≤ kj7) ∧ Aside0 (Kd.V k54 54 w' w.heap.size (fun k_ => (P0_ k_ ∨ w.heap.size ≤ k_) ∧ some k_ ≠ (v11 : Value).ownBlock ∧ some k_ ≠ (v12 : Value).ownBlock ∧ k_ ≠ gb185 ∧ k_ ≠ gb186) (.slice A0 l0.length c0) l0) ∧ Aside0 (Kd.N k54 54 w' w.heap.size (fun k_ => (P0_ k_ ∨ w.heap.size ≤ k_) ∧ some k_ ≠ (v12 : Value).ownBlock ∧ k_ ≠ gb185 ∧ k_ ≠ gb186) v11 x11_2) ∧ Aside0 (Kd.N k54 54 w' w.heap.size (fun k_ => (P0_ k_ ∨ w.heap.size ≤ k_) ∧ some k_ ≠ (v11 : Value).ownBlock ∧ k_ ≠ gb185 ∧ k_ ≠ gb186) v12 x12_2) ∧ Aside0 (Kd.V k54 54 w' w.heap.size (fun k_ => (P0_ k_ ∨ w.heap.size ≤ k_) ∧ some k_ ≠ (v11 : Value).ownBlock ∧ some k_ ≠ (v12 : Value).ownBlock ∧ k_ ≠ gb185 ∧ k_ ≠ gb186) (.slice A0 l0.length c0) l0) ∧ Aside0 (w'.heap[gb185]? = some (.cells #[.int .i64 a2_0, .int .i64 a2_1, .bool a2_2, .int .i64 a2_3, .int .i64 a2_4, .int .i64 a2_5, .string a2_6] 49 (0, 0))) ∧ Aside0 (w'.heap[gb186]? = some (.cells #[.int .i64 a3_0, .int .i64 a3_1, .bool a3_2, .int .i64 a3_3, .int .i64 a3_4, .int .i64 a3_5, .string a3_6] 49 (0, 0))) ∧ Aside0 (Below w.heap.size w w'))
          case atStart => exact ⟨(([] : List (S54))), (([] : List (S54))), (0), (by first | rfl | (simp; done) | (simp [*]; done)), H', ⟨Nat.le_refl _⟩, ⟨by (with_reducible repeat (first | apply Kd.V_alloc | apply Kd.V_drewN | apply Kd.V_drew)); exact Kd.V_mono HO_0.out (fun _ hk => ⟨hk.1, ⟨(by simp [Value.ownBlock]), ⟨(by simp [Value.ownBlock]), ⟨hk.2.1, hk.2.2⟩⟩⟩⟩)⟩, ⟨by first | exact Kd.S_nil _ _ _ _ _ | exact Kd.N_nil _ _ _ _ _ | exact Kd.V_nil _ _ _ _ _ | exact Kd.Q_nil _ _ _ _ _ | exact Kd.R_nil _ _ _ _ _⟩, ⟨by first | exact Kd.S_nil _ _ _ _ _ | exact Kd.N_nil _ _ _ _ _ | exact Kd.V_nil _ _ _ _ _ | exact Kd.Q_nil _ _ _ _ _ | exact Kd.R_nil _ _ _ _ _⟩, ⟨by (with_reducible repeat (first | apply Kd.V_alloc | apply Kd.V_drewN | apply Kd.V_drew)); exact Kd.V_mono HO_0.out (fun _ hk => ⟨hk.1, ⟨(by simp [Value.ownBlock]), ⟨(by simp [Value.ownBlock]), ⟨hk.2.1, hk.2.2⟩⟩⟩⟩)⟩, ⟨by (with_reducible repeat (first | refine blk_drewN ?_ _ | refine blk_drew ?_ | refine blk_alloc ?_ _)); exact BK185.out⟩, ⟨by (with_reducible repeat (first | refine blk_drewN ?_ _ | refine blk_drew ?_ | refine blk_alloc ?_ _)); exact BK186.out⟩, ⟨by repeat (first | (with_reducible first | exact HB.out | apply below_alloc | apply pw_below_drewN | apply below_drew1 | refine below_set ?_ GE185.out | refine below_set ?_ GE186.out) | exact HB.out)⟩⟩
          case round =>
            clear H'
            try clear c1
            try clear c2
            try clear p2
            try clear c6
            try clear c9
            try clear c13
            try clear c14
            try clear c14b0
            try clear c14b1
            try clear c15
            try clear c17
            try clear c20
            try clear hcz16_0
            try clear hcz16_1
            try clear hcz16_2
            try clear hcz16_3
            try clear hcz16_4
            try clear hcz16_5
            try clear hcz16_6
            try clear hcz18_0
            try clear hcz18_1
            try clear hcz18_2
            try clear hcz18_3
            try clear hcz18_4
            try clear hcz18_5
            try clear hcz18_6
            try clear hcz19_0
            try clear hcz19_1
            try clear hcz19_2
            try clear hcz19_3
            try clear hcz19_4
            try clear hcz19_5
            try clear hcz19_6
            try clear hfz16_0
            try clear hfz16_1
            try clear hfz16_2
            try clear hfz16_3
            try clear hfz16_4
            try clear hfz16_5
            try clear hfz16_6
            try clear hfz18_0
            try clear hfz18_1
            try clear hfz18_2
            try clear hfz18_3
            try clear hfz18_4
            try clear hfz18_5
            try clear hfz18_6
            try clear hfz19_0
            try clear hfz19_1
            try clear hfz19_2
            try clear hfz19_3
            try clear hfz19_4
            try clear hfz19_5
            try clear hfz19_6
            try clear p2
            obtain ⟨x11_2, x12_2, x39_2, rfl, HA, HK2, HO_0, HO_11, HO_12, HO_37, BK185, BK186, HB⟩ := hrel
            cases gk with
            | zero => exact absurd HA.out (by simp [kissgatelaw19_RelayQuiet.l0])
            | succ k2 =>
              have H := HA.out
              clear HA
              simp only [kissgatelaw19_RelayQuiet.l0] at H
              by_cases c21 : x39_2 < (l0.length : Int)
              · rw [if_pos c21] at H
                have c21b0 : decide (x39_2 < (l0.length : Int)) = true := decide_eq_true c21
                clear c21
                by_cases c22 : 0 ≤ x39_2
                · rw [if_pos c22] at H
                  have c22b0 : decide (0 ≤ x39_2) = true := decide_eq_true c22
                  clear c22
                  by_cases c23 : x39_2 < (l0.length : Int)
                  · rw [if_pos c23] at H
                    have c23b0 : decide (x39_2 < (l0.length : Int)) = true := decide_eq_true c23
                    clear c23
                    obtain ⟨ji24, hji24⟩ : ∃ j_ : Int, (mx ((rd_T54 l0 x39_2).f0) 0) = j_ := ⟨_, rfl⟩
                    replace H : (if x11_2.length < 2932031007402 then (if x12_2.length < 2932031007402 then (kissgatelaw19_RelayQuiet.l0 k2 l0 a1 (x11_2 ++ [(⟨mn (ji24) 1, (rd_T54 l0 x39_2).f1, (rd_T54 l0 x39_2).f2, (rd_T54 l0 x39_2).f3⟩ : S54)]) (x12_2 ++ [(⟨(rd_T54 l0 x39_2).f0, (rd_T54 l0 x39_2).f1, (rd_T54 l0 x39_2).f2, ([] : List Int)⟩ : S54)]) l0 (l0.length : Int) (wrap64 (x39_2 + 1)) a2_0 a2_1 a2_2 a2_3 a2_4 a2_5 a2_6 a3_0 a3_1 a3_2 a3_3 a3_4 a3_5 a3_6) else (none)) else (none)) = some r := by first | (rw [hji24] at H; exact H) | (simp only [hji24] at H ⊢; exact H)
                    have hji24_ : (if ((rd_T54 l0 x39_2).f0) < 0 then 0 else ((rd_T54 l0 x39_2).f0)) = ji24 := hji24
                    obtain ⟨ji25, hji25⟩ : ∃ j_ : Int, (mn (ji24) 1) = j_ := ⟨_, rfl⟩
                    replace H : (if x11_2.length < 2932031007402 then (if x12_2.length < 2932031007402 then (kissgatelaw19_RelayQuiet.l0 k2 l0 a1 (x11_2 ++ [(⟨ji25, (rd_T54 l0 x39_2).f1, (rd_T54 l0 x39_2).f2, (rd_T54 l0 x39_2).f3⟩ : S54)]) (x12_2 ++ [(⟨(rd_T54 l0 x39_2).f0, (rd_T54 l0 x39_2).f1, (rd_T54 l0 x39_2).f2, ([] : List Int)⟩ : S54)]) l0 (l0.length : Int) (wrap64 (x39_2 + 1)) a2_0 a2_1 a2_2 a2_3 a2_4 a2_5 a2_6 a3_0 a3_1 a3_2 a3_3 a3_4 a3_5 a3_6) else (none)) else (none)) = some r := by first | (rw [hji25] at H; exact H) | (simp only [hji25] at H ⊢; exact H)
                    have hji25_ : (if 1 < (ji24) then 1 else (ji24)) = ji25 := hji25
                    by_cases c26 : x11_2.length < 2932031007402
                    · rw [if_pos c26] at H
                      have LMc26 := Aside0.mk c26
                      clear c26
                      obtain ⟨y195, hy195⟩ : ∃ y_ : List (S54), y_ = (x11_2 ++ [(⟨ji25, (rd_T54 l0 x39_2).f1, (rd_T54 l0 x39_2).f2, (rd_T54 l0 x39_2).f3⟩ : S54)]) := ⟨_, rfl⟩
                      replace H : (if x12_2.length < 2932031007402 then (kissgatelaw19_RelayQuiet.l0 k2 l0 a1 y195 (x12_2 ++ [(⟨(rd_T54 l0 x39_2).f0, (rd_T54 l0 x39_2).f1, (rd_T54 l0 x39_2).f2, ([] : List Int)⟩ : S54)]) l0 (l0.length : Int) (wrap64 (x39_2 + 1)) a2_0 a2_1 a2_2 a2_3 a2_4 a2_5 a2_6 a3_0 a3_1 a3_2 a3_3 a3_4 a3_5 a3_6) else (none)) = some r := by first | (rw [hy195]; with_reducible exact H) | (have H2_ := (Option.bind_some _ _).symm.trans H; rw [hy195]; with_reducible exact H2_) | (have H2_ := (Option.bind_some _ _).symm.trans H; with_reducible exact H2_) | with_reducible exact H | (rw [hy195]; exact H) | exact H
                      have Ny195 := Aside0.mk hy195
                      clear hy195
                      by_cases c27 : x12_2.length < 2932031007402
                      · rw [if_pos c27] at H
                        have LMc27 := Aside0.mk c27
                        clear c27
                        obtain ⟨y198, hy198⟩ : ∃ y_ : List (S54), y_ = (x12_2 ++ [(⟨(rd_T54 l0 x39_2).f0, (rd_T54 l0 x39_2).f1, (rd_T54 l0 x39_2).f2, ([] : List Int)⟩ : S54)]) := ⟨_, rfl⟩
                        replace H : (kissgatelaw19_RelayQuiet.l0 k2 l0 a1 y195 y198 l0 (l0.length : Int) (wrap64 (x39_2 + 1)) a2_0 a2_1 a2_2 a2_3 a2_4 a2_5 a2_6 a3_0 a3_1 a3_2 a3_3 a3_4 a3_5 a3_6) = some r := by first | (rw [hy198]; with_reducible exact H) | (have H2_ := (Option.bind_some _ _).symm.trans H; rw [hy198]; with_reducible exact H2_) | (have H2_ := (Option.bind_some _ _).symm.trans H; with_reducible exact H2_) | with_reducible exact H | (rw [hy198]; exact H) | exact H
                        have Ny198 := Aside0.mk hy198
                        clear hy198
                        have H' := Aside0.mk H
                        clear H
                        have p192 : 0 ≤ (x39_2 : Int) := of_decide_eq_true (by first | (with_reducible assumption) | assumption)
                        have q192 : x39_2 < (l0.length : Int) := of_decide_eq_true (by first | (with_reducible assumption) | assumption)
                        obtain ⟨ad192, A192_3, c192_3, e192, hx192_0, hx192_1, hx192_2, hx192_3, hl192_3, hi192_3⟩ := at_T54 (Kd.V_reads' HO_37.out).2.2 x39_2 p192 q192
                        cases e192
                        obtain ⟨ce192, hce192, hMe192, hcc192⟩ := Kd.V_get HO_37.out z54 x39_2 p192 (by first | exact q192 | exact of_decide_eq_true (by first | (with_reducible assumption) | assumption) | (have e_ := (Kd.V_reads' HO_37.out).1; omega))
                        obtain ⟨ua192_3, uc192_3, rfl, ul192_3, ge192_3⟩ := k54_openF hMe192
                        have hv192_3 := hcc192 3 _ rfl
                        rw [add_field _ _ 3 (by omega)] at hv192_3
                        replace hv192_3 := Option.some.inj (hv192_3.symm.trans hx192_3)
                        injection hv192_3 with hva_ hvn_ hvc_
                        rw [hva_] at ge192_3
                        rw [hvc_] at ul192_3
                        have HL192_3 := Aside0.mk (show Kd.V (Kd.int .i64) 3 _ w.heap.size _ _ ((rd_T54 l0 x39_2).f3) from Kd.V_mk ul192_3 ge192_3)
                        clear hva_ hvn_ hvc_ ge192_3 ul192_3
                        clear hcc192 hce192
                        have HR192_3 := Aside0.mk hi192_3
                        have HC192_3 := Aside0.mk hl192_3
                        clear hi192_3 hl192_3
                        replace p192 := eq_true p192
                        replace q192 := eq_true q192
                        go_wp2_with (first | ((with_reducible refine gate_dst (N := 14) rfl ?_); (try (refine gate_guard (by rfl) ?_; dsimp only)); refine box_event ?hg (N := 14) ?hd (cs := #[.int .i64 0, .int .i64 0, .bool false, .slice none 0 0]) (t := 54) ?hr ?_; (case hd => rfl); (case hg => rfl); (case hr => first | (go_simp; done) | (go_simp; rfl)); intro gb193 hg w28 hbox hb; have n0_ := Aside0.mk (Kd.V_below (Kd.V_elderB (by (with_reducible repeat (first | apply Kd.V_alloc | apply Kd.V_drewN | apply Kd.V_drew)); exact HO_0.out) gb193 (Nat.le_of_eq hg.symm)) hb); have n1_ := Aside0.mk (Kd.N_below (Kd.N_elderB (by (with_reducible repeat (first | apply Kd.N_alloc | apply Kd.N_drewN | apply Kd.N_drew)); exact HO_11.out) gb193 (Nat.le_of_eq hg.symm)) hb); have n2_ := Aside0.mk (Kd.N_below (Kd.N_elderB (by (with_reducible repeat (first | apply Kd.N_alloc | apply Kd.N_drewN | apply Kd.N_drew)); exact HO_12.out) gb193 (Nat.le_of_eq hg.symm)) hb); have n3_ := Aside0.mk (Kd.V_below (Kd.V_elderB (by (with_reducible repeat (first | apply Kd.V_alloc | apply Kd.V_drewN | apply Kd.V_drew)); exact HO_37.out) gb193 (Nat.le_of_eq hg.symm)) hb); have n4_ := Aside0.mk (Kd.V_below (Kd.V_elderB (by (with_reducible repeat (first | apply Kd.V_alloc | apply Kd.V_drewN | apply Kd.V_drew)); exact HL192_3.out) gb193 (Nat.le_of_eq hg.symm)) hb); have n5_ := Aside0.mk (blk_below (g := gb185) (o := .cells #[.int .i64 a2_0, .int .i64 a2_1, .bool a2_2, .int .i64 a2_3, .int .i64 a2_4, .int .i64 a2_5, .string a2_6] 49 (0, 0)) (by (with_reducible repeat (first | refine blk_drewN ?_ _ | refine blk_drew ?_ | refine blk_alloc ?_ _)); exact BK185.out) hb); have n6_ := Aside0.mk (blk_below (g := gb186) (o := .cells #[.int .i64 a3_0, .int .i64 a3_1, .bool a3_2, .int .i64 a3_3, .int .i64 a3_4, .int .i64 a3_5, .string a3_6] 49 (0, 0)) (by (with_reducible repeat (first | refine blk_drewN ?_ _ | refine blk_drew ?_ | refine blk_alloc ?_ _)); exact BK186.out) hb); have n7_ := Aside0.mk (Kd.C_below (by repeat (first | (with_reducible exact HR192_3.out) | (with_reducible refine Kd.C_alloc ?_ _) | (with_reducible refine Kd.C_drewN ?_ _) | (with_reducible refine Kd.C_drew ?_) | exact HR192_3.out)) hb); have n8_ := Aside0.mk (below_step (by repeat (first | (with_reducible first | exact HB.out | apply below_alloc | apply pw_below_drewN | apply below_drew1 | refine below_set ?_ GE185.out | refine below_set ?_ GE186.out) | exact HB.out)) hb); have n9_ := Aside0.mk (hbox); have n10_ := Aside0.mk ((by rw [hg]; exact (below_size (by repeat (first | (with_reducible first | exact HB.out | apply below_alloc | apply pw_below_drewN | apply below_drew1 | refine below_set ?_ GE185.out | refine below_set ?_ GE186.out) | exact HB.out))) : w.heap.size ≤ gb193)); have n11_ := Aside0.mk ((by rw [hg]; exact (below_size (by repeat (first | (with_reducible first | exact HB.out | apply below_alloc | apply pw_below_drewN | apply below_drew1 | refine below_set ?_ GE185.out | refine below_set ?_ GE186.out) | exact HB.out))) : w.heap.size ≤ gb193)); have n12_ := Aside0.mk ((by rw [hg]; exact Nat.ne_of_lt (blk_lt (g := gb185) (o := .cells #[.int .i64 a2_0, .int .i64 a2_1, .bool a2_2, .int .i64 a2_3, .int .i64 a2_4, .int .i64 a2_5, .string a2_6] 49 (0, 0)) (by (with_reducible repeat (first | refine blk_drewN ?_ _ | refine blk_drew ?_ | refine blk_alloc ?_ _)); exact BK185.out)) : gb185 ≠ gb193)); have n13_ := Aside0.mk ((by rw [hg]; exact Nat.ne_of_gt (blk_lt (g := gb185) (o := .cells #[.int .i64 a2_0, .int .i64 a2_1, .bool a2_2, .int .i64 a2_3, .int .i64 a2_4, .int .i64 a2_5, .string a2_6] 49 (0, 0)) (by (with_reducible repeat (first | refine blk_drewN ?_ _ | refine blk_drew ?_ | refine blk_alloc ?_ _)); exact BK185.out)) : gb193 ≠ gb185)); have n14_ := Aside0.mk ((by rw [hg]; exact Nat.ne_of_lt (blk_lt (g := gb186) (o := .cells #[.int .i64 a3_0, .int .i64 a3_1, .bool a3_2, .int .i64 a3_3, .int .i64 a3_4, .int .i64 a3_5, .string a3_6] 49 (0, 0)) (by (with_reducible repeat (first | refine blk_drewN ?_ _ | refine blk_drew ?_ | refine blk_alloc ?_ _)); exact BK186.out)) : gb186 ≠ gb193)); have n15_ := Aside0.mk ((by rw [hg]; exact Nat.ne_of_gt (blk_lt (g := gb186) (o := .cells #[.int .i64 a3_0, .int .i64 a3_1, .bool a3_2, .int .i64 a3_3, .int .i64 a3_4, .int .i64 a3_5, .string a3_6] 49 (0, 0)) (by (with_reducible repeat (first | refine blk_drewN ?_ _ | refine blk_drew ?_ | refine blk_alloc ?_ _)); exact BK186.out)) : gb193 ≠ gb186)); clear HO_0; clear HO_11; clear HO_12; clear HO_37; clear HL192_3; clear BK185; clear BK186; clear HR192_3; clear HB; have HO_0 := n0_; have HO_11 := n1_; have HO_12 := n2_; have HO_37 := n3_; have HL192_3 := n4_; have BK185 := n5_; have BK186 := n6_; have HR192_3 := n7_; have HB := n8_; have BK193 := n9_; have GW193 := n10_; have GE193 := n11_; have NB185_193 := n12_; have NB193_185 := n13_; have NB186_193 := n14_; have NB193_186 := n15_; clear n0_ n1_ n2_ n3_ n4_ n5_ n6_ n7_ n8_ n9_ n10_ n11_ n12_ n13_ n14_ n15_; clear hb hbox hg; have hnb29 := NB193_185.out; have hnc29 := NB185_193.out; have hnb30 := NB193_186.out; have hnc30 := NB186_193.out; have hcz31_0 : w28.cell? ⟨gb193, 0, none⟩ = some (.int .i64 0) := (blk_cell BK193.out 0).trans rfl; have hcz31_1 : w28.cell? ⟨gb193, 1, none⟩ = some (.int .i64 0) := (blk_cell BK193.out 1).trans rfl; have hcz31_2 : w28.cell? ⟨gb193, 2, none⟩ = some (.bool false) := (blk_cell BK193.out 2).trans rfl; have hcz31_3 : w28.cell? ⟨gb193, 3, none⟩ = some (.slice none 0 0) := (blk_cell BK193.out 3).trans rfl; have hfz31_0 := blk_frozen BK193.out 0; have hfz31_1 := blk_frozen BK193.out 1; have hfz31_2 := blk_frozen BK193.out 2; have hfz31_3 := blk_frozen BK193.out 3) | ((with_reducible refine gate_dst (N := 15) rfl ?_); (try (refine gate_guard (by rfl) ?_; dsimp only)); refine box_event ?hg (N := 15) ?hd (cs := #[.int .i64 0, .int .i64 0, .bool false, .slice none 0 0]) (t := 54) ?hr ?_; (case hd => rfl); (case hg => rfl); (case hr => first | (go_simp; done) | (go_simp; rfl)); intro gb194 hg w32 hbox hb; have n0_ := Aside0.mk (Kd.V_below (Kd.V_elderB (by (with_reducible repeat (first | apply Kd.V_alloc | apply Kd.V_drewN | apply Kd.V_drew)); exact (Kd.V_mono (Kd.V_far (p := ⟨gb193, 3, none⟩) (Kd.V_far (p := ⟨gb193, 2, none⟩) (Kd.V_far (p := ⟨gb193, 1, none⟩) (Kd.V_far (p := ⟨gb193, 0, none⟩) (Kd.V_mono HO_0.out (fun k_ hk => (⟨hk, hk.2⟩ : _ ∧ k_ ≠ gb193))) (fun _ hk => hk.2) (.int .i64 ((rd_T54 l0 x39_2).f0))) (fun _ hk => hk.2) (.int .i64 ((rd_T54 l0 x39_2).f1))) (fun _ hk => hk.2) (.bool ((rd_T54 l0 x39_2).f2))) (fun _ hk => hk.2) (.slice A192_3 ((rd_T54 l0 x39_2).f3).length c192_3)) (fun _ h_ => h_.1))) gb194 (Nat.le_of_eq hg.symm)) hb); have n1_ := Aside0.mk (Kd.N_below (Kd.N_elderB (by (with_reducible repeat (first | apply Kd.N_alloc | apply Kd.N_drewN | apply Kd.N_drew)); exact (Kd.N_mono (Kd.N_far (p := ⟨gb193, 3, none⟩) (Kd.N_far (p := ⟨gb193, 2, none⟩) (Kd.N_far (p := ⟨gb193, 1, none⟩) (Kd.N_far (p := ⟨gb193, 0, none⟩) (Kd.N_mono HO_11.out (fun k_ hk => (⟨hk, hk.2⟩ : _ ∧ k_ ≠ gb193))) (fun _ hk => hk.2) (.int .i64 ((rd_T54 l0 x39_2).f0))) (fun _ hk => hk.2) (.int .i64 ((rd_T54 l0 x39_2).f1))) (fun _ hk => hk.2) (.bool ((rd_T54 l0 x39_2).f2))) (fun _ hk => hk.2) (.slice A192_3 ((rd_T54 l0 x39_2).f3).length c192_3)) (fun _ h_ => h_.1))) gb194 (Nat.le_of_eq hg.symm)) hb); have n2_ := Aside0.mk (Kd.N_below (Kd.N_elderB (by (with_reducible repeat (first | apply Kd.N_alloc | apply Kd.N_drewN | apply Kd.N_drew)); exact (Kd.N_mono (Kd.N_far (p := ⟨gb193, 3, none⟩) (Kd.N_far (p := ⟨gb193, 2, none⟩) (Kd.N_far (p := ⟨gb193, 1, none⟩) (Kd.N_far (p := ⟨gb193, 0, none⟩) (Kd.N_mono HO_12.out (fun k_ hk => (⟨hk, hk.2⟩ : _ ∧ k_ ≠ gb193))) (fun _ hk => hk.2) (.int .i64 ((rd_T54 l0 x39_2).f0))) (fun _ hk => hk.2) (.int .i64 ((rd_T54 l0 x39_2).f1))) (fun _ hk => hk.2) (.bool ((rd_T54 l0 x39_2).f2))) (fun _ hk => hk.2) (.slice A192_3 ((rd_T54 l0 x39_2).f3).length c192_3)) (fun _ h_ => h_.1))) gb194 (Nat.le_of_eq hg.symm)) hb); have n3_ := Aside0.mk (Kd.V_below (Kd.V_elderB (by (with_reducible repeat (first | apply Kd.V_alloc | apply Kd.V_drewN | apply Kd.V_drew)); exact (Kd.V_mono (Kd.V_far (p := ⟨gb193, 3, none⟩) (Kd.V_far (p := ⟨gb193, 2, none⟩) (Kd.V_far (p := ⟨gb193, 1, none⟩) (Kd.V_far (p := ⟨gb193, 0, none⟩) (Kd.V_mono HO_37.out (fun k_ hk => (⟨hk, hk.2⟩ : _ ∧ k_ ≠ gb193))) (fun _ hk => hk.2) (.int .i64 ((rd_T54 l0 x39_2).f0))) (fun _ hk => hk.2) (.int .i64 ((rd_T54 l0 x39_2).f1))) (fun _ hk => hk.2) (.bool ((rd_T54 l0 x39_2).f2))) (fun _ hk => hk.2) (.slice A192_3 ((rd_T54 l0 x39_2).f3).length c192_3)) (fun _ h_ => h_.1))) gb194 (Nat.le_of_eq hg.symm)) hb); have n4_ := Aside0.mk (Kd.V_below (Kd.V_elderB (by (with_reducible repeat (first | apply Kd.V_alloc | apply Kd.V_drewN | apply Kd.V_drew)); exact (Kd.V_mono (Kd.V_far (p := ⟨gb193, 3, none⟩) (Kd.V_far (p := ⟨gb193, 2, none⟩) (Kd.V_far (p := ⟨gb193, 1, none⟩) (Kd.V_far (p := ⟨gb193, 0, none⟩) (Kd.V_mono HL192_3.out (fun k_ hk => (⟨hk, hk.2⟩ : _ ∧ k_ ≠ gb193))) (fun _ hk => hk.2) (.int .i64 ((rd_T54 l0 x39_2).f0))) (fun _ hk => hk.2) (.int .i64 ((rd_T54 l0 x39_2).f1))) (fun _ hk => hk.2) (.bool ((rd_T54 l0 x39_2).f2))) (fun _ hk => hk.2) (.slice A192_3 ((rd_T54 l0 x39_2).f3).length c192_3)) (fun _ h_ => h_.1))) gb194 (Nat.le_of_eq hg.symm)) hb); have n5_ := Aside0.mk (blk_below (g := gb185) (o := .cells #[.int .i64 a2_0, .int .i64 a2_1, .bool a2_2, .int .i64 a2_3, .int .i64 a2_4, .int .i64 a2_5, .string a2_6] 49 (0, 0)) (by (with_reducible repeat (first | refine blk_drewN ?_ _ | refine blk_drew ?_ | refine blk_alloc ?_ _)); refine blk_far ?_ NB185_193.out _; (with_reducible repeat (first | refine blk_drewN ?_ _ | refine blk_drew ?_ | refine blk_alloc ?_ _)); refine blk_far ?_ NB185_193.out _; (with_reducible repeat (first | refine blk_drewN ?_ _ | refine blk_drew ?_ | refine blk_alloc ?_ _)); refine blk_far ?_ NB185_193.out _; (with_reducible repeat (first | refine blk_drewN ?_ _ | refine blk_drew ?_ | refine blk_alloc ?_ _)); refine blk_far ?_ NB185_193.out _; (with_reducible repeat (first | refine blk_drewN ?_ _ | refine blk_drew ?_ | refine blk_alloc ?_ _)); exact BK185.out) hb); have n6_ := Aside0.mk (blk_below (g := gb186) (o := .cells #[.int .i64 a3_0, .int .i64 a3_1, .bool a3_2, .int .i64 a3_3, .int .i64 a3_4, .int .i64 a3_5, .string a3_6] 49 (0, 0)) (by (with_reducible repeat (first | refine blk_drewN ?_ _ | refine blk_drew ?_ | refine blk_alloc ?_ _)); refine blk_far ?_ NB186_193.out _; (with_reducible repeat (first | refine blk_drewN ?_ _ | refine blk_drew ?_ | refine blk_alloc ?_ _)); refine blk_far ?_ NB186_193.out _; (with_reducible repeat (first | refine blk_drewN ?_ _ | refine blk_drew ?_ | refine blk_alloc ?_ _)); refine blk_far ?_ NB186_193.out _; (with_reducible repeat (first | refine blk_drewN ?_ _ | refine blk_drew ?_ | refine blk_alloc ?_ _)); refine blk_far ?_ NB186_193.out _; (with_reducible repeat (first | refine blk_drewN ?_ _ | refine blk_drew ?_ | refine blk_alloc ?_ _)); exact BK186.out) hb); have n7_ := Aside0.mk (Kd.C_below ((Kd.V_reads' (by (with_reducible repeat (first | apply Kd.V_alloc | apply Kd.V_drewN | apply Kd.V_drew)); exact (Kd.V_mono (Kd.V_far (p := ⟨gb193, 3, none⟩) (Kd.V_far (p := ⟨gb193, 2, none⟩) (Kd.V_far (p := ⟨gb193, 1, none⟩) (Kd.V_far (p := ⟨gb193, 0, none⟩) (Kd.V_mono HL192_3.out (fun k_ hk => (⟨hk, hk.2⟩ : _ ∧ k_ ≠ gb193))) (fun _ hk => hk.2) (.int .i64 ((rd_T54 l0 x39_2).f0))) (fun _ hk => hk.2) (.int .i64 ((rd_T54 l0 x39_2).f1))) (fun _ hk => hk.2) (.bool ((rd_T54 l0 x39_2).f2))) (fun _ hk => hk.2) (.slice A192_3 ((rd_T54 l0 x39_2).f3).length c192_3)) (fun _ h_ => h_.1)))).2.2) hb); have n8_ := Aside0.mk (blk_below (g := gb193) (o := .cells #[.int .i64 ((rd_T54 l0 x39_2).f0), .int .i64 ((rd_T54 l0 x39_2).f1), .bool ((rd_T54 l0 x39_2).f2), .slice A192_3 ((rd_T54 l0 x39_2).f3).length c192_3] 54 (0, 0)) (by (with_reducible repeat (first | refine blk_drewN ?_ _ | refine blk_drew ?_ | refine blk_alloc ?_ _)); refine blk_put (cs := #[.int .i64 ((rd_T54 l0 x39_2).f0), .int .i64 ((rd_T54 l0 x39_2).f1), .bool ((rd_T54 l0 x39_2).f2), .slice none 0 0]) ?_ 3 _ rfl; (with_reducible repeat (first | refine blk_drewN ?_ _ | refine blk_drew ?_ | refine blk_alloc ?_ _)); refine blk_put (cs := #[.int .i64 ((rd_T54 l0 x39_2).f0), .int .i64 ((rd_T54 l0 x39_2).f1), .bool false, .slice none 0 0]) ?_ 2 _ rfl; (with_reducible repeat (first | refine blk_drewN ?_ _ | refine blk_drew ?_ | refine blk_alloc ?_ _)); refine blk_put (cs := #[.int .i64 ((rd_T54 l0 x39_2).f0), .int .i64 0, .bool false, .slice none 0 0]) ?_ 1 _ rfl; (with_reducible repeat (first | refine blk_drewN ?_ _ | refine blk_drew ?_ | refine blk_alloc ?_ _)); refine blk_put (cs := #[.int .i64 0, .int .i64 0, .bool false, .slice none 0 0]) ?_ 0 _ rfl; (with_reducible repeat (first | refine blk_drewN ?_ _ | refine blk_drew ?_ | refine blk_alloc ?_ _)); exact BK193.out) hb); have n9_ := Aside0.mk (below_step (by repeat (first | (with_reducible first | exact HB.out | apply below_alloc | apply pw_below_drewN | apply below_drew1 | refine below_set ?_ GE185.out | refine below_set ?_ GE186.out | refine below_set ?_ GE193.out) | exact HB.out)) hb); have n10_ := Aside0.mk (hbox); have n11_ := Aside0.mk ((by rw [hg]; exact (below_size (by repeat (first | (with_reducible first | exact HB.out | apply below_alloc | apply pw_below_drewN | apply below_drew1 | refine below_set ?_ GE185.out | refine below_set ?_ GE186.out | refine below_set ?_ GE193.out) | exact HB.out))) : w.heap.size ≤ gb194)); have n12_ := Aside0.mk ((by rw [hg]; exact (below_size (by repeat (first | (with_reducible first | exact HB.out | apply below_alloc | apply pw_below_drewN | apply below_drew1 | refine below_set ?_ GE185.out | refine below_set ?_ GE186.out | refine below_set ?_ GE193.out) | exact HB.out))) : w.heap.size ≤ gb194)); have n13_ := Aside0.mk ((by rw [hg]; exact Nat.ne_of_lt (blk_lt (g := gb185) (o := .cells #[.int .i64 a2_0, .int .i64 a2_1, .bool a2_2, .int .i64 a2_3, .int .i64 a2_4, .int .i64 a2_5, .string a2_6] 49 (0, 0)) (by (with_reducible repeat (first | refine blk_drewN ?_ _ | refine blk_drew ?_ | refine blk_alloc ?_ _)); refine blk_far ?_ NB185_193.out _; (with_reducible repeat (first | refine blk_drewN ?_ _ | refine blk_drew ?_ | refine blk_alloc ?_ _)); refine blk_far ?_ NB185_193.out _; (with_reducible repeat (first | refine blk_drewN ?_ _ | refine blk_drew ?_ | refine blk_alloc ?_ _)); refine blk_far ?_ NB185_193.out _; (with_reducible repeat (first | refine blk_drewN ?_ _ | refine blk_drew ?_ | refine blk_alloc ?_ _)); refine blk_far ?_ NB185_193.out _; (with_reducible repeat (first | refine blk_drewN ?_ _ | refine blk_drew ?_ | refine blk_alloc ?_ _)); exact BK185.out)) : gb185 ≠ gb194)); have n14_ := Aside0.mk ((by rw [hg]; exact Nat.ne_of_gt (blk_lt (g := gb185) (o := .cells #[.int .i64 a2_0, .int .i64 a2_1, .bool a2_2, .int .i64 a2_3, .int .i64 a2_4, .int .i64 a2_5, .string a2_6] 49 (0, 0)) (by (with_reducible repeat (first | refine blk_drewN ?_ _ | refine blk_drew ?_ | refine blk_alloc ?_ _)); refine blk_far ?_ NB185_193.out _; (with_reducible repeat (first | refine blk_drewN ?_ _ | refine blk_drew ?_ | refine blk_alloc ?_ _)); refine blk_far ?_ NB185_193.out _; (with_reducible repeat (first | refine blk_drewN ?_ _ | refine blk_drew ?_ | refine blk_alloc ?_ _)); refine blk_far ?_ NB185_193.out _; (with_reducible repeat (first | refine blk_drewN ?_ _ | refine blk_drew ?_ | refine blk_alloc ?_ _)); refine blk_far ?_ NB185_193.out _; (with_reducible repeat (first | refine blk_drewN ?_ _ | refine blk_drew ?_ | refine blk_alloc ?_ _)); exact BK185.out)) : gb194 ≠ gb185)); have n15_ := Aside0.mk ((by rw [hg]; exact Nat.ne_of_lt (blk_lt (g := gb186) (o := .cells #[.int .i64 a3_0, .int .i64 a3_1, .bool a3_2, .int .i64 a3_3, .int .i64 a3_4, .int .i64 a3_5, .string a3_6] 49 (0, 0)) (by (with_reducible repeat (first | refine blk_drewN ?_ _ | refine blk_drew ?_ | refine blk_alloc ?_ _)); refine blk_far ?_ NB186_193.out _; (with_reducible repeat (first | refine blk_drewN ?_ _ | refine blk_drew ?_ | refine blk_alloc ?_ _)); refine blk_far ?_ NB186_193.out _; (with_reducible repeat (first | refine blk_drewN ?_ _ | refine blk_drew ?_ | refine blk_alloc ?_ _)); refine blk_far ?_ NB186_193.out _; (with_reducible repeat (first | refine blk_drewN ?_ _ | refine blk_drew ?_ | refine blk_alloc ?_ _)); refine blk_far ?_ NB186_193.out _; (with_reducible repeat (first | refine blk_drewN ?_ _ | refine blk_drew ?_ | refine blk_alloc ?_ _)); exact BK186.out)) : gb186 ≠ gb194)); have n16_ := Aside0.mk ((by rw [hg]; exact Nat.ne_of_gt (blk_lt (g := gb186) (o := .cells #[.int .i64 a3_0, .int .i64 a3_1, .bool a3_2, .int .i64 a3_3, .int .i64 a3_4, .int .i64 a3_5, .string a3_6] 49 (0, 0)) (by (with_reducible repeat (first | refine blk_drewN ?_ _ | refine blk_drew ?_ | refine blk_alloc ?_ _)); refine blk_far ?_ NB186_193.out _; (with_reducible repeat (first | refine blk_drewN ?_ _ | refine blk_drew ?_ | refine blk_alloc ?_ _)); refine blk_far ?_ NB186_193.out _; (with_reducible repeat (first | refine blk_drewN ?_ _ | refine blk_drew ?_ | refine blk_alloc ?_ _)); refine blk_far ?_ NB186_193.out _; (with_reducible repeat (first | refine blk_drewN ?_ _ | refine blk_drew ?_ | refine blk_alloc ?_ _)); refine blk_far ?_ NB186_193.out _; (with_reducible repeat (first | refine blk_drewN ?_ _ | refine blk_drew ?_ | refine blk_alloc ?_ _)); exact BK186.out)) : gb194 ≠ gb186)); have n17_ := Aside0.mk ((by rw [hg]; exact Nat.ne_of_lt (blk_lt (g := gb193) (o := .cells #[.int .i64 ((rd_T54 l0 x39_2).f0), .int .i64 ((rd_T54 l0 x39_2).f1), .bool ((rd_T54 l0 x39_2).f2), .slice A192_3 ((rd_T54 l0 x39_2).f3).length c192_3] 54 (0, 0)) (by (with_reducible repeat (first | refine blk_drewN ?_ _ | refine blk_drew ?_ | refine blk_alloc ?_ _)); refine blk_put (cs := #[.int .i64 ((rd_T54 l0 x39_2).f0), .int .i64 ((rd_T54 l0 x39_2).f1), .bool ((rd_T54 l0 x39_2).f2), .slice none 0 0]) ?_ 3 _ rfl; (with_reducible repeat (first | refine blk_drewN ?_ _ | refine blk_drew ?_ | refine blk_alloc ?_ _)); refine blk_put (cs := #[.int .i64 ((rd_T54 l0 x39_2).f0), .int .i64 ((rd_T54 l0 x39_2).f1), .bool false, .slice none 0 0]) ?_ 2 _ rfl; (with_reducible repeat (first | refine blk_drewN ?_ _ | refine blk_drew ?_ | refine blk_alloc ?_ _)); refine blk_put (cs := #[.int .i64 ((rd_T54 l0 x39_2).f0), .int .i64 0, .bool false, .slice none 0 0]) ?_ 1 _ rfl; (with_reducible repeat (first | refine blk_drewN ?_ _ | refine blk_drew ?_ | refine blk_alloc ?_ _)); refine blk_put (cs := #[.int .i64 0, .int .i64 0, .bool false, .slice none 0 0]) ?_ 0 _ rfl; (with_reducible repeat (first | refine blk_drewN ?_ _ | refine blk_drew ?_ | refine blk_alloc ?_ _)); exact BK193.out)) : gb193 ≠ gb194)); have n18_ := Aside0.mk ((by rw [hg]; exact Nat.ne_of_gt (blk_lt (g := gb193) (o := .cells #[.int .i64 ((rd_T54 l0 x39_2).f0), .int .i64 ((rd_T54 l0 x39_2).f1), .bool ((rd_T54 l0 x39_2).f2), .slice A192_3 ((rd_T54 l0 x39_2).f3).length c192_3] 54 (0, 0)) (by (with_reducible repeat (first | refine blk_drewN ?_ _ | refine blk_drew ?_ | refine blk_alloc ?_ _)); refine blk_put (cs := #[.int .i64 ((rd_T54 l0 x39_2).f0), .int .i64 ((rd_T54 l0 x39_2).f1), .bool ((rd_T54 l0 x39_2).f2), .slice none 0 0]) ?_ 3 _ rfl; (with_reducible repeat (first | refine blk_drewN ?_ _ | refine blk_drew ?_ | refine blk_alloc ?_ _)); refine blk_put (cs := #[.int .i64 ((rd_T54 l0 x39_2).f0), .int .i64 ((rd_T54 l0 x39_2).f1), .bool false, .slice none 0 0]) ?_ 2 _ rfl; (with_reducible repeat (first | refine blk_drewN ?_ _ | refine blk_drew ?_ | refine blk_alloc ?_ _)); refine blk_put (cs := #[.int .i64 ((rd_T54 l0 x39_2).f0), .int .i64 0, .bool false, .slice none 0 0]) ?_ 1 _ rfl; (with_reducible repeat (first | refine blk_drewN ?_ _ | refine blk_drew ?_ | refine blk_alloc ?_ _)); refine blk_put (cs := #[.int .i64 0, .int .i64 0, .bool false, .slice none 0 0]) ?_ 0 _ rfl; (with_reducible repeat (first | refine blk_drewN ?_ _ | refine blk_drew ?_ | refine blk_alloc ?_ _)); exact BK193.out)) : gb194 ≠ gb193)); clear HO_0; clear HO_11; clear HO_12; clear HO_37; clear HL192_3; clear BK185; clear BK186; clear HR192_3; clear BK193; clear HB; have HO_0 := n0_; have HO_11 := n1_; have HO_12 := n2_; have HO_37 := n3_; have HL192_3 := n4_; have BK185 := n5_; have BK186 := n6_; have HR192_3 := n7_; have BK193 := n8_; have HB := n9_; have BK194 := n10_; have GW194 := n11_; have GE194 := n12_; have NB185_194 := n13_; have NB194_185 := n14_; have NB186_194 := n15_; have NB194_186 := n16_; have NB193_194 := n17_; have NB194_193 := n18_; clear n0_ n1_ n2_ n3_ n4_ n5_ n6_ n7_ n8_ n9_ n10_ n11_ n12_ n13_ n14_ n15_ n16_ n17_ n18_; clear hb hbox hg; have hnb33 := NB194_185.out; have hnc33 := NB185_194.out; have hnb34 := NB194_186.out; have hnc34 := NB186_194.out; have hnb35 := NB194_193.out; have hnc35 := NB193_194.out; have hcz36_0 : w32.cell? ⟨gb194, 0, none⟩ = some (.int .i64 0) := (blk_cell BK194.out 0).trans rfl; have hcz36_1 : w32.cell? ⟨gb194, 1, none⟩ = some (.int .i64 0) := (blk_cell BK194.out 1).trans rfl; have hcz36_2 : w32.cell? ⟨gb194, 2, none⟩ = some (.bool false) := (blk_cell BK194.out 2).trans rfl; have hcz36_3 : w32.cell? ⟨gb194, 3, none⟩ = some (.slice none 0 0) := (blk_cell BK194.out 3).trans rfl; have hfz36_0 := blk_frozen BK194.out 0; have hfz36_1 := blk_frozen BK194.out 1; have hfz36_2 := blk_frozen BK194.out 2; have hfz36_3 := blk_frozen BK194.out 3) | ((with_reducible refine gate_store (t := 54) (p := 15) rfl ?_); refine store_event (t := 54) (p := 15) (v := ?vo_w37) (w1 := ((((w32.setCell ⟨gb194, 0, none⟩ (.int .i64 ((rd_T54 l0 x39_2).f0))).setCell ⟨gb194, 1, none⟩ (.int .i64 ((rd_T54 l0 x39_2).f1))).setCell ⟨gb194, 2, none⟩ (.bool ((rd_T54 l0 x39_2).f2))).setCell ⟨gb194, 3, none⟩ (.slice A192_3 ((rd_T54 l0 x39_2).f3).length c192_3))) ?hg ?ho ?hn ?hr ?_; (case ho => rfl); (case hg => rfl); (case hn => rfl); (case hr => first | (go_simp; done) | (go_simp; rfl)); intro w37 hw; have n0_ : Aside0 (Kd.V k54 54 w37 w.heap.size (fun k_ => (P0_ k_ ∨ w.heap.size ≤ k_) ∧ some k_ ≠ (u11 : Value).ownBlock ∧ some k_ ≠ (u12 : Value).ownBlock ∧ k_ ≠ gb185 ∧ k_ ≠ gb186 ∧ k_ ≠ gb193 ∧ k_ ≠ gb194) (.slice (some ad192) l0.length c0) l0) := ⟨(by rw [hw]; exact (by (with_reducible repeat (first | apply Kd.V_alloc | apply Kd.V_drewN | apply Kd.V_drew)); exact Kd.V_mono (Kd.V_far (p := ⟨gb194, 3, none⟩) (Kd.V_far (p := ⟨gb194, 2, none⟩) (Kd.V_far (p := ⟨gb194, 1, none⟩) (Kd.V_far (p := ⟨gb194, 0, none⟩) (Kd.V_mono HO_0.out (fun k_ hk => (⟨hk, hk.2⟩ : _ ∧ k_ ≠ gb194))) (fun _ hk => hk.2) (.int .i64 ((rd_T54 l0 x39_2).f0))) (fun _ hk => hk.2) (.int .i64 ((rd_T54 l0 x39_2).f1))) (fun _ hk => hk.2) (.bool ((rd_T54 l0 x39_2).f2))) (fun _ hk => hk.2) (.slice A192_3 ((rd_T54 l0 x39_2).f3).length c192_3)) (fun _ hk => ⟨hk.1.1.1.1, ⟨hk.1.1.1.2.1, ⟨hk.1.1.1.2.2.1, ⟨hk.1.1.1.2.2.2.1, ⟨hk.1.1.1.2.2.2.2, ⟨hk.1.1.2, hk.1.2⟩⟩⟩⟩⟩⟩)))⟩; have n1_ : Aside0 (Kd.N k54 54 w37 w.heap.size (fun k_ => (P0_ k_ ∨ w.heap.size ≤ k_) ∧ some k_ ≠ (u12 : Value).ownBlock ∧ k_ ≠ gb185 ∧ k_ ≠ gb186 ∧ k_ ≠ gb193 ∧ k_ ≠ gb194) u11 x11_2) := ⟨(by rw [hw]; exact (by (with_reducible repeat (first | apply Kd.N_alloc | apply Kd.N_drewN | apply Kd.N_drew)); exact Kd.N_mono (Kd.N_far (p := ⟨gb194, 3, none⟩) (Kd.N_far (p := ⟨gb194, 2, none⟩) (Kd.N_far (p := ⟨gb194, 1, none⟩) (Kd.N_far (p := ⟨gb194, 0, none⟩) (Kd.N_mono HO_11.out (fun k_ hk => (⟨hk, hk.2⟩ : _ ∧ k_ ≠ gb194))) (fun _ hk => hk.2) (.int .i64 ((rd_T54 l0 x39_2).f0))) (fun _ hk => hk.2) (.int .i64 ((rd_T54 l0 x39_2).f1))) (fun _ hk => hk.2) (.bool ((rd_T54 l0 x39_2).f2))) (fun _ hk => hk.2) (.slice A192_3 ((rd_T54 l0 x39_2).f3).length c192_3)) (fun _ hk => ⟨hk.1.1.1.1, ⟨hk.1.1.1.2.1, ⟨hk.1.1.1.2.2.1, ⟨hk.1.1.1.2.2.2, ⟨hk.1.1.2, hk.1.2⟩⟩⟩⟩⟩)))⟩; have n2_ : Aside0 (Kd.N k54 54 w37 w.heap.size (fun k_ => (P0_ k_ ∨ w.heap.size ≤ k_) ∧ some k_ ≠ (u11 : Value).ownBlock ∧ k_ ≠ gb185 ∧ k_ ≠ gb186 ∧ k_ ≠ gb193 ∧ k_ ≠ gb194) u12 x12_2) := ⟨(by rw [hw]; exact (by (with_reducible repeat (first | apply Kd.N_alloc | apply Kd.N_drewN | apply Kd.N_drew)); exact Kd.N_mono (Kd.N_far (p := ⟨gb194, 3, none⟩) (Kd.N_far (p := ⟨gb194, 2, none⟩) (Kd.N_far (p := ⟨gb194, 1, none⟩) (Kd.N_far (p := ⟨gb194, 0, none⟩) (Kd.N_mono HO_12.out (fun k_ hk => (⟨hk, hk.2⟩ : _ ∧ k_ ≠ gb194))) (fun _ hk => hk.2) (.int .i64 ((rd_T54 l0 x39_2).f0))) (fun _ hk => hk.2) (.int .i64 ((rd_T54 l0 x39_2).f1))) (fun _ hk => hk.2) (.bool ((rd_T54 l0 x39_2).f2))) (fun _ hk => hk.2) (.slice A192_3 ((rd_T54 l0 x39_2).f3).length c192_3)) (fun _ hk => ⟨hk.1.1.1.1, ⟨hk.1.1.1.2.1, ⟨hk.1.1.1.2.2.1, ⟨hk.1.1.1.2.2.2, ⟨hk.1.1.2, hk.1.2⟩⟩⟩⟩⟩)))⟩; have n3_ : Aside0 (Kd.V k54 54 w37 w.heap.size (fun k_ => (P0_ k_ ∨ w.heap.size ≤ k_) ∧ some k_ ≠ (u11 : Value).ownBlock ∧ some k_ ≠ (u12 : Value).ownBlock ∧ k_ ≠ gb185 ∧ k_ ≠ gb186 ∧ k_ ≠ gb193 ∧ k_ ≠ gb194) (.slice (some ad192) l0.length c0) l0) := ⟨(by rw [hw]; exact (by (with_reducible repeat (first | apply Kd.V_alloc | apply Kd.V_drewN | apply Kd.V_drew)); exact Kd.V_mono (Kd.V_far (p := ⟨gb194, 3, none⟩) (Kd.V_far (p := ⟨gb194, 2, none⟩) (Kd.V_far (p := ⟨gb194, 1, none⟩) (Kd.V_far (p := ⟨gb194, 0, none⟩) (Kd.V_mono HO_37.out (fun k_ hk => (⟨hk, hk.2⟩ : _ ∧ k_ ≠ gb194))) (fun _ hk => hk.2) (.int .i64 ((rd_T54 l0 x39_2).f0))) (fun _ hk => hk.2) (.int .i64 ((rd_T54 l0 x39_2).f1))) (fun _ hk => hk.2) (.bool ((rd_T54 l0 x39_2).f2))) (fun _ hk => hk.2) (.slice A192_3 ((rd_T54 l0 x39_2).f3).length c192_3)) (fun _ hk => ⟨hk.1.1.1.1, ⟨hk.1.1.1.2.1, ⟨hk.1.1.1.2.2.1, ⟨hk.1.1.1.2.2.2.1, ⟨hk.1.1.1.2.2.2.2, ⟨hk.1.1.2, hk.1.2⟩⟩⟩⟩⟩⟩)))⟩; have n4_ : Aside0 (Kd.V (Kd.int .i64) 3 w37 w.heap.size (fun k_ => (P0_ k_ ∨ w.heap.size ≤ k_) ∧ some k_ ≠ (u11 : Value).ownBlock ∧ some k_ ≠ (u12 : Value).ownBlock ∧ k_ ≠ gb185 ∧ k_ ≠ gb186 ∧ k_ ≠ gb193 ∧ k_ ≠ gb194) (.slice A192_3 ((rd_T54 l0 x39_2).f3).length c192_3) ((rd_T54 l0 x39_2).f3)) := ⟨(by rw [hw]; exact (by (with_reducible repeat (first | apply Kd.V_alloc | apply Kd.V_drewN | apply Kd.V_drew)); exact Kd.V_mono (Kd.V_far (p := ⟨gb194, 3, none⟩) (Kd.V_far (p := ⟨gb194, 2, none⟩) (Kd.V_far (p := ⟨gb194, 1, none⟩) (Kd.V_far (p := ⟨gb194, 0, none⟩) (Kd.V_mono HL192_3.out (fun k_ hk => (⟨hk, hk.2⟩ : _ ∧ k_ ≠ gb194))) (fun _ hk => hk.2) (.int .i64 ((rd_T54 l0 x39_2).f0))) (fun _ hk => hk.2) (.int .i64 ((rd_T54 l0 x39_2).f1))) (fun _ hk => hk.2) (.bool ((rd_T54 l0 x39_2).f2))) (fun _ hk => hk.2) (.slice A192_3 ((rd_T54 l0 x39_2).f3).length c192_3)) (fun _ hk => ⟨hk.1.1.1.1, ⟨hk.1.1.1.2.1, ⟨hk.1.1.1.2.2.1, ⟨hk.1.1.1.2.2.2.1, ⟨hk.1.1.1.2.2.2.2, ⟨hk.1.1.2, hk.1.2⟩⟩⟩⟩⟩⟩)))⟩; have n5_ : Aside0 (w37.heap[gb185]? = some (.cells #[.int .i64 a2_0, .int .i64 a2_1, .bool a2_2, .int .i64 a2_3, .int .i64 a2_4, .int .i64 a2_5, .string a2_6] 49 (0, 0))) := ⟨(by rw [hw]; exact (by (with_reducible repeat (first | refine blk_drewN ?_ _ | refine blk_drew ?_ | refine blk_alloc ?_ _)); refine blk_far ?_ NB185_194.out _; (with_reducible repeat (first | refine blk_drewN ?_ _ | refine blk_drew ?_ | refine blk_alloc ?_ _)); refine blk_far ?_ NB185_194.out _; (with_reducible repeat (first | refine blk_drewN ?_ _ | refine blk_drew ?_ | refine blk_alloc ?_ _)); refine blk_far ?_ NB185_194.out _; (with_reducible repeat (first | refine blk_drewN ?_ _ | refine blk_drew ?_ | refine blk_alloc ?_ _)); refine blk_far ?_ NB185_194.out _; (with_reducible repeat (first | refine blk_drewN ?_ _ | refine blk_drew ?_ | refine blk_alloc ?_ _)); exact BK185.out))⟩; have n6_ : Aside0 (w37.heap[gb186]? = some (.cells #[.int .i64 a3_0, .int .i64 a3_1, .bool a3_2, .int .i64 a3_3, .int .i64 a3_4, .int .i64 a3_5, .string a3_6] 49 (0, 0))) := ⟨(by rw [hw]; exact (by (with_reducible repeat (first | refine blk_drewN ?_ _ | refine blk_drew ?_ | refine blk_alloc ?_ _)); refine blk_far ?_ NB186_194.out _; (with_reducible repeat (first | refine blk_drewN ?_ _ | refine blk_drew ?_ | refine blk_alloc ?_ _)); refine blk_far ?_ NB186_194.out _; (with_reducible repeat (first | refine blk_drewN ?_ _ | refine blk_drew ?_ | refine blk_alloc ?_ _)); refine blk_far ?_ NB186_194.out _; (with_reducible repeat (first | refine blk_drewN ?_ _ | refine blk_drew ?_ | refine blk_alloc ?_ _)); refine blk_far ?_ NB186_194.out _; (with_reducible repeat (first | refine blk_drewN ?_ _ | refine blk_drew ?_ | refine blk_alloc ?_ _)); exact BK186.out))⟩; have n7_ : Aside0 (w37.heap[gb193]? = some (.cells #[.int .i64 ((rd_T54 l0 x39_2).f0), .int .i64 ((rd_T54 l0 x39_2).f1), .bool ((rd_T54 l0 x39_2).f2), .slice A192_3 ((rd_T54 l0 x39_2).f3).length c192_3] 54 (0, 0))) := ⟨(by rw [hw]; exact (by (with_reducible repeat (first | refine blk_drewN ?_ _ | refine blk_drew ?_ | refine blk_alloc ?_ _)); refine blk_far ?_ NB193_194.out _; (with_reducible repeat (first | refine blk_drewN ?_ _ | refine blk_drew ?_ | refine blk_alloc ?_ _)); refine blk_far ?_ NB193_194.out _; (with_reducible repeat (first | refine blk_drewN ?_ _ | refine blk_drew ?_ | refine blk_alloc ?_ _)); refine blk_far ?_ NB193_194.out _; (with_reducible repeat (first | refine blk_drewN ?_ _ | refine blk_drew ?_ | refine blk_alloc ?_ _)); refine blk_far ?_ NB193_194.out _; (with_reducible repeat (first | refine blk_drewN ?_ _ | refine blk_drew ?_ | refine blk_alloc ?_ _)); exact BK193.out))⟩; have n8_ : Aside0 (w37.heap[gb194]? = some (.cells #[.int .i64 ((rd_T54 l0 x39_2).f0), .int .i64 ((rd_T54 l0 x39_2).f1), .bool ((rd_T54 l0 x39_2).f2), .slice A192_3 ((rd_T54 l0 x39_2).f3).length c192_3] 54 (0, 0))) := ⟨(by rw [hw]; exact (by (with_reducible repeat (first | refine blk_drewN ?_ _ | refine blk_drew ?_ | refine blk_alloc ?_ _)); refine blk_put (cs := #[.int .i64 ((rd_T54 l0 x39_2).f0), .int .i64 ((rd_T54 l0 x39_2).f1), .bool ((rd_T54 l0 x39_2).f2), .slice none 0 0]) ?_ 3 _ rfl; (with_reducible repeat (first | refine blk_drewN ?_ _ | refine blk_drew ?_ | refine blk_alloc ?_ _)); refine blk_put (cs := #[.int .i64 ((rd_T54 l0 x39_2).f0), .int .i64 ((rd_T54 l0 x39_2).f1), .bool false, .slice none 0 0]) ?_ 2 _ rfl; (with_reducible repeat (first | refine blk_drewN ?_ _ | refine blk_drew ?_ | refine blk_alloc ?_ _)); refine blk_put (cs := #[.int .i64 ((rd_T54 l0 x39_2).f0), .int .i64 0, .bool false, .slice none 0 0]) ?_ 1 _ rfl; (with_reducible repeat (first | refine blk_drewN ?_ _ | refine blk_drew ?_ | refine blk_alloc ?_ _)); refine blk_put (cs := #[.int .i64 0, .int .i64 0, .bool false, .slice none 0 0]) ?_ 0 _ rfl; (with_reducible repeat (first | refine blk_drewN ?_ _ | refine blk_drew ?_ | refine blk_alloc ?_ _)); exact BK194.out))⟩; have n9_ : Aside0 (Below w.heap.size w w37) := ⟨(by rw [hw]; exact (by repeat (first | (with_reducible first | exact HB.out | apply below_alloc | apply pw_below_drewN | apply below_drew1 | refine below_set ?_ GE185.out | refine below_set ?_ GE186.out | refine below_set ?_ GE193.out | refine below_set ?_ GE194.out) | exact HB.out)))⟩; clear hw; clear HO_0; clear HO_11; clear HO_12; clear HO_37; clear HL192_3; clear BK185; clear BK186; clear BK193; clear BK194; clear HB; have HO_0 := n0_; have HO_11 := n1_; have HO_12 := n2_; have HO_37 := n3_; have HL192_3 := n4_; have BK185 := n5_; have BK186 := n6_; have BK193 := n7_; have BK194 := n8_; have HB := n9_; clear n0_ n1_ n2_ n3_ n4_ n5_ n6_ n7_ n8_ n9_; have hcz38_0 : w37.cell? ⟨gb193, 0, none⟩ = some (.int .i64 ((rd_T54 l0 x39_2).f0)) := (blk_cell BK193.out 0).trans rfl; have hcz38_1 : w37.cell? ⟨gb193, 1, none⟩ = some (.int .i64 ((rd_T54 l0 x39_2).f1)) := (blk_cell BK193.out 1).trans rfl; have hcz38_2 : w37.cell? ⟨gb193, 2, none⟩ = some (.bool ((rd_T54 l0 x39_2).f2)) := (blk_cell BK193.out 2).trans rfl; have hcz38_3 : w37.cell? ⟨gb193, 3, none⟩ = some (.slice A192_3 ((rd_T54 l0 x39_2).f3).length c192_3) := (blk_cell BK193.out 3).trans rfl; have hfz38_0 := blk_frozen BK193.out 0; have hfz38_1 := blk_frozen BK193.out 1; have hfz38_2 := blk_frozen BK193.out 2; have hfz38_3 := blk_frozen BK193.out 3; have hcz39_0 : w37.cell? ⟨gb194, 0, none⟩ = some (.int .i64 ((rd_T54 l0 x39_2).f0)) := (blk_cell BK194.out 0).trans rfl; have hcz39_1 : w37.cell? ⟨gb194, 1, none⟩ = some (.int .i64 ((rd_T54 l0 x39_2).f1)) := (blk_cell BK194.out 1).trans rfl; have hcz39_2 : w37.cell? ⟨gb194, 2, none⟩ = some (.bool ((rd_T54 l0 x39_2).f2)) := (blk_cell BK194.out 2).trans rfl; have hcz39_3 : w37.cell? ⟨gb194, 3, none⟩ = some (.slice A192_3 ((rd_T54 l0 x39_2).f3).length c192_3) := (blk_cell BK194.out 3).trans rfl; have hfz39_0 := blk_frozen BK194.out 0; have hfz39_1 := blk_frozen BK194.out 1; have hfz39_2 := blk_frozen BK194.out 2; have hfz39_3 := blk_frozen BK194.out 3) | ((with_reducible refine gate_store (t := 3) (p := 48) rfl ?_); refine store_event (t := 3) (p := 48) (v := ?vo_w40) (w1 := (w37.setCell ⟨gb194, 0, none⟩ (.int .i64 ji25))) ?hg ?ho ?hn ?hr ?_; (case ho => rfl); (case hg => rfl); (case hn => rfl); (case hr => first | (go_simp; done) | (go_simp; rfl)); intro w40 hw; have n0_ : Aside0 (Kd.V k54 54 w40 w.heap.size (fun k_ => (P0_ k_ ∨ w.heap.size ≤ k_) ∧ some k_ ≠ (u11 : Value).ownBlock ∧ some k_ ≠ (u12 : Value).ownBlock ∧ k_ ≠ gb185 ∧ k_ ≠ gb186 ∧ k_ ≠ gb193 ∧ k_ ≠ gb194) (.slice (some ad192) l0.length c0) l0) := ⟨(by rw [hw]; exact (by (with_reducible repeat (first | apply Kd.V_alloc | apply Kd.V_drewN | apply Kd.V_drew)); exact Kd.V_mono (Kd.V_far (p := ⟨gb194, 0, none⟩) (Kd.V_mono HO_0.out (fun k_ hk => (⟨hk, hk.2.2.2.2.2.2⟩ : _ ∧ k_ ≠ gb194))) (fun _ hk => hk.2) (.int .i64 ji25)) (fun _ hk => ⟨hk.1.1, ⟨hk.1.2.1, ⟨hk.1.2.2.1, ⟨hk.1.2.2.2.1, ⟨hk.1.2.2.2.2.1, ⟨hk.1.2.2.2.2.2.1, hk.1.2.2.2.2.2.2⟩⟩⟩⟩⟩⟩)))⟩; have n1_ : Aside0 (Kd.N k54 54 w40 w.heap.size (fun k_ => (P0_ k_ ∨ w.heap.size ≤ k_) ∧ some k_ ≠ (u12 : Value).ownBlock ∧ k_ ≠ gb185 ∧ k_ ≠ gb186 ∧ k_ ≠ gb193 ∧ k_ ≠ gb194) u11 x11_2) := ⟨(by rw [hw]; exact (by (with_reducible repeat (first | apply Kd.N_alloc | apply Kd.N_drewN | apply Kd.N_drew)); exact Kd.N_mono (Kd.N_far (p := ⟨gb194, 0, none⟩) (Kd.N_mono HO_11.out (fun k_ hk => (⟨hk, hk.2.2.2.2.2⟩ : _ ∧ k_ ≠ gb194))) (fun _ hk => hk.2) (.int .i64 ji25)) (fun _ hk => ⟨hk.1.1, ⟨hk.1.2.1, ⟨hk.1.2.2.1, ⟨hk.1.2.2.2.1, ⟨hk.1.2.2.2.2.1, hk.1.2.2.2.2.2⟩⟩⟩⟩⟩)))⟩; have n2_ : Aside0 (Kd.N k54 54 w40 w.heap.size (fun k_ => (P0_ k_ ∨ w.heap.size ≤ k_) ∧ some k_ ≠ (u11 : Value).ownBlock ∧ k_ ≠ gb185 ∧ k_ ≠ gb186 ∧ k_ ≠ gb193 ∧ k_ ≠ gb194) u12 x12_2) := ⟨(by rw [hw]; exact (by (with_reducible repeat (first | apply Kd.N_alloc | apply Kd.N_drewN | apply Kd.N_drew)); exact Kd.N_mono (Kd.N_far (p := ⟨gb194, 0, none⟩) (Kd.N_mono HO_12.out (fun k_ hk => (⟨hk, hk.2.2.2.2.2⟩ : _ ∧ k_ ≠ gb194))) (fun _ hk => hk.2) (.int .i64 ji25)) (fun _ hk => ⟨hk.1.1, ⟨hk.1.2.1, ⟨hk.1.2.2.1, ⟨hk.1.2.2.2.1, ⟨hk.1.2.2.2.2.1, hk.1.2.2.2.2.2⟩⟩⟩⟩⟩)))⟩; have n3_ : Aside0 (Kd.V k54 54 w40 w.heap.size (fun k_ => (P0_ k_ ∨ w.heap.size ≤ k_) ∧ some k_ ≠ (u11 : Value).ownBlock ∧ some k_ ≠ (u12 : Value).ownBlock ∧ k_ ≠ gb185 ∧ k_ ≠ gb186 ∧ k_ ≠ gb193 ∧ k_ ≠ gb194) (.slice (some ad192) l0.length c0) l0) := ⟨(by rw [hw]; exact (by (with_reducible repeat (first | apply Kd.V_alloc | apply Kd.V_drewN | apply Kd.V_drew)); exact Kd.V_mono (Kd.V_far (p := ⟨gb194, 0, none⟩) (Kd.V_mono HO_37.out (fun k_ hk => (⟨hk, hk.2.2.2.2.2.2⟩ : _ ∧ k_ ≠ gb194))) (fun _ hk => hk.2) (.int .i64 ji25)) (fun _ hk => ⟨hk.1.1, ⟨hk.1.2.1, ⟨hk.1.2.2.1, ⟨hk.1.2.2.2.1, ⟨hk.1.2.2.2.2.1, ⟨hk.1.2.2.2.2.2.1, hk.1.2.2.2.2.2.2⟩⟩⟩⟩⟩⟩)))⟩; have n4_ : Aside0 (Kd.V (Kd.int .i64) 3 w40 w.heap.size (fun k_ => (P0_ k_ ∨ w.heap.size ≤ k_) ∧ some k_ ≠ (u11 : Value).ownBlock ∧ some k_ ≠ (u12 : Value).ownBlock ∧ k_ ≠ gb185 ∧ k_ ≠ gb186 ∧ k_ ≠ gb193 ∧ k_ ≠ gb194) (.slice A192_3 ((rd_T54 l0 x39_2).f3).length c192_3) ((rd_T54 l0 x39_2).f3)) := ⟨(by rw [hw]; exact (by (with_reducible repeat (first | apply Kd.V_alloc | apply Kd.V_drewN | apply Kd.V_drew)); exact Kd.V_mono (Kd.V_far (p := ⟨gb194, 0, none⟩) (Kd.V_mono HL192_3.out (fun k_ hk => (⟨hk, hk.2.2.2.2.2.2⟩ : _ ∧ k_ ≠ gb194))) (fun _ hk => hk.2) (.int .i64 ji25)) (fun _ hk => ⟨hk.1.1, ⟨hk.1.2.1, ⟨hk.1.2.2.1, ⟨hk.1.2.2.2.1, ⟨hk.1.2.2.2.2.1, ⟨hk.1.2.2.2.2.2.1, hk.1.2.2.2.2.2.2⟩⟩⟩⟩⟩⟩)))⟩; have n5_ : Aside0 (w40.heap[gb185]? = some (.cells #[.int .i64 a2_0, .int .i64 a2_1, .bool a2_2, .int .i64 a2_3, .int .i64 a2_4, .int .i64 a2_5, .string a2_6] 49 (0, 0))) := ⟨(by rw [hw]; exact (by (with_reducible repeat (first | refine blk_drewN ?_ _ | refine blk_drew ?_ | refine blk_alloc ?_ _)); refine blk_far ?_ NB185_194.out _; (with_reducible repeat (first | refine blk_drewN ?_ _ | refine blk_drew ?_ | refine blk_alloc ?_ _)); exact BK185.out))⟩; have n6_ : Aside0 (w40.heap[gb186]? = some (.cells #[.int .i64 a3_0, .int .i64 a3_1, .bool a3_2, .int .i64 a3_3, .int .i64 a3_4, .int .i64 a3_5, .string a3_6] 49 (0, 0))) := ⟨(by rw [hw]; exact (by (with_reducible repeat (first | refine blk_drewN ?_ _ | refine blk_drew ?_ | refine blk_alloc ?_ _)); refine blk_far ?_ NB186_194.out _; (with_reducible repeat (first | refine blk_drewN ?_ _ | refine blk_drew ?_ | refine blk_alloc ?_ _)); exact BK186.out))⟩; have n7_ : Aside0 (w40.heap[gb193]? = some (.cells #[.int .i64 ((rd_T54 l0 x39_2).f0), .int .i64 ((rd_T54 l0 x39_2).f1), .bool ((rd_T54 l0 x39_2).f2), .slice A192_3 ((rd_T54 l0 x39_2).f3).length c192_3] 54 (0, 0))) := ⟨(by rw [hw]; exact (by (with_reducible repeat (first | refine blk_drewN ?_ _ | refine blk_drew ?_ | refine blk_alloc ?_ _)); refine blk_far ?_ NB193_194.out _; (with_reducible repeat (first | refine blk_drewN ?_ _ | refine blk_drew ?_ | refine blk_alloc ?_ _)); exact BK193.out))⟩; have n8_ : Aside0 (w40.heap[gb194]? = some (.cells #[.int .i64 ji25, .int .i64 ((rd_T54 l0 x39_2).f1), .bool ((rd_T54 l0 x39_2).f2), .slice A192_3 ((rd_T54 l0 x39_2).f3).length c192_3] 54 (0, 0))) := ⟨(by rw [hw]; exact (by (with_reducible repeat (first | refine blk_drewN ?_ _ | refine blk_drew ?_ | refine blk_alloc ?_ _)); refine blk_put (cs := #[.int .i64 ((rd_T54 l0 x39_2).f0), .int .i64 ((rd_T54 l0 x39_2).f1), .bool ((rd_T54 l0 x39_2).f2), .slice A192_3 ((rd_T54 l0 x39_2).f3).length c192_3]) ?_ 0 _ rfl; (with_reducible repeat (first | refine blk_drewN ?_ _ | refine blk_drew ?_ | refine blk_alloc ?_ _)); exact BK194.out))⟩; have n9_ : Aside0 (Below w.heap.size w w40) := ⟨(by rw [hw]; exact (by repeat (first | (with_reducible first | exact HB.out | apply below_alloc | apply pw_below_drewN | apply below_drew1 | refine below_set ?_ GE185.out | refine below_set ?_ GE186.out | refine below_set ?_ GE193.out | refine below_set ?_ GE194.out) | exact HB.out)))⟩; clear hw; clear HO_0; clear HO_11; clear HO_12; clear HO_37; clear HL192_3; clear BK185; clear BK186; clear BK193; clear BK194; clear HB; have HO_0 := n0_; have HO_11 := n1_; have HO_12 := n2_; have HO_37 := n3_; have HL192_3 := n4_; have BK185 := n5_; have BK186 := n6_; have BK193 := n7_; have BK194 := n8_; have HB := n9_; clear n0_ n1_ n2_ n3_ n4_ n5_ n6_ n7_ n8_ n9_; have hcz41_0 : w40.cell? ⟨gb194, 0, none⟩ = some (.int .i64 ji25) := (blk_cell BK194.out 0).trans rfl; have hcz41_1 : w40.cell? ⟨gb194, 1, none⟩ = some (.int .i64 ((rd_T54 l0 x39_2).f1)) := (blk_cell BK194.out 1).trans rfl; have hcz41_2 : w40.cell? ⟨gb194, 2, none⟩ = some (.bool ((rd_T54 l0 x39_2).f2)) := (blk_cell BK194.out 2).trans rfl; have hcz41_3 : w40.cell? ⟨gb194, 3, none⟩ = some (.slice A192_3 ((rd_T54 l0 x39_2).f3).length c192_3) := (blk_cell BK194.out 3).trans rfl; have hfz41_0 := blk_frozen BK194.out 0; have hfz41_1 := blk_frozen BK194.out 1; have hfz41_2 := blk_frozen BK194.out 2; have hfz41_3 := blk_frozen BK194.out 3) | ((with_reducible refine gate_builtin (b := .append) (xs := #[.tmp 49, .tmp 51]) rfl ?_); (try (refine gate_guard (by rfl) ?_; dsimp only)); at_builtin; refine Kd.N_append k54 (w0 := w) w.heap.size rfl (.tmp 49) (.tmp 51) 47 54 (.agg #[(.int .i64 0), (.int .i64 0), (.bool false), (.slice none 0 0)]) 48 rfl Try.underlying47 info54 rfl (by decide) (by omega) u11 x11_2 (⟨ji25, (rd_T54 l0 x39_2).f1, (rd_T54 l0 x39_2).f2, (rd_T54 l0 x39_2).f3⟩ : S54) [.int .i64 ji25, .int .i64 ((rd_T54 l0 x39_2).f1), .bool ((rd_T54 l0 x39_2).f2), .slice A192_3 ((rd_T54 l0 x39_2).f3).length c192_3] (fun k_ => (P0_ k_ ∨ w.heap.size ≤ k_) ∧ some k_ ≠ (u12 : Value).ownBlock ∧ k_ ≠ gb185 ∧ k_ ≠ gb186 ∧ k_ ≠ gb193 ∧ k_ ≠ gb194) (fun k_ => ((fun k_ => (P0_ k_ ∨ w.heap.size ≤ k_) ∧ some k_ ≠ (u12 : Value).ownBlock ∧ k_ ≠ gb185 ∧ k_ ≠ gb186 ∧ k_ ≠ gb193 ∧ k_ ≠ gb194)) k_ ∧ some k_ ≠ (u11 : Value).ownBlock) rfl rfl ?aP (fun _ hk => hk) ?aF ?aO ?aB ?aS ?aL ?_; (case aP => exact (k54_mkF _ _ (⟨ji25, (rd_T54 l0 x39_2).f1, (rd_T54 l0 x39_2).f2, (rd_T54 l0 x39_2).f3⟩ : S54) (Kd.V_reads' (Kd.V_mono (ok' := (fun k_ => ((fun k_ => (P0_ k_ ∨ w.heap.size ≤ k_) ∧ some k_ ≠ (u12 : Value).ownBlock ∧ k_ ≠ gb185 ∧ k_ ≠ gb186 ∧ k_ ≠ gb193 ∧ k_ ≠ gb194)) k_ ∧ some k_ ≠ (u11 : Value).ownBlock)) (HL192_3.out) (fun k_ hk => ⟨⟨hk.1, ⟨hk.2.2.1, ⟨hk.2.2.2.1, ⟨hk.2.2.2.2.1, ⟨hk.2.2.2.2.2.1, hk.2.2.2.2.2.2⟩⟩⟩⟩⟩, hk.2.1⟩))).2.1 (Kd.V_F (Kd.V_mono (ok' := (fun k_ => ((fun k_ => (P0_ k_ ∨ w.heap.size ≤ k_) ∧ some k_ ≠ (u12 : Value).ownBlock ∧ k_ ≠ gb185 ∧ k_ ≠ gb186 ∧ k_ ≠ gb193 ∧ k_ ≠ gb194)) k_ ∧ some k_ ≠ (u11 : Value).ownBlock)) (HL192_3.out) (fun k_ hk => ⟨⟨hk.1, ⟨hk.2.2.1, ⟨hk.2.2.2.1, ⟨hk.2.2.2.2.1, ⟨hk.2.2.2.2.2.1, hk.2.2.2.2.2.2⟩⟩⟩⟩⟩, hk.2.1⟩))))); (case aB => exact (by repeat (first | (with_reducible first | exact HB.out | apply below_alloc | apply pw_below_drewN | apply below_drew1 | refine below_set ?_ GE185.out | refine below_set ?_ GE186.out | refine below_set ?_ GE193.out | refine below_set ?_ GE194.out) | exact HB.out))); (case aF => exact (fun k_ hk => ⟨(.inr (Nat.le_trans (below_size (by repeat (first | (with_reducible first | exact HB.out | apply below_alloc | apply pw_below_drewN | apply below_drew1 | refine below_set ?_ GE185.out | refine below_set ?_ GE186.out | refine below_set ?_ GE193.out | refine below_set ?_ GE194.out) | exact HB.out))) hk)), Kd.fresh' (Kd.N_lt (by (with_reducible repeat (first | apply Kd.N_alloc | apply Kd.N_drewN | apply Kd.N_drew)); exact HO_12.out)) k_ hk, Kd.freshB (g := gb185) (o := .cells #[.int .i64 a2_0, .int .i64 a2_1, .bool a2_2, .int .i64 a2_3, .int .i64 a2_4, .int .i64 a2_5, .string a2_6] 49 (0, 0)) (by (with_reducible repeat (first | refine blk_drewN ?_ _ | refine blk_drew ?_ | refine blk_alloc ?_ _)); exact BK185.out) k_ hk, Kd.freshB (g := gb186) (o := .cells #[.int .i64 a3_0, .int .i64 a3_1, .bool a3_2, .int .i64 a3_3, .int .i64 a3_4, .int .i64 a3_5, .string a3_6] 49 (0, 0)) (by (with_reducible repeat (first | refine blk_drewN ?_ _ | refine blk_drew ?_ | refine blk_alloc ?_ _)); exact BK186.out) k_ hk, Kd.freshB (g := gb193) (o := .cells #[.int .i64 ((rd_T54 l0 x39_2).f0), .int .i64 ((rd_T54 l0 x39_2).f1), .bool ((rd_T54 l0 x39_2).f2), .slice A192_3 ((rd_T54 l0 x39_2).f3).length c192_3] 54 (0, 0)) (by (with_reducible repeat (first | refine blk_drewN ?_ _ | refine blk_drew ?_ | refine blk_alloc ?_ _)); exact BK193.out) k_ hk, Kd.freshB (g := gb194) (o := .cells #[.int .i64 ji25, .int .i64 ((rd_T54 l0 x39_2).f1), .bool ((rd_T54 l0 x39_2).f2), .slice A192_3 ((rd_T54 l0 x39_2).f3).length c192_3] 54 (0, 0)) (by (with_reducible repeat (first | refine blk_drewN ?_ _ | refine blk_drew ?_ | refine blk_alloc ?_ _)); exact BK194.out) k_ hk⟩)); (case aO => exact (by (with_reducible repeat (first | apply Kd.N_alloc | apply Kd.N_drewN | apply Kd.N_drew)); exact HO_11.out)); (case aS => exact (below_size (by repeat (first | (with_reducible first | exact HB.out | apply below_alloc | apply pw_below_drewN | apply below_drew1 | refine below_set ?_ GE185.out | refine below_set ?_ GE186.out | refine below_set ?_ GE193.out | refine below_set ?_ GE194.out) | exact HB.out)))); (case aL => have := LMc26.out; omega); intro v196 w42 ho hb hg hat; rw [← Ny195.out] at ho; have n0_ := Aside0.mk (Kd.V_afterv (ok := (fun k_ => (P0_ k_ ∨ w.heap.size ≤ k_) ∧ some k_ ≠ (u12 : Value).ownBlock ∧ k_ ≠ gb185 ∧ k_ ≠ gb186 ∧ k_ ≠ gb193 ∧ k_ ≠ gb194)) (by (with_reducible repeat (first | apply Kd.V_alloc | apply Kd.V_drewN | apply Kd.V_drew)); exact Kd.V_mono HO_0.out (fun _ hk => ⟨⟨hk.1, ⟨hk.2.2.1, ⟨hk.2.2.2.1, ⟨hk.2.2.2.2.1, ⟨hk.2.2.2.2.2.1, hk.2.2.2.2.2.2⟩⟩⟩⟩⟩, hk.2.1⟩)) hg hat); have n1_ := Aside0.mk (Kd.N_afterv (ok := (fun k_ => (P0_ k_ ∨ w.heap.size ≤ k_) ∧ k_ ≠ gb185 ∧ k_ ≠ gb186 ∧ k_ ≠ gb193 ∧ k_ ≠ gb194)) (by (with_reducible repeat (first | apply Kd.N_alloc | apply Kd.N_drewN | apply Kd.N_drew)); exact Kd.N_mono HO_12.out (fun _ hk => ⟨⟨hk.1, ⟨hk.2.2.1, ⟨hk.2.2.2.1, ⟨hk.2.2.2.2.1, hk.2.2.2.2.2⟩⟩⟩⟩, hk.2.1⟩)) hg hat); have n2_ := Aside0.mk (Kd.V_afterv (ok := (fun k_ => (P0_ k_ ∨ w.heap.size ≤ k_) ∧ some k_ ≠ (u12 : Value).ownBlock ∧ k_ ≠ gb185 ∧ k_ ≠ gb186 ∧ k_ ≠ gb193 ∧ k_ ≠ gb194)) (by (with_reducible repeat (first | apply Kd.V_alloc | apply Kd.V_drewN | apply Kd.V_drew)); exact Kd.V_mono HO_37.out (fun _ hk => ⟨⟨hk.1, ⟨hk.2.2.1, ⟨hk.2.2.2.1, ⟨hk.2.2.2.2.1, ⟨hk.2.2.2.2.2.1, hk.2.2.2.2.2.2⟩⟩⟩⟩⟩, hk.2.1⟩)) hg hat); have n3_ := Aside0.mk (blk_grown (g := gb185) (o := .cells #[.int .i64 a2_0, .int .i64 a2_1, .bool a2_2, .int .i64 a2_3, .int .i64 a2_4, .int .i64 a2_5, .string a2_6] 49 (0, 0)) (by (with_reducible repeat (first | refine blk_drewN ?_ _ | refine blk_drew ?_ | refine blk_alloc ?_ _)); exact BK185.out) hg (Kd.N_ne HO_11.out BK185.out (by decide))); have n4_ := Aside0.mk (blk_grown (g := gb186) (o := .cells #[.int .i64 a3_0, .int .i64 a3_1, .bool a3_2, .int .i64 a3_3, .int .i64 a3_4, .int .i64 a3_5, .string a3_6] 49 (0, 0)) (by (with_reducible repeat (first | refine blk_drewN ?_ _ | refine blk_drew ?_ | refine blk_alloc ?_ _)); exact BK186.out) hg (Kd.N_ne HO_11.out BK186.out (by decide))); have n5_ := Aside0.mk (Kd.V_afterv (ok := (fun k_ => (P0_ k_ ∨ w.heap.size ≤ k_) ∧ some k_ ≠ (u12 : Value).ownBlock ∧ k_ ≠ gb185 ∧ k_ ≠ gb186 ∧ k_ ≠ gb193 ∧ k_ ≠ gb194)) (by (with_reducible repeat (first | apply Kd.V_alloc | apply Kd.V_drewN | apply Kd.V_drew)); exact Kd.V_mono HL192_3.out (fun _ hk => ⟨⟨hk.1, ⟨hk.2.2.1, ⟨hk.2.2.2.1, ⟨hk.2.2.2.2.1, ⟨hk.2.2.2.2.2.1, hk.2.2.2.2.2.2⟩⟩⟩⟩⟩, hk.2.1⟩)) hg hat); have n6_ := Aside0.mk (blk_grown (g := gb193) (o := .cells #[.int .i64 ((rd_T54 l0 x39_2).f0), .int .i64 ((rd_T54 l0 x39_2).f1), .bool ((rd_T54 l0 x39_2).f2), .slice A192_3 ((rd_T54 l0 x39_2).f3).length c192_3] 54 (0, 0)) (by (with_reducible repeat (first | refine blk_drewN ?_ _ | refine blk_drew ?_ | refine blk_alloc ?_ _)); exact BK193.out) hg (Kd.N_away HO_11.out (fun _ hk => hk.2.2.2.2.1))); have n7_ := Aside0.mk (blk_grown (g := gb194) (o := .cells #[.int .i64 ji25, .int .i64 ((rd_T54 l0 x39_2).f1), .bool ((rd_T54 l0 x39_2).f2), .slice A192_3 ((rd_T54 l0 x39_2).f3).length c192_3] 54 (0, 0)) (by (with_reducible repeat (first | refine blk_drewN ?_ _ | refine blk_drew ?_ | refine blk_alloc ?_ _)); exact BK194.out) hg (Kd.N_away HO_11.out (fun _ hk => hk.2.2.2.2.2))); have n8_ := Aside0.mk (hb); have n9_ := Aside0.mk (ho); clear HO_0; clear HO_12; clear HO_37; clear BK185; clear BK186; clear HL192_3; clear BK193; clear BK194; clear HB; clear HO_11; have HO_0 := n0_; have HO_12 := n1_; have HO_37 := n2_; have BK185 := n3_; have BK186 := n4_; have HL192_3 := n5_; have BK193 := n6_; have BK194 := n7_; have HB := n8_; have HO197 := n9_; clear n0_ n1_ n2_ n3_ n4_ n5_ n6_ n7_ n8_ n9_; clear ho hb hg hat; have hcz43_0 : w42.cell? ⟨gb193, 0, none⟩ = some (.int .i64 ((rd_T54 l0 x39_2).f0)) := (blk_cell BK193.out 0).trans rfl; have hcz43_1 : w42.cell? ⟨gb193, 1, none⟩ = some (.int .i64 ((rd_T54 l0 x39_2).f1)) := (blk_cell BK193.out 1).trans rfl; have hcz43_2 : w42.cell? ⟨gb193, 2, none⟩ = some (.bool ((rd_T54 l0 x39_2).f2)) := (blk_cell BK193.out 2).trans rfl; have hcz43_3 : w42.cell? ⟨gb193, 3, none⟩ = some (.slice A192_3 ((rd_T54 l0 x39_2).f3).length c192_3) := (blk_cell BK193.out 3).trans rfl; have hfz43_0 := blk_frozen BK193.out 0; have hfz43_1 := blk_frozen BK193.out 1; have hfz43_2 := blk_frozen BK193.out 2; have hfz43_3 := blk_frozen BK193.out 3) | ((with_reducible refine gate_builtin (b := .append) (xs := #[.tmp 54, .tmp 56]) rfl ?_); (try (refine gate_guard (by rfl) ?_; dsimp only)); at_builtin; refine Kd.N_append k54 (w0 := w) w.heap.size rfl (.tmp 54) (.tmp 56) 47 54 (.agg #[(.int .i64 0), (.int .i64 0), (.bool false), (.slice none 0 0)]) 48 rfl Try.underlying47 info54 rfl (by decide) (by omega) u12 x12_2 (⟨(rd_T54 l0 x39_2).f0, (rd_T54 l0 x39_2).f1, (rd_T54 l0 x39_2).f2, ([] : List Int)⟩ : S54) [.int .i64 ((rd_T54 l0 x39_2).f0), .int .i64 ((rd_T54 l0 x39_2).f1), .bool ((rd_T54 l0 x39_2).f2), .slice none 0 0] (fun k_ => (P0_ k_ ∨ w.heap.size ≤ k_) ∧ some k_ ≠ (v196 : Value).ownBlock ∧ k_ ≠ gb185 ∧ k_ ≠ gb186 ∧ k_ ≠ gb193 ∧ k_ ≠ gb194) (fun k_ => ((fun k_ => (P0_ k_ ∨ w.heap.size ≤ k_) ∧ some k_ ≠ (v196 : Value).ownBlock ∧ k_ ≠ gb185 ∧ k_ ≠ gb186 ∧ k_ ≠ gb193 ∧ k_ ≠ gb194)) k_ ∧ some k_ ≠ (u12 : Value).ownBlock) rfl (by first | (go_simp; done) | (go_simp; rfl)) ?aP (fun _ hk => hk) ?aF ?aO ?aB ?aS ?aL ?_; (case aP => exact (k54_mkF _ _ (⟨(rd_T54 l0 x39_2).f0, (rd_T54 l0 x39_2).f1, (rd_T54 l0 x39_2).f2, ([] : List Int)⟩ : S54) (Nat.le_refl _) (Kd.F_nil _ _ _))); (case aB => exact (by repeat (first | (with_reducible first | exact HB.out | apply below_alloc | apply pw_below_drewN | apply below_drew1 | refine below_set ?_ GE185.out | refine below_set ?_ GE186.out | refine below_set ?_ GE193.out | refine below_set ?_ GE194.out) | exact HB.out))); (case aF => exact (fun k_ hk => ⟨(.inr (Nat.le_trans (below_size (by repeat (first | (with_reducible first | exact HB.out | apply below_alloc | apply pw_below_drewN | apply below_drew1 | refine below_set ?_ GE185.out | refine below_set ?_ GE186.out | refine below_set ?_ GE193.out | refine below_set ?_ GE194.out) | exact HB.out))) hk)), Kd.fresh' (Kd.N_lt (by (with_reducible repeat (first | apply Kd.N_alloc | apply Kd.N_drewN | apply Kd.N_drew)); exact (Kd.N_mono (Kd.N_far (p := ⟨gb193, 3, none⟩) (Kd.N_mono HO197.out (fun k_ hk => (⟨hk, hk.2.2.2.2.1⟩ : _ ∧ k_ ≠ gb193))) (fun _ hk => hk.2) (.slice none 0 0)) (fun _ h_ => h_.1)))) k_ hk, Kd.freshB (g := gb185) (o := .cells #[.int .i64 a2_0, .int .i64 a2_1, .bool a2_2, .int .i64 a2_3, .int .i64 a2_4, .int .i64 a2_5, .string a2_6] 49 (0, 0)) (by (with_reducible repeat (first | refine blk_drewN ?_ _ | refine blk_drew ?_ | refine blk_alloc ?_ _)); refine blk_far ?_ NB185_193.out _; (with_reducible repeat (first | refine blk_drewN ?_ _ | refine blk_drew ?_ | refine blk_alloc ?_ _)); exact BK185.out) k_ hk, Kd.freshB (g := gb186) (o := .cells #[.int .i64 a3_0, .int .i64 a3_1, .bool a3_2, .int .i64 a3_3, .int .i64 a3_4, .int .i64 a3_5, .string a3_6] 49 (0, 0)) (by (with_reducible repeat (first | refine blk_drewN ?_ _ | refine blk_drew ?_ | refine blk_alloc ?_ _)); refine blk_far ?_ NB186_193.out _; (with_reducible repeat (first | refine blk_drewN ?_ _ | refine blk_drew ?_ | refine blk_alloc ?_ _)); exact BK186.out) k_ hk, Kd.freshB (g := gb193) (o := .cells #[.int .i64 ((rd_T54 l0 x39_2).f0), .int .i64 ((rd_T54 l0 x39_2).f1), .bool ((rd_T54 l0 x39_2).f2), .slice none 0 0] 54 (0, 0)) (by (with_reducible repeat (first | refine blk_drewN ?_ _ | refine blk_drew ?_ | refine blk_alloc ?_ _)); refine blk_put (cs := #[.int .i64 ((rd_T54 l0 x39_2).f0), .int .i64 ((rd_T54 l0 x39_2).f1), .bool ((rd_T54 l0 x39_2).f2), .slice A192_3 ((rd_T54 l0 x39_2).f3).length c192_3]) ?_ 3 _ rfl; (with_reducible repeat (first | refine blk_drewN ?_ _ | refine blk_drew ?_ | refine blk_alloc ?_ _)); exact BK193.out) k_ hk, Kd.freshB (g := gb194) (o := .cells #[.int .i64 ji25, .int .i64 ((rd_T54 l0 x39_2).f1), .bool ((rd_T54 l0 x39_2).f2), .slice A192_3 ((rd_T54 l0 x39_2).f3).length c192_3] 54 (0, 0)) (by (with_reducible repeat (first | refine blk_drewN ?_ _ | refine blk_drew ?_ | refine blk_alloc ?_ _)); refine blk_far ?_ NB194_193.out _; (with_reducible repeat (first | refine blk_drewN ?_ _ | refine blk_drew ?_ | refine blk_alloc ?_ _)); exact BK194.out) k_ hk⟩)); (case aO => exact (by (with_reducible repeat (first | apply Kd.N_alloc | apply Kd.N_drewN | apply Kd.N_drew)); exact Kd.N_mono (Kd.N_far (p := ⟨gb193, 3, none⟩) (Kd.N_mono HO_12.out (fun k_ hk => (⟨hk, hk.1.2.2.2.1⟩ : _ ∧ k_ ≠ gb193))) (fun _ hk => hk.2) (.slice none 0 0)) (fun _ hk => ⟨hk.1.1.1, ⟨hk.1.2, ⟨hk.1.1.2.1, ⟨hk.1.1.2.2.1, ⟨hk.1.1.2.2.2.1, hk.1.1.2.2.2.2⟩⟩⟩⟩⟩))); (case aS => exact (below_size (by repeat (first | (with_reducible first | exact HB.out | apply below_alloc | apply pw_below_drewN | apply below_drew1 | refine below_set ?_ GE185.out | refine below_set ?_ GE186.out | refine below_set ?_ GE193.out | refine below_set ?_ GE194.out) | exact HB.out)))); (case aL => have := LMc27.out; omega); intro v199 w44 ho hb hg hat; rw [← Ny198.out] at ho; have n0_ := Aside0.mk (Kd.V_afterv (ok := (fun k_ => (P0_ k_ ∨ w.heap.size ≤ k_) ∧ some k_ ≠ (v196 : Value).ownBlock ∧ k_ ≠ gb185 ∧ k_ ≠ gb186 ∧ k_ ≠ gb193 ∧ k_ ≠ gb194)) (by (with_reducible repeat (first | apply Kd.V_alloc | apply Kd.V_drewN | apply Kd.V_drew)); exact Kd.V_mono (Kd.V_far (p := ⟨gb193, 3, none⟩) (Kd.V_mono HO_0.out (fun k_ hk => (⟨hk, hk.1.2.2.2.2.1⟩ : _ ∧ k_ ≠ gb193))) (fun _ hk => hk.2) (.slice none 0 0)) (fun _ hk => ⟨⟨hk.1.1.1, ⟨hk.1.2, ⟨hk.1.1.2.2.1, ⟨hk.1.1.2.2.2.1, ⟨hk.1.1.2.2.2.2.1, hk.1.1.2.2.2.2.2⟩⟩⟩⟩⟩, hk.1.1.2.1⟩)) hg hat); have n1_ := Aside0.mk (Kd.V_afterv (ok := (fun k_ => (P0_ k_ ∨ w.heap.size ≤ k_) ∧ some k_ ≠ (v196 : Value).ownBlock ∧ k_ ≠ gb185 ∧ k_ ≠ gb186 ∧ k_ ≠ gb193 ∧ k_ ≠ gb194)) (by (with_reducible repeat (first | apply Kd.V_alloc | apply Kd.V_drewN | apply Kd.V_drew)); exact Kd.V_mono (Kd.V_far (p := ⟨gb193, 3, none⟩) (Kd.V_mono HO_37.out (fun k_ hk => (⟨hk, hk.1.2.2.2.2.1⟩ : _ ∧ k_ ≠ gb193))) (fun _ hk => hk.2) (.slice none 0 0)) (fun _ hk => ⟨⟨hk.1.1.1, ⟨hk.1.2, ⟨hk.1.1.2.2.1, ⟨hk.1.1.2.2.2.1, ⟨hk.1.1.2.2.2.2.1, hk.1.1.2.2.2.2.2⟩⟩⟩⟩⟩, hk.1.1.2.1⟩)) hg hat); have n2_ := Aside0.mk (blk_grown (g := gb185) (o := .cells #[.int .i64 a2_0, .int .i64 a2_1, .bool a2_2, .int .i64 a2_3, .int .i64 a2_4, .int .i64 a2_5, .string a2_6] 49 (0, 0)) (by (with_reducible repeat (first | refine blk_drewN ?_ _ | refine blk_drew ?_ | refine blk_alloc ?_ _)); refine blk_far ?_ NB185_193.out _; (with_reducible repeat (first | refine blk_drewN ?_ _ | refine blk_drew ?_ | refine blk_alloc ?_ _)); exact BK185.out) hg (Kd.N_ne HO_12.out BK185.out (by decide))); have n3_ := Aside0.mk (blk_grown (g := gb186) (o := .cells #[.int .i64 a3_0, .int .i64 a3_1, .bool a3_2, .int .i64 a3_3, .int .i64 a3_4, .int .i64 a3_5, .string a3_6] 49 (0, 0)) (by (with_reducible repeat (first | refine blk_drewN ?_ _ | refine blk_drew ?_ | refine blk_alloc ?_ _)); refine blk_far ?_ NB186_193.out _; (with_reducible repeat (first | refine blk_drewN ?_ _ | refine blk_drew ?_ | refine blk_alloc ?_ _)); exact BK186.out) hg (Kd.N_ne HO_12.out BK186.out (by decide))); have n4_ := Aside0.mk (Kd.V_afterv (ok := (fun k_ => (P0_ k_ ∨ w.heap.size ≤ k_) ∧ some k_ ≠ (v196 : Value).ownBlock ∧ k_ ≠ gb185 ∧ k_ ≠ gb186 ∧ k_ ≠ gb193 ∧ k_ ≠ gb194)) (by (with_reducible repeat (first | apply Kd.V_alloc | apply Kd.V_drewN | apply Kd.V_drew)); exact Kd.V_mono (Kd.V_far (p := ⟨gb193, 3, none⟩) (Kd.V_mono HL192_3.out (fun k_ hk => (⟨hk, hk.1.2.2.2.2.1⟩ : _ ∧ k_ ≠ gb193))) (fun _ hk => hk.2) (.slice none 0 0)) (fun _ hk => ⟨⟨hk.1.1.1, ⟨hk.1.2, ⟨hk.1.1.2.2.1, ⟨hk.1.1.2.2.2.1, ⟨hk.1.1.2.2.2.2.1, hk.1.1.2.2.2.2.2⟩⟩⟩⟩⟩, hk.1.1.2.1⟩)) hg hat); have n5_ := Aside0.mk (blk_grown (g := gb193) (o := .cells #[.int .i64 ((rd_T54 l0 x39_2).f0), .int .i64 ((rd_T54 l0 x39_2).f1), .bool ((rd_T54 l0 x39_2).f2), .slice none 0 0] 54 (0, 0)) (by (with_reducible repeat (first | refine blk_drewN ?_ _ | refine blk_drew ?_ | refine blk_alloc ?_ _)); refine blk_put (cs := #[.int .i64 ((rd_T54 l0 x39_2).f0), .int .i64 ((rd_T54 l0 x39_2).f1), .bool ((rd_T54 l0 x39_2).f2), .slice A192_3 ((rd_T54 l0 x39_2).f3).length c192_3]) ?_ 3 _ rfl; (with_reducible repeat (first | refine blk_drewN ?_ _ | refine blk_drew ?_ | refine blk_alloc ?_ _)); exact BK193.out) hg (Kd.N_away HO_12.out (fun _ hk => hk.1.2.2.2.1))); have n6_ := Aside0.mk (blk_grown (g := gb194) (o := .cells #[.int .i64 ji25, .int .i64 ((rd_T54 l0 x39_2).f1), .bool ((rd_T54 l0 x39_2).f2), .slice A192_3 ((rd_T54 l0 x39_2).f3).length c192_3] 54 (0, 0)) (by (with_reducible repeat (first | refine blk_drewN ?_ _ | refine blk_drew ?_ | refine blk_alloc ?_ _)); refine blk_far ?_ NB194_193.out _; (with_reducible repeat (first | refine blk_drewN ?_ _ | refine blk_drew ?_ | refine blk_alloc ?_ _)); exact BK194.out) hg (Kd.N_away HO_12.out (fun _ hk => hk.1.2.2.2.2))); have n7_ := Aside0.mk (Kd.N_afterv (ok := (fun k_ => (P0_ k_ ∨ w.heap.size ≤ k_) ∧ k_ ≠ gb185 ∧ k_ ≠ gb186 ∧ k_ ≠ gb193 ∧ k_ ≠ gb194)) (by (with_reducible repeat (first | apply Kd.N_alloc | apply Kd.N_drewN | apply Kd.N_drew)); exact Kd.N_mono (Kd.N_far (p := ⟨gb193, 3, none⟩) (Kd.N_mono HO197.out (fun k_ hk => (⟨hk, hk.2.2.2.2.1⟩ : _ ∧ k_ ≠ gb193))) (fun _ hk => hk.2) (.slice none 0 0)) (fun _ hk => ⟨⟨hk.1.1, ⟨hk.1.2.2.1, ⟨hk.1.2.2.2.1, ⟨hk.1.2.2.2.2.1, hk.1.2.2.2.2.2⟩⟩⟩⟩, hk.1.2.1⟩)) hg hat); have n8_ := Aside0.mk (hb); have n9_ := Aside0.mk (ho); clear HO_0; clear HO_37; clear BK185; clear BK186; clear HL192_3; clear BK193; clear BK194; clear HO197; clear HB; clear HO_12; have HO_0 := n0_; have HO_37 := n1_; have BK185 := n2_; have BK186 := n3_; have HL192_3 := n4_; have BK193 := n5_; have BK194 := n6_; have HO197 := n7_; have HB := n8_; have HO200 := n9_; clear n0_ n1_ n2_ n3_ n4_ n5_ n6_ n7_ n8_ n9_; clear ho hb hg hat))
                        go_roundg k2
                        case measure => have := HJ7.out; have := HK2.out; omega
                        case rel => exact ⟨(y195), (y198), (wrap64 (x39_2 + 1)), (by first | rfl | (simp; done) | (simp [*]; done)), H', ⟨by have := HJ7.out; have := HK2.out; omega⟩, ⟨by (with_reducible repeat (first | apply Kd.V_alloc | apply Kd.V_drewN | apply Kd.V_drew)); exact Kd.V_mono HO_0.out (fun _ hk => ⟨hk.1.1, ⟨hk.1.2.1, ⟨hk.2, ⟨hk.1.2.2.1, hk.1.2.2.2.1⟩⟩⟩⟩)⟩, ⟨by (with_reducible repeat (first | apply Kd.N_alloc | apply Kd.N_drewN | apply Kd.N_drew)); exact Kd.N_mono HO197.out (fun _ hk => ⟨hk.1.1, ⟨hk.2, ⟨hk.1.2.1, hk.1.2.2.1⟩⟩⟩)⟩, ⟨by (with_reducible repeat (first | apply Kd.N_alloc | apply Kd.N_drewN | apply Kd.N_drew)); exact Kd.N_mono HO200.out (fun _ hk => ⟨hk.1, ⟨hk.2.1, ⟨hk.2.2.1, hk.2.2.2.1⟩⟩⟩)⟩, ⟨by (with_reducible repeat (first | apply Kd.V_alloc | apply Kd.V_drewN | apply Kd.V_drew)); exact Kd.V_mono HO_37.out (fun _ hk => ⟨hk.1.1, ⟨hk.1.2.1, ⟨hk.2, ⟨hk.1.2.2.1, hk.1.2.2.2.1⟩⟩⟩⟩)⟩, ⟨by (with_reducible repeat (first | refine blk_drewN ?_ _ | refine blk_drew ?_ | refine blk_alloc ?_ _)); exact BK185.out⟩, ⟨by (with_reducible repeat (first | refine blk_drewN ?_ _ | refine blk_drew ?_ | refine blk_alloc ?_ _)); exact BK186.out⟩, ⟨by repeat (first | (with_reducible first | exact HB.out | apply below_alloc | apply pw_below_drewN | apply below_drew1 | refine below_set ?_ GE185.out | refine below_set ?_ GE186.out | refine below_set ?_ GE193.out | refine below_set ?_ GE194.out) | exact HB.out)⟩⟩
                      · rw [if_neg c27] at H
                        exact absurd H (by simp)
                    · rw [if_neg c26] at H
                      exact absurd H (by simp)
                  · rw [if_neg c23] at H
                    exact absurd H (by simp)
                · rw [if_neg c22] at H
                  exact absurd H (by simp)
              · rw [if_neg c21] at H
                have c21b0 : decide (x39_2 < (l0.length : Int)) = false := decide_eq_false c21
                clear c21
                replace H := Option.bind_eq_some_iff.mp H
                obtain ⟨t201, A450, H⟩ := H
                replace H : ((relay_Relay.f k2 x11_2 a1 a2_0 a2_1 a2_2 a2_3 a2_4 a2_5 a2_6 t201).bind fun t202 => (if (t202.length : Int) = 0 then ((fdb_New.f).bind fun t205 => ((relay_Relay.f k2 x12_2 a1 a2_0 a2_1 a2_2 a2_3 a2_4 a2_5 a2_6 t205).bind fun t206 => (if (t206.length : Int) = 0 then ((fdb_New.f).bind fun t209 => ((relay_Relay.f k2 l0 a1 a3_0 (-1) a3_2 a3_3 a3_4 a3_5 a3_6 t209).bind fun t210 => (some ((t210.length : Int) == 0)))) else (some false)))) else (some false))) = some r := H
                have A45 := Aside0.mk A450
                clear A450
                replace H := Option.bind_eq_some_iff.mp H
                obtain ⟨t202, A460, H⟩ := H
                replace H : (if (t202.length : Int) = 0 then ((fdb_New.f).bind fun t205 => ((relay_Relay.f k2 x12_2 a1 a2_0 a2_1 a2_2 a2_3 a2_4 a2_5 a2_6 t205).bind fun t206 => (if (t206.length : Int) = 0 then ((fdb_New.f).bind fun t209 => ((relay_Relay.f k2 l0 a1 a3_0 (-1) a3_2 a3_3 a3_4 a3_5 a3_6 t209).bind fun t210 => (some ((t210.length : Int) == 0)))) else (some false)))) else (some false)) = some r := H
                have A46 := Aside0.mk A460
                clear A460
                by_cases c47 : (t202.length : Int) = 0
                · rw [if_pos c47] at H
                  have c47b0 : ((t202.length : Int) == 0) = true := beq_iff_eq.mpr c47
                  have c47b1 : ((t202.length : Int) != 0) = false := bne_eq_false_iff_eq.mpr c47
                  clear c47
                  replace H := Option.bind_eq_some_iff.mp H
                  obtain ⟨t205, A480, H⟩ := H
                  replace H : ((relay_Relay.f k2 x12_2 a1 a2_0 a2_1 a2_2 a2_3 a2_4 a2_5 a2_6 t205).bind fun t206 => (if (t206.length : Int) = 0 then ((fdb_New.f).bind fun t209 => ((relay_Relay.f k2 l0 a1 a3_0 (-1) a3_2 a3_3 a3_4 a3_5 a3_6 t209).bind fun t210 => (some ((t210.length : Int) == 0)))) else (some false))) = some r := H
                  have A48 := Aside0.mk A480
                  clear A480
                  replace H := Option.bind_eq_some_iff.mp H
                  obtain ⟨t206, A490, H⟩ := H
                  replace H : (if (t206.length : Int) = 0 then ((fdb_New.f).bind fun t209 => ((relay_Relay.f k2 l0 a1 a3_0 (-1) a3_2 a3_3 a3_4 a3_5 a3_6 t209).bind fun t210 => (some ((t210.length : Int) == 0)))) else (some false)) = some r := H
                  have A49 := Aside0.mk A490
                  clear A490
                  by_cases c50 : (t206.length : Int) = 0
                  · rw [if_pos c50] at H
                    have c50b0 : ((t206.length : Int) == 0) = true := beq_iff_eq.mpr c50
                    have c50b1 : ((t206.length : Int) != 0) = false := bne_eq_false_iff_eq.mpr c50
                    clear c50
                    replace H := Option.bind_eq_some_iff.mp H
                    obtain ⟨t209, A510, H⟩ := H
                    replace H : ((relay_Relay.f k2 l0 a1 a3_0 (-1) a3_2 a3_3 a3_4 a3_5 a3_6 t209).bind fun t210 => (some ((t210.length : Int) == 0))) = some r := H
                    have A51 := Aside0.mk A510
                    clear A510
                    replace H := Option.bind_eq_some_iff.mp H
                    obtain ⟨t210, A520, H⟩ := H
                    replace H : (some ((t210.length : Int) == 0)) = some r := H
                    have A52 := Aside0.mk A520
                    clear A520
                    obtain rfl := Option.some.inj H
                    have hnb53 := NB186_185.out
                    have hnc53 := NB185_186.out
                    have hcz54_0 : wr.cell? ⟨gb186, 0, none⟩ = some (.int .i64 a3_0) := (blk_cell BK186.out 0).trans rfl
                    have hcz54_1 : wr.cell? ⟨gb186, 1, none⟩ = some (.int .i64 a3_1) := (blk_cell BK186.out 1).trans rfl
                    have hcz54_2 : wr.cell? ⟨gb186, 2, none⟩ = some (.bool a3_2) := (blk_cell BK186.out 2).trans rfl
                    have hcz54_3 : wr.cell? ⟨gb186, 3, none⟩ = some (.int .i64 a3_3) := (blk_cell BK186.out 3).trans rfl
                    have hcz54_4 : wr.cell? ⟨gb186, 4, none⟩ = some (.int .i64 a3_4) := (blk_cell BK186.out 4).trans rfl
                    have hcz54_5 : wr.cell? ⟨gb186, 5, none⟩ = some (.int .i64 a3_5) := (blk_cell BK186.out 5).trans rfl
                    have hcz54_6 : wr.cell? ⟨gb186, 6, none⟩ = some (.string a3_6) := (blk_cell BK186.out 6).trans rfl
                    have hfz54_0 := blk_frozen BK186.out 0
                    have hfz54_1 := blk_frozen BK186.out 1
                    have hfz54_2 := blk_frozen BK186.out 2
                    have hfz54_3 := blk_frozen BK186.out 3
                    have hfz54_4 := blk_frozen BK186.out 4
                    have hfz54_5 := blk_frozen BK186.out 5
                    have hfz54_6 := blk_frozen BK186.out 6
                    try go_wp2
                    have n0_ : Aside0 (Kd.V k54 54 (wr.setCell ⟨gb186, 1, none⟩ (.int .i64 (-1))) w.heap.size (fun k_ => (P0_ k_ ∨ w.heap.size ≤ k_) ∧ some k_ ≠ (u11 : Value).ownBlock ∧ some k_ ≠ (u12 : Value).ownBlock ∧ k_ ≠ gb185 ∧ k_ ≠ gb186) (.slice A0 l0.length c0) l0) := ⟨by (with_reducible repeat (first | apply Kd.V_alloc | apply Kd.V_drewN | apply Kd.V_drew)); exact Kd.V_mono (Kd.V_far (p := ⟨gb186, 1, none⟩) (Kd.V_mono HO_0.out (fun k_ hk => (⟨hk, hk.2.2.2.2⟩ : _ ∧ k_ ≠ gb186))) (fun _ hk => hk.2) (.int .i64 (-1))) (fun _ hk => ⟨hk.1.1, ⟨hk.1.2.1, ⟨hk.1.2.2.1, ⟨hk.1.2.2.2.1, hk.1.2.2.2.2⟩⟩⟩⟩)⟩
                    have n1_ : Aside0 (Kd.N k54 54 (wr.setCell ⟨gb186, 1, none⟩ (.int .i64 (-1))) w.heap.size (fun k_ => (P0_ k_ ∨ w.heap.size ≤ k_) ∧ some k_ ≠ (u12 : Value).ownBlock ∧ k_ ≠ gb185 ∧ k_ ≠ gb186) u11 x11_2) := ⟨by (with_reducible repeat (first | apply Kd.N_alloc | apply Kd.N_drewN | apply Kd.N_drew)); exact Kd.N_mono (Kd.N_far (p := ⟨gb186, 1, none⟩) (Kd.N_mono HO_11.out (fun k_ hk => (⟨hk, hk.2.2.2⟩ : _ ∧ k_ ≠ gb186))) (fun _ hk => hk.2) (.int .i64 (-1))) (fun _ hk => ⟨hk.1.1, ⟨hk.1.2.1, ⟨hk.1.2.2.1, hk.1.2.2.2⟩⟩⟩)⟩
                    have n2_ : Aside0 (Kd.N k54 54 (wr.setCell ⟨gb186, 1, none⟩ (.int .i64 (-1))) w.heap.size (fun k_ => (P0_ k_ ∨ w.heap.size ≤ k_) ∧ some k_ ≠ (u11 : Value).ownBlock ∧ k_ ≠ gb185 ∧ k_ ≠ gb186) u12 x12_2) := ⟨by (with_reducible repeat (first | apply Kd.N_alloc | apply Kd.N_drewN | apply Kd.N_drew)); exact Kd.N_mono (Kd.N_far (p := ⟨gb186, 1, none⟩) (Kd.N_mono HO_12.out (fun k_ hk => (⟨hk, hk.2.2.2⟩ : _ ∧ k_ ≠ gb186))) (fun _ hk => hk.2) (.int .i64 (-1))) (fun _ hk => ⟨hk.1.1, ⟨hk.1.2.1, ⟨hk.1.2.2.1, hk.1.2.2.2⟩⟩⟩)⟩
                    have n3_ : Aside0 (Kd.V k54 54 (wr.setCell ⟨gb186, 1, none⟩ (.int .i64 (-1))) w.heap.size (fun k_ => (P0_ k_ ∨ w.heap.size ≤ k_) ∧ some k_ ≠ (u11 : Value).ownBlock ∧ some k_ ≠ (u12 : Value).ownBlock ∧ k_ ≠ gb185 ∧ k_ ≠ gb186) (.slice A0 l0.length c0) l0) := ⟨by (with_reducible repeat (first | apply Kd.V_alloc | apply Kd.V_drewN | apply Kd.V_drew)); exact Kd.V_mono (Kd.V_far (p := ⟨gb186, 1, none⟩) (Kd.V_mono HO_37.out (fun k_ hk => (⟨hk, hk.2.2.2.2⟩ : _ ∧ k_ ≠ gb186))) (fun _ hk => hk.2) (.int .i64 (-1))) (fun _ hk => ⟨hk.1.1, ⟨hk.1.2.1, ⟨hk.1.2.2.1, ⟨hk.1.2.2.2.1, hk.1.2.2.2.2⟩⟩⟩⟩)⟩
                    have n4_ : Aside0 ((wr.setCell ⟨gb186, 1, none⟩ (.int .i64 (-1))).heap[gb185]? = some (.cells #[.int .i64 a2_0, .int .i64 a2_1, .bool a2_2, .int .i64 a2_3, .int .i64 a2_4, .int .i64 a2_5, .string a2_6] 49 (0, 0))) := ⟨by (with_reducible repeat (first | refine blk_drewN ?_ _ | refine blk_drew ?_ | refine blk_alloc ?_ _)); refine blk_far ?_ NB185_186.out _; (with_reducible repeat (first | refine blk_drewN ?_ _ | refine blk_drew ?_ | refine blk_alloc ?_ _)); exact BK185.out⟩
                    have n5_ : Aside0 ((wr.setCell ⟨gb186, 1, none⟩ (.int .i64 (-1))).heap[gb186]? = some (.cells #[.int .i64 a3_0, .int .i64 (-1), .bool a3_2, .int .i64 a3_3, .int .i64 a3_4, .int .i64 a3_5, .string a3_6] 49 (0, 0))) := ⟨by (with_reducible repeat (first | refine blk_drewN ?_ _ | refine blk_drew ?_ | refine blk_alloc ?_ _)); refine blk_put (cs := #[.int .i64 a3_0, .int .i64 a3_1, .bool a3_2, .int .i64 a3_3, .int .i64 a3_4, .int .i64 a3_5, .string a3_6]) ?_ 1 _ rfl; (with_reducible repeat (first | refine blk_drewN ?_ _ | refine blk_drew ?_ | refine blk_alloc ?_ _)); exact BK186.out⟩
                    have n6_ : Aside0 (Below w.heap.size w (wr.setCell ⟨gb186, 1, none⟩ (.int .i64 (-1)))) := ⟨by repeat (first | (with_reducible first | exact HB.out | apply below_alloc | apply pw_below_drewN | apply below_drew1 | refine below_set ?_ GE185.out | refine below_set ?_ GE186.out) | exact HB.out)⟩
                    (try clear HO_0)
                    (try clear HO_11)
                    (try clear HO_12)
                    (try clear HO_37)
                    (try clear BK185)
                    (try clear BK186)
                    (try clear HB)
                    generalize (wr.setCell ⟨gb186, 1, none⟩ (.int .i64 (-1))) = w55 at n0_ n1_ n2_ n3_ n4_ n5_ n6_ ⊢
                    have HO_0 := n0_
                    have HO_11 := n1_
                    have HO_12 := n2_
                    have HO_37 := n3_
                    have BK185 := n4_
                    have BK186 := n5_
                    have HB := n6_
                    clear n0_ n1_ n2_ n3_ n4_ n5_ n6_
                    have n0_ := Aside0.mk (Kd.V_drew HO_0.out)
                    have n1_ := Aside0.mk (Kd.N_drew HO_11.out)
                    have n2_ := Aside0.mk (Kd.N_drew HO_12.out)
                    have n3_ := Aside0.mk (Kd.V_drew HO_37.out)
                    have n4_ := Aside0.mk (blk_drew BK185.out)
                    have n5_ := Aside0.mk (blk_drew BK186.out)
                    have n6_ := Aside0.mk (below_drew1 HB.out)
                    clear HO_0
                    clear HO_11
                    clear HO_12
                    clear HO_37
                    clear BK185
                    clear BK186
                    clear HB
                    have HO_0 := n0_
                    have HO_11 := n1_
                    have HO_12 := n2_
                    have HO_37 := n3_
                    have BK185 := n4_
                    have BK186 := n5_
                    have HB := n6_
                    clear n0_ n1_ n2_ n3_ n4_ n5_ n6_
                    refine start_ (n := 26) (S := fun w' => w'.cell? ⟨gb185, 0, none⟩ = some (.int .i64 a2_0) ∧ w'.cell? ⟨gb185, 1, none⟩ = some (.int .i64 a2_1) ∧ w'.cell? ⟨gb185, 2, none⟩ = some (.bool a2_2) ∧ w'.cell? ⟨gb185, 3, none⟩ = some (.int .i64 a2_3) ∧ w'.cell? ⟨gb185, 4, none⟩ = some (.int .i64 a2_4) ∧ w'.cell? ⟨gb185, 5, none⟩ = some (.int .i64 a2_5) ∧ w'.cell? ⟨gb185, 6, none⟩ = some (.string a2_6) ∧ w'.cell? ⟨gb186, 0, none⟩ = some (.int .i64 a3_0) ∧ w'.cell? ⟨gb186, 1, none⟩ = some (.int .i64 (-1)) ∧ w'.cell? ⟨gb186, 2, none⟩ = some (.bool a3_2) ∧ w'.cell? ⟨gb186, 3, none⟩ = some (.int .i64 a3_3) ∧ w'.cell? ⟨gb186, 4, none⟩ = some (.int .i64 a3_4) ∧ w'.cell? ⟨gb186, 5, none⟩ = some (.int .i64 a3_5) ∧ w'.cell? ⟨gb186, 6, none⟩ = some (.string a3_6)) (ds := []) #[false, false, false, false, false, false, false, false, false, false, false, false, false, false, false, false, false, false, false, false, false, false, false, false, false, false] (by kernel_rfl) rfl rfl ⟨(blk_cell BK185.out 0).trans rfl, (blk_cell BK185.out 1).trans rfl, (blk_cell BK185.out 2).trans rfl, (blk_cell BK185.out 3).trans rfl, (blk_cell BK185.out 4).trans rfl, (blk_cell BK185.out 5).trans rfl, (blk_cell BK185.out 6).trans rfl, (blk_cell BK186.out 0).trans rfl, (blk_cell BK186.out 1).trans rfl, (blk_cell BK186.out 2).trans rfl, (blk_cell BK186.out 3).trans rfl, (blk_cell BK186.out 4).trans rfl, (blk_cell BK186.out 5).trans rfl, (blk_cell BK186.out 6).trans rfl⟩ (fun hHeld => ?_); refine with_tabW kissgatelaw19_RelayQuiet.tab17 kissgatelaw19_RelayQuiet.bits17 (fun HT_ HW_ => ?_)
                    generalize w55.drew = w56 at HO_0 HO_11 HO_12 HO_37 BK185 BK186 HB hHeld ⊢
                    refine pure_ (i := 0) (N := some 60) (v := ?_) (a' := ?_) #[true, false, false, false, false, false, false, false, false, false, false, false, false, false, false, false, false, false, false, false, false, false, false, false, false, false] rfl rfl (any_of HT_.out (by kernel_rfl)) (fun _ _ _ h => h) (Or.inl ⟨by rfl, ?_⟩) ?_ ?_
                    rotate_left
                    · intro w'
                      go_simp
                      with_reducible rfl
                    rotate_left
                    · simp only [Act.put, List.setIfInBounds_toArray, List.set_cons_zero, List.set_cons_succ, i64_w, i32_w]
                      rfl
                    refine pure_ (i := 1) (N := some 61) (v := ?_) (a' := ?_) #[true, true, false, false, false, false, false, false, false, false, false, false, false, false, false, false, false, false, false, false, false, false, false, false, false, false] rfl rfl (any_of HT_.out (by kernel_rfl)) (fun _ _ _ h => h) (Or.inl ⟨by rfl, ?_⟩) ?_ ?_
                    rotate_left
                    · intro w'
                      go_simp
                      with_reducible rfl
                    rotate_left
                    · simp only [Act.put, List.setIfInBounds_toArray, List.set_cons_zero, List.set_cons_succ, i64_w, i32_w]
                      rfl
                    refine take_ (i := 2) (N := some 62) (v := ?_) (a' := ?_) #[true, true, true, false, false, false, false, false, false, false, false, false, false, false, false, false, false, false, false, false, false, false, false, false, false, false] rfl rfl (take_ofW HT_.out HW_.out (by kernel_rfl)) (fun _ _ _ h => h) (Or.inl ⟨by rfl, ?_⟩) hHeld ?_ ?_
                    rotate_left
                    · rintro w' ⟨s0, s1, s2, s3, s4, s5, s6, s7, s8, s9, s10, s11, s12, s13⟩
                      go_simp
                      with_reducible rfl
                    rotate_left
                    · simp only [Act.put, List.setIfInBounds_toArray, List.set_cons_zero, List.set_cons_succ, i64_w, i32_w]
                      rfl
                    refine one_ (i := 3) (N := some 63) #[true, true, true, true, false, false, false, false, false, false, false, false, false, false, false, false, false, false, false, false, false, false, false, false, false, false] rfl rfl (one_of HT_.out (by kernel_rfl)) (by decide) (fun K hK => ?_)
                    refine goes_ Try.func28 (by kernel_rfl) rfl #[] (by rfl) rfl rfl (by (try simp only [List.map_toArray, List.map_cons, List.map_nil]); first | done | rfl | (simp only [List.length_drop, List.length_take]; rfl)) ?_
                    with_reducible refine (fdb_New.calls  t201 _ A45.out).mono ?_
                    rintro e w57 ⟨vt201, rfl, ht201, hb⟩
                    have Ht201 := Aside0.mk ht201
                    clear ht201
                    refine ⟨_, rfl, ?_⟩
                    have n0_ := Aside0.mk (Kd.V_below (by (with_reducible repeat (first | apply Kd.V_alloc | apply Kd.V_drewN | apply Kd.V_drew)); exact HO_0.out) hb)
                    have n1_ := Aside0.mk (Kd.N_below (by (with_reducible repeat (first | apply Kd.N_alloc | apply Kd.N_drewN | apply Kd.N_drew)); exact HO_11.out) hb)
                    have n2_ := Aside0.mk (Kd.N_below (by (with_reducible repeat (first | apply Kd.N_alloc | apply Kd.N_drewN | apply Kd.N_drew)); exact HO_12.out) hb)
                    have n3_ := Aside0.mk (Kd.V_below (by (with_reducible repeat (first | apply Kd.V_alloc | apply Kd.V_drewN | apply Kd.V_drew)); exact HO_37.out) hb)
                    have n4_ := Aside0.mk (blk_below (g := gb185) (o := .cells #[.int .i64 a2_0, .int .i64 a2_1, .bool a2_2, .int .i64 a2_3, .int .i64 a2_4, .int .i64 a2_5, .string a2_6] 49 (0, 0)) (by (with_reducible repeat (first | refine blk_drewN ?_ _ | refine blk_drew ?_ | refine blk_alloc ?_ _)); exact BK185.out) hb)
                    have n5_ := Aside0.mk (blk_below (g := gb186) (o := .cells #[.int .i64 a3_0, .int .i64 (-1), .bool a3_2, .int .i64 a3_3, .int .i64 a3_4, .int .i64 a3_5, .string a3_6] 49 (0, 0)) (by (with_reducible repeat (first | refine blk_drewN ?_ _ | refine blk_drew ?_ | refine blk_alloc ?_ _)); exact BK186.out) hb)
                    have n6_ := Aside0.mk (below_step (by repeat (first | (with_reducible first | exact HB.out | apply below_alloc | apply pw_below_drewN | apply below_drew1 | refine below_set ?_ GE185.out | refine below_set ?_ GE186.out) | exact HB.out)) hb)
                    clear HO_0
                    clear HO_11
                    clear HO_12
                    clear HO_37
                    clear BK185
                    clear BK186
                    clear HB
                    have HO_0 := n0_
                    have HO_11 := n1_
                    have HO_12 := n2_
                    have HO_37 := n3_
                    have BK185 := n4_
                    have BK186 := n5_
                    have HB := n6_
                    clear n0_ n1_ n2_ n3_ n4_ n5_ n6_
                    (try clear hb)
                    (try clear hb2)
                    (try clear hk)
                    (try clear hi)
                    obtain ⟨Ao58, co58, eo58⟩ := Kd.N_slice HO_11.out
                    (first | subst eo58 | (injection eo58 with f1_ f2_ f3_; have f4_ := f1_.symm; have f5_ := f3_.symm; clear f1_ f2_ f3_; subst f4_; subst f5_))
                    refine hK.out _ _ ⟨(blk_cell BK185.out 0).trans rfl, (blk_cell BK185.out 1).trans rfl, (blk_cell BK185.out 2).trans rfl, (blk_cell BK185.out 3).trans rfl, (blk_cell BK185.out 4).trans rfl, (blk_cell BK185.out 5).trans rfl, (blk_cell BK185.out 6).trans rfl, (blk_cell BK186.out 0).trans rfl, (blk_cell BK186.out 1).trans rfl, (blk_cell BK186.out 2).trans rfl, (blk_cell BK186.out 3).trans rfl, (blk_cell BK186.out 4).trans rfl, (blk_cell BK186.out 5).trans rfl, (blk_cell BK186.out 6).trans rfl⟩ (fun hHeld => ?_)
                    clear hK K
                    refine norm_ (a' := ?_) ?_ ?_
                    rotate_left
                    · show Act.put _ (some 63) _ = _
                      simp only [Act.put, List.setIfInBounds_toArray, List.set_cons_zero, List.set_cons_succ, i64_w, i32_w]
                      rfl
                    refine one_ (i := 4) (N := some 64) #[true, true, true, true, true, false, false, false, false, false, false, false, false, false, false, false, false, false, false, false, false, false, false, false, false, false] rfl rfl (one_of HT_.out (by kernel_rfl)) (by decide) (fun K hK => ?_)
                    refine goes_ Try.func27 (by kernel_rfl) rfl #[.slice Ao58 x11_2.length co58, .int .i64 a1, .agg #[.int .i64 a2_0, .int .i64 a2_1, .bool a2_2, .int .i64 a2_3, .int .i64 a2_4, .int .i64 a2_5, .string a2_6], vt201] (by rfl) rfl rfl (by (try simp only [List.map_toArray, List.map_cons, List.map_nil]); first | done | rfl | (simp only [List.length_drop, List.length_take]; rfl)) ?_
                    with_reducible refine (relay_Relay.calls k2 _ _ x11_2 a1 a2_0 a2_1 a2_2 a2_3 a2_4 a2_5 a2_6 _ t201 t202 _ ?side1 ?side2 ?side3 A46.out).mono ?_
                    (case side1 => repeat (first | exact (Kd.N_reads' HO_11.out).2.2 | (with_reducible refine Kd.C_alloc ?_ _) | (with_reducible refine Kd.C_drewN ?_ _) | (with_reducible refine Kd.C_drew ?_)))
                    (case side2 => exact (Kd.N_reads' HO_11.out).2.1)
                    (case side3 => repeat (first | exact Ht201.out | (with_reducible refine TabC.alloc ?_ _) | (with_reducible refine TabC.drewN ?_ _) | (with_reducible refine TabC.drew ?_)))
                    rintro e w59 ⟨v203, rfl, ho0, hb⟩
                    refine ⟨_, rfl, ?_⟩
                    have n0_ := Aside0.mk (Kd.V_elder' (by (with_reducible repeat (first | apply Kd.V_alloc | apply Kd.V_drewN | apply Kd.V_drew)); exact HO_0.out) (Kd.R_base ho0) hb)
                    have n1_ := Aside0.mk (Kd.N_elder' (by (with_reducible repeat (first | apply Kd.N_alloc | apply Kd.N_drewN | apply Kd.N_drew)); exact HO_11.out) (Kd.R_base ho0) hb)
                    have n2_ := Aside0.mk (Kd.N_elder' (by (with_reducible repeat (first | apply Kd.N_alloc | apply Kd.N_drewN | apply Kd.N_drew)); exact HO_12.out) (Kd.R_base ho0) hb)
                    have n3_ := Aside0.mk (Kd.V_elder' (by (with_reducible repeat (first | apply Kd.V_alloc | apply Kd.V_drewN | apply Kd.V_drew)); exact HO_37.out) (Kd.R_base ho0) hb)
                    have n4_ := Aside0.mk (Kd.R_lower (Kd.R_newM (M := fun k_ => (w.heap.size ≤ k_)) ho0 (below_size (by repeat (first | (with_reducible first | exact HB.out | apply below_alloc | apply pw_below_drewN | apply below_drew1 | refine below_set ?_ GE185.out | refine below_set ?_ GE186.out) | exact HB.out))) (fun k_ h_ => h_)) (below_size (by repeat (first | (with_reducible first | exact HB.out | apply below_alloc | apply pw_below_drewN | apply below_drew1 | refine below_set ?_ GE185.out | refine below_set ?_ GE186.out) | exact HB.out))))
                    have n5_ := Aside0.mk (blk_below (g := gb185) (o := .cells #[.int .i64 a2_0, .int .i64 a2_1, .bool a2_2, .int .i64 a2_3, .int .i64 a2_4, .int .i64 a2_5, .string a2_6] 49 (0, 0)) (by (with_reducible repeat (first | refine blk_drewN ?_ _ | refine blk_drew ?_ | refine blk_alloc ?_ _)); exact BK185.out) hb)
                    have n6_ := Aside0.mk (blk_below (g := gb186) (o := .cells #[.int .i64 a3_0, .int .i64 (-1), .bool a3_2, .int .i64 a3_3, .int .i64 a3_4, .int .i64 a3_5, .string a3_6] 49 (0, 0)) (by (with_reducible repeat (first | refine blk_drewN ?_ _ | refine blk_drew ?_ | refine blk_alloc ?_ _)); exact BK186.out) hb)
                    have n7_ := Aside0.mk (below_step (by repeat (first | (with_reducible first | exact HB.out | apply below_alloc | apply pw_below_drewN | apply below_drew1 | refine below_set ?_ GE185.out | refine below_set ?_ GE186.out) | exact HB.out)) hb)
                    clear HO_0
                    clear HO_11
                    clear HO_12
                    clear HO_37
                    clear BK185
                    clear BK186
                    clear HB
                    have HO_0 := n0_
                    have HO_11 := n1_
                    have HO_12 := n2_
                    have HO_37 := n3_
                    have HO204 := n4_
                    have BK185 := n5_
                    have BK186 := n6_
                    have HB := n7_
                    clear n0_ n1_ n2_ n3_ n4_ n5_ n6_ n7_
                    (try clear hb)
                    (try clear hb2)
                    (try clear hk)
                    (try clear hi)
                    (try clear ho0)
                    obtain ⟨Ao60, co60, eo60⟩ := Kd.R_slice HO204.out
                    (first | subst eo60 | (injection eo60 with f1_ f2_ f3_; have f4_ := f1_.symm; have f5_ := f3_.symm; clear f1_ f2_ f3_; subst f4_; subst f5_))
                    refine hK.out _ _ ⟨(blk_cell BK185.out 0).trans rfl, (blk_cell BK185.out 1).trans rfl, (blk_cell BK185.out 2).trans rfl, (blk_cell BK185.out 3).trans rfl, (blk_cell BK185.out 4).trans rfl, (blk_cell BK185.out 5).trans rfl, (blk_cell BK185.out 6).trans rfl, (blk_cell BK186.out 0).trans rfl, (blk_cell BK186.out 1).trans rfl, (blk_cell BK186.out 2).trans rfl, (blk_cell BK186.out 3).trans rfl, (blk_cell BK186.out 4).trans rfl, (blk_cell BK186.out 5).trans rfl, (blk_cell BK186.out 6).trans rfl⟩ (fun hHeld => ?_)
                    clear hK K
                    refine norm_ (a' := ?_) ?_ ?_
                    rotate_left
                    · show Act.put _ (some 64) _ = _
                      simp only [Act.put, List.setIfInBounds_toArray, List.set_cons_zero, List.set_cons_succ, i64_w, i32_w]
                      rfl
                    refine pure_ (i := 5) (N := some 65) (v := ?_) (a' := ?_) #[true, true, true, true, true, true, false, false, false, false, false, false, false, false, false, false, false, false, false, false, false, false, false, false, false, false] rfl rfl (any_of HT_.out (by kernel_rfl)) (fun _ _ _ h => h) (Or.inl ⟨by rfl, ?_⟩) ?_ ?_
                    rotate_left
                    · intro w'
                      go_simp
                      with_reducible rfl
                    rotate_left
                    · simp only [Act.put, List.setIfInBounds_toArray, List.set_cons_zero, List.set_cons_succ, i64_w, i32_w]
                      rfl
                    refine pure_ (i := 6) (N := some 66) (v := ?_) (a' := ?_) #[true, true, true, true, true, true, true, false, false, false, false, false, false, false, false, false, false, false, false, false, false, false, false, false, false, false] rfl rfl (any_of HT_.out (by kernel_rfl)) (fun _ _ _ h => h) (Or.inl ⟨by rfl, ?_⟩) ?_ ?_
                    rotate_left
                    · intro w'
                      go_simp
                      with_reducible rfl
                    rotate_left
                    · simp only [Act.put, List.setIfInBounds_toArray, List.set_cons_zero, List.set_cons_succ, i64_w, i32_w]
                      rfl
                    refine pure_ (i := 7) (N := some 67) (v := ?_) (a' := ?_) #[true, true, true, true, true, true, true, true, false, false, false, false, false, false, false, false, false, false, false, false, false, false, false, false, false, false] rfl rfl (any_of HT_.out (by kernel_rfl)) (fun _ _ _ h => h) (Or.inl ⟨by rfl, ?_⟩) ?_ ?_
                    rotate_left
                    · intro w'
                      go_simp
                      with_reducible rfl
                    rotate_left
                    · simp only [Act.put, List.setIfInBounds_toArray, List.set_cons_zero, List.set_cons_succ, i64_w, i32_w]
                      rfl
                    refine pure_ (i := 8) (N := some 68) (v := ?_) (a' := ?_) #[true, true, true, true, true, true, true, true, true, false, false, false, false, false, false, false, false, false, false, false, false, false, false, false, false, false] rfl rfl (any_of HT_.out (by kernel_rfl)) (fun _ _ _ h => h) (Or.inl ⟨by rfl, ?_⟩) ?_ ?_
                    rotate_left
                    · intro w'
                      go_simp
                      with_reducible rfl
                    rotate_left
                    · simp only [Act.put, List.setIfInBounds_toArray, List.set_cons_zero, List.set_cons_succ, i64_w, i32_w]
                      rfl
                    refine pure_ (i := 9) (N := some 69) (v := ?_) (a' := ?_) #[true, true, true, true, true, true, true, true, true, true, false, false, false, false, false, false, false, false, false, false, false, false, false, false, false, false] rfl rfl (any_of HT_.out (by kernel_rfl)) (fun _ _ _ h => h) (Or.inl ⟨by rfl, ?_⟩) ?_ ?_
                    rotate_left
                    · intro w'
                      go_simp
                      with_reducible rfl
                    rotate_left
                    · simp only [Act.put, List.setIfInBounds_toArray, List.set_cons_zero, List.set_cons_succ, i64_w, i32_w]
                      rfl
                    refine take_ (i := 10) (N := some 70) (v := ?_) (a' := ?_) #[true, true, true, true, true, true, true, true, true, true, true, false, false, false, false, false, false, false, false, false, false, false, false, false, false, false] rfl rfl (take_ofW HT_.out HW_.out (by kernel_rfl)) (fun _ _ _ h => h) (Or.inl ⟨by rfl, ?_⟩) hHeld ?_ ?_
                    rotate_left
                    · rintro w' ⟨s0, s1, s2, s3, s4, s5, s6, s7, s8, s9, s10, s11, s12, s13⟩
                      go_simp
                      with_reducible rfl
                    rotate_left
                    · simp only [Act.put, List.setIfInBounds_toArray, List.set_cons_zero, List.set_cons_succ, i64_w, i32_w]
                      rfl
                    refine one_ (i := 11) (N := some 71) #[true, true, true, true, true, true, true, true, true, true, true, true, false, false, false, false, false, false, false, false, false, false, false, false, false, false] rfl rfl (one_of HT_.out (by kernel_rfl)) (by decide) (fun K hK => ?_)
                    refine goes_ Try.func28 (by kernel_rfl) rfl #[] (by rfl) rfl rfl (by (try simp only [List.map_toArray, List.map_cons, List.map_nil]); first | done | rfl | (simp only [List.length_drop, List.length_take]; rfl)) ?_
                    with_reducible refine (fdb_New.calls  t205 _ A48.out).mono ?_
                    rintro e w61 ⟨vt205, rfl, ht205, hb⟩
                    have Ht205 := Aside0.mk ht205
                    clear ht205
                    refine ⟨_, rfl, ?_⟩
                    have n0_ := Aside0.mk (Kd.V_below (by (with_reducible repeat (first | apply Kd.V_alloc | apply Kd.V_drewN | apply Kd.V_drew)); exact HO_0.out) hb)
                    have n1_ := Aside0.mk (Kd.N_below (by (with_reducible repeat (first | apply Kd.N_alloc | apply Kd.N_drewN | apply Kd.N_drew)); exact HO_11.out) hb)
                    have n2_ := Aside0.mk (Kd.N_below (by (with_reducible repeat (first | apply Kd.N_alloc | apply Kd.N_drewN | apply Kd.N_drew)); exact HO_12.out) hb)
                    have n3_ := Aside0.mk (Kd.V_below (by (with_reducible repeat (first | apply Kd.V_alloc | apply Kd.V_drewN | apply Kd.V_drew)); exact HO_37.out) hb)
                    have n4_ := Aside0.mk (Kd.R_below (by (with_reducible repeat (first | apply Kd.R_alloc | apply Kd.R_drewN | apply Kd.R_drew)); exact HO204.out) hb)
                    have n5_ := Aside0.mk (blk_below (g := gb185) (o := .cells #[.int .i64 a2_0, .int .i64 a2_1, .bool a2_2, .int .i64 a2_3, .int .i64 a2_4, .int .i64 a2_5, .string a2_6] 49 (0, 0)) (by (with_reducible repeat (first | refine blk_drewN ?_ _ | refine blk_drew ?_ | refine blk_alloc ?_ _)); exact BK185.out) hb)
                    have n6_ := Aside0.mk (blk_below (g := gb186) (o := .cells #[.int .i64 a3_0, .int .i64 (-1), .bool a3_2, .int .i64 a3_3, .int .i64 a3_4, .int .i64 a3_5, .string a3_6] 49 (0, 0)) (by (with_reducible repeat (first | refine blk_drewN ?_ _ | refine blk_drew ?_ | refine blk_alloc ?_ _)); exact BK186.out) hb)
                    have n7_ := Aside0.mk (below_step (by repeat (first | (with_reducible first | exact HB.out | apply below_alloc | apply pw_below_drewN | apply below_drew1 | refine below_set ?_ GE185.out | refine below_set ?_ GE186.out) | exact HB.out)) hb)
                    clear HO_0
                    clear HO_11
                    clear HO_12
                    clear HO_37
                    clear HO204
                    clear BK185
                    clear BK186
                    clear HB
                    have HO_0 := n0_
                    have HO_11 := n1_
                    have HO_12 := n2_
                    have HO_37 := n3_
                    have HO204 := n4_
                    have BK185 := n5_
                    have BK186 := n6_
                    have HB := n7_
                    clear n0_ n1_ n2_ n3_ n4_ n5_ n6_ n7_
                    (try clear hb)
                    (try clear hb2)
                    (try clear hk)
                    (try clear hi)
                    obtain ⟨Ao62, co62, eo62⟩ := Kd.N_slice HO_12.out
                    (first | subst eo62 | (injection eo62 with f1_ f2_ f3_; have f4_ := f1_.symm; have f5_ := f3_.symm; clear f1_ f2_ f3_; subst f4_; subst f5_))
                    refine hK.out _ _ ⟨(blk_cell BK185.out 0).trans rfl, (blk_cell BK185.out 1).trans rfl, (blk_cell BK185.out 2).trans rfl, (blk_cell BK185.out 3).trans rfl, (blk_cell BK185.out 4).trans rfl, (blk_cell BK185.out 5).trans rfl, (blk_cell BK185.out 6).trans rfl, (blk_cell BK186.out 0).trans rfl, (blk_cell BK186.out 1).trans rfl, (blk_cell BK186.out 2).trans rfl, (blk_cell BK186.out 3).trans rfl, (blk_cell BK186.out 4).trans rfl, (blk_cell BK186.out 5).trans rfl, (blk_cell BK186.out 6).trans rfl⟩ (fun hHeld => ?_)
                    clear hK K
                    refine norm_ (a' := ?_) ?_ ?_
                    rotate_left
                    · show Act.put _ (some 71) _ = _
                      simp only [Act.put, List.setIfInBounds_toArray, List.set_cons_zero, List.set_cons_succ, i64_w, i32_w]
                      rfl
                    refine one_ (i := 12) (N := some 72) #[true, true, true, true, true, true, true, true, true, true, true, true, true, false, false, false, false, false, false, false, false, false, false, false, false, false] rfl rfl (one_of HT_.out (by kernel_rfl)) (by decide) (fun K hK => ?_)
                    refine goes_ Try.func27 (by kernel_rfl) rfl #[.slice Ao62 x12_2.length co62, .int .i64 a1, .agg #[.int .i64 a2_0, .int .i64 a2_1, .bool a2_2, .int .i64 a2_3, .int .i64 a2_4, .int .i64 a2_5, .string a2_6], vt205] (by rfl) rfl rfl (by (try simp only [List.map_toArray, List.map_cons, List.map_nil]); first | done | rfl | (simp only [List.length_drop, List.length_take]; rfl)) ?_
                    with_reducible refine (relay_Relay.calls k2 _ _ x12_2 a1 a2_0 a2_1 a2_2 a2_3 a2_4 a2_5 a2_6 _ t205 t206 _ ?side1 ?side2 ?side3 A49.out).mono ?_
                    (case side1 => repeat (first | exact (Kd.N_reads' HO_12.out).2.2 | (with_reducible refine Kd.C_alloc ?_ _) | (with_reducible refine Kd.C_drewN ?_ _) | (with_reducible refine Kd.C_drew ?_)))
                    (case side2 => exact (Kd.N_reads' HO_12.out).2.1)
                    (case side3 => repeat (first | exact Ht205.out | (with_reducible refine TabC.alloc ?_ _) | (with_reducible refine TabC.drewN ?_ _) | (with_reducible refine TabC.drew ?_)))
                    rintro e w63 ⟨v207, rfl, ho0, hb⟩
                    refine ⟨_, rfl, ?_⟩
                    have n0_ := Aside0.mk (Kd.V_elder' (by (with_reducible repeat (first | apply Kd.V_alloc | apply Kd.V_drewN | apply Kd.V_drew)); exact HO_0.out) (Kd.R_base ho0) hb)
                    have n1_ := Aside0.mk (Kd.N_elder' (by (with_reducible repeat (first | apply Kd.N_alloc | apply Kd.N_drewN | apply Kd.N_drew)); exact HO_11.out) (Kd.R_base ho0) hb)
                    have n2_ := Aside0.mk (Kd.N_elder' (by (with_reducible repeat (first | apply Kd.N_alloc | apply Kd.N_drewN | apply Kd.N_drew)); exact HO_12.out) (Kd.R_base ho0) hb)
                    have n3_ := Aside0.mk (Kd.V_elder' (by (with_reducible repeat (first | apply Kd.V_alloc | apply Kd.V_drewN | apply Kd.V_drew)); exact HO_37.out) (Kd.R_base ho0) hb)
                    have n4_ := Aside0.mk (Kd.R_elder' (by (with_reducible repeat (first | apply Kd.R_alloc | apply Kd.R_drewN | apply Kd.R_drew)); exact HO204.out) (Kd.R_base ho0) hb)
                    have n5_ := Aside0.mk (Kd.R_lower (Kd.R_new' (Kd.R_newM (M := fun k_ => (w.heap.size ≤ k_)) ho0 (below_size (by repeat (first | (with_reducible first | exact HB.out | apply below_alloc | apply pw_below_drewN | apply below_drew1 | refine below_set ?_ GE185.out | refine below_set ?_ GE186.out) | exact HB.out))) (fun k_ h_ => h_)) (Kd.R_lt (by (with_reducible repeat (first | apply Kd.R_alloc | apply Kd.R_drewN | apply Kd.R_drew)); exact HO204.out))) (below_size (by repeat (first | (with_reducible first | exact HB.out | apply below_alloc | apply pw_below_drewN | apply below_drew1 | refine below_set ?_ GE185.out | refine below_set ?_ GE186.out) | exact HB.out))))
                    have n6_ := Aside0.mk (blk_below (g := gb185) (o := .cells #[.int .i64 a2_0, .int .i64 a2_1, .bool a2_2, .int .i64 a2_3, .int .i64 a2_4, .int .i64 a2_5, .string a2_6] 49 (0, 0)) (by (with_reducible repeat (first | refine blk_drewN ?_ _ | refine blk_drew ?_ | refine blk_alloc ?_ _)); exact BK185.out) hb)
                    have n7_ := Aside0.mk (blk_below (g := gb186) (o := .cells #[.int .i64 a3_0, .int .i64 (-1), .bool a3_2, .int .i64 a3_3, .int .i64 a3_4, .int .i64 a3_5, .string a3_6] 49 (0, 0)) (by (with_reducible repeat (first | refine blk_drewN ?_ _ | refine blk_drew ?_ | refine blk_alloc ?_ _)); exact BK186.out) hb)
                    have n8_ := Aside0.mk (below_step (by repeat (first | (with_reducible first | exact HB.out | apply below_alloc | apply pw_below_drewN | apply below_drew1 | refine below_set ?_ GE185.out | refine below_set ?_ GE186.out) | exact HB.out)) hb)
                    clear HO_0
                    clear HO_11
                    clear HO_12
                    clear HO_37
                    clear HO204
                    clear BK185
                    clear BK186
                    clear HB
                    have HO_0 := n0_
                    have HO_11 := n1_
                    have HO_12 := n2_
                    have HO_37 := n3_
                    have HO204 := n4_
                    have HO208 := n5_
                    have BK185 := n6_
                    have BK186 := n7_
                    have HB := n8_
                    clear n0_ n1_ n2_ n3_ n4_ n5_ n6_ n7_ n8_
                    (try clear hb)
                    (try clear hb2)
                    (try clear hk)
                    (try clear hi)
                    (try clear ho0)
                    obtain ⟨Ao64, co64, eo64⟩ := Kd.R_slice HO208.out
                    (first | subst eo64 | (injection eo64 with f1_ f2_ f3_; have f4_ := f1_.symm; have f5_ := f3_.symm; clear f1_ f2_ f3_; subst f4_; subst f5_))
                    refine hK.out _ _ ⟨(blk_cell BK185.out 0).trans rfl, (blk_cell BK185.out 1).trans rfl, (blk_cell BK185.out 2).trans rfl, (blk_cell BK185.out 3).trans rfl, (blk_cell BK185.out 4).trans rfl, (blk_cell BK185.out 5).trans rfl, (blk_cell BK185.out 6).trans rfl, (blk_cell BK186.out 0).trans rfl, (blk_cell BK186.out 1).trans rfl, (blk_cell BK186.out 2).trans rfl, (blk_cell BK186.out 3).trans rfl, (blk_cell BK186.out 4).trans rfl, (blk_cell BK186.out 5).trans rfl, (blk_cell BK186.out 6).trans rfl⟩ (fun hHeld => ?_)
                    clear hK K
                    refine norm_ (a' := ?_) ?_ ?_
                    rotate_left
                    · show Act.put _ (some 72) _ = _
                      simp only [Act.put, List.setIfInBounds_toArray, List.set_cons_zero, List.set_cons_succ, i64_w, i32_w]
                      rfl
                    refine pure_ (i := 13) (N := some 73) (v := ?_) (a' := ?_) #[true, true, true, true, true, true, true, true, true, true, true, true, true, true, false, false, false, false, false, false, false, false, false, false, false, false] rfl rfl (any_of HT_.out (by kernel_rfl)) (fun _ _ _ h => h) (Or.inl ⟨by rfl, ?_⟩) ?_ ?_
                    rotate_left
                    · intro w'
                      go_simp
                      with_reducible rfl
                    rotate_left
                    · simp only [Act.put, List.setIfInBounds_toArray, List.set_cons_zero, List.set_cons_succ, i64_w, i32_w]
                      rfl
                    refine pure_ (i := 14) (N := some 74) (v := ?_) (a' := ?_) #[true, true, true, true, true, true, true, true, true, true, true, true, true, true, true, false, false, false, false, false, false, false, false, false, false, false] rfl rfl (any_of HT_.out (by kernel_rfl)) (fun _ _ _ h => h) (Or.inl ⟨by rfl, ?_⟩) ?_ ?_
                    rotate_left
                    · intro w'
                      go_simp
                      with_reducible rfl
                    rotate_left
                    · simp only [Act.put, List.setIfInBounds_toArray, List.set_cons_zero, List.set_cons_succ, i64_w, i32_w]
                      rfl
                    refine pure_ (i := 15) (N := some 75) (v := ?_) (a' := ?_) #[true, true, true, true, true, true, true, true, true, true, true, true, true, true, true, true, false, false, false, false, false, false, false, false, false, false] rfl rfl (any_of HT_.out (by kernel_rfl)) (fun _ _ _ h => h) (Or.inl ⟨by rfl, ?_⟩) ?_ ?_
                    rotate_left
                    · intro w'
                      go_simp
                      with_reducible rfl
                    rotate_left
                    · simp only [Act.put, List.setIfInBounds_toArray, List.set_cons_zero, List.set_cons_succ, i64_w, i32_w]
                      rfl
                    refine pure_ (i := 16) (N := some 76) (v := ?_) (a' := ?_) #[true, true, true, true, true, true, true, true, true, true, true, true, true, true, true, true, true, false, false, false, false, false, false, false, false, false] rfl rfl (any_of HT_.out (by kernel_rfl)) (fun _ _ _ h => h) (Or.inl ⟨by rfl, ?_⟩) ?_ ?_
                    rotate_left
                    · intro w'
                      go_simp
                      with_reducible rfl
                    rotate_left
                    · simp only [Act.put, List.setIfInBounds_toArray, List.set_cons_zero, List.set_cons_succ, i64_w, i32_w]
                      rfl
                    refine pure_ (i := 17) (N := some 77) (v := ?_) (a' := ?_) #[true, true, true, true, true, true, true, true, true, true, true, true, true, true, true, true, true, true, false, false, false, false, false, false, false, false] rfl rfl (any_of HT_.out (by kernel_rfl)) (fun _ _ _ h => h) (Or.inl ⟨by rfl, ?_⟩) ?_ ?_
                    rotate_left
                    · intro w'
                      go_simp
                      with_reducible rfl
                    rotate_left
                    · simp only [Act.put, List.setIfInBounds_toArray, List.set_cons_zero, List.set_cons_succ, i64_w, i32_w]
                      rfl
                    refine pure_ (i := 18) (N := some 78) (v := ?_) (a' := ?_) #[true, true, true, true, true, true, true, true, true, true, true, true, true, true, true, true, true, true, true, false, false, false, false, false, false, false] rfl rfl (any_of HT_.out (by kernel_rfl)) (fun _ _ _ h => h) (Or.inl ⟨by rfl, ?_⟩) ?_ ?_
                    rotate_left
                    · intro w'
                      go_simp
                      with_reducible rfl
                    rotate_left
                    · simp only [Act.put, List.setIfInBounds_toArray, List.set_cons_zero, List.set_cons_succ, i64_w, i32_w]
                      rfl
                    refine take_ (i := 19) (N := some 79) (v := ?_) (a' := ?_) #[true, true, true, true, true, true, true, true, true, true, true, true, true, true, true, true, true, true, true, true, false, false, false, false, false, false] rfl rfl (take_ofW HT_.out HW_.out (by kernel_rfl)) (fun _ _ _ h => h) (Or.inl ⟨by rfl, ?_⟩) hHeld ?_ ?_
                    rotate_left
                    · rintro w' ⟨s0, s1, s2, s3, s4, s5, s6, s7, s8, s9, s10, s11, s12, s13⟩
                      go_simp
                      with_reducible rfl
                    rotate_left
                    · simp only [Act.put, List.setIfInBounds_toArray, List.set_cons_zero, List.set_cons_succ, i64_w, i32_w]
                      rfl
                    refine one_ (i := 20) (N := some 80) #[true, true, true, true, true, true, true, true, true, true, true, true, true, true, true, true, true, true, true, true, true, false, false, false, false, false] rfl rfl (one_of HT_.out (by kernel_rfl)) (by decide) (fun K hK => ?_)
                    refine goes_ Try.func28 (by kernel_rfl) rfl #[] (by rfl) rfl rfl (by (try simp only [List.map_toArray, List.map_cons, List.map_nil]); first | done | rfl | (simp only [List.length_drop, List.length_take]; rfl)) ?_
                    with_reducible refine (fdb_New.calls  t209 _ A51.out).mono ?_
                    rintro e w65 ⟨vt209, rfl, ht209, hb⟩
                    have Ht209 := Aside0.mk ht209
                    clear ht209
                    refine ⟨_, rfl, ?_⟩
                    have n0_ := Aside0.mk (Kd.V_below (by (with_reducible repeat (first | apply Kd.V_alloc | apply Kd.V_drewN | apply Kd.V_drew)); exact HO_0.out) hb)
                    have n1_ := Aside0.mk (Kd.N_below (by (with_reducible repeat (first | apply Kd.N_alloc | apply Kd.N_drewN | apply Kd.N_drew)); exact HO_11.out) hb)
                    have n2_ := Aside0.mk (Kd.N_below (by (with_reducible repeat (first | apply Kd.N_alloc | apply Kd.N_drewN | apply Kd.N_drew)); exact HO_12.out) hb)
                    have n3_ := Aside0.mk (Kd.V_below (by (with_reducible repeat (first | apply Kd.V_alloc | apply Kd.V_drewN | apply Kd.V_drew)); exact HO_37.out) hb)
                    have n4_ := Aside0.mk (Kd.R_below (by (with_reducible repeat (first | apply Kd.R_alloc | apply Kd.R_drewN | apply Kd.R_drew)); exact HO204.out) hb)
                    have n5_ := Aside0.mk (Kd.R_below (by (with_reducible repeat (first | apply Kd.R_alloc | apply Kd.R_drewN | apply Kd.R_drew)); exact HO208.out) hb)
                    have n6_ := Aside0.mk (blk_below (g := gb185) (o := .cells #[.int .i64 a2_0, .int .i64 a2_1, .bool a2_2, .int .i64 a2_3, .int .i64 a2_4, .int .i64 a2_5, .string a2_6] 49 (0, 0)) (by (with_reducible repeat (first | refine blk_drewN ?_ _ | refine blk_drew ?_ | refine blk_alloc ?_ _)); exact BK185.out) hb)
                    have n7_ := Aside0.mk (blk_below (g := gb186) (o := .cells #[.int .i64 a3_0, .int .i64 (-1), .bool a3_2, .int .i64 a3_3, .int .i64 a3_4, .int .i64 a3_5, .string a3_6] 49 (0, 0)) (by (with_reducible repeat (first | refine blk_drewN ?_ _ | refine blk_drew ?_ | refine blk_alloc ?_ _)); exact BK186.out) hb)
                    have n8_ := Aside0.mk (below_step (by repeat (first | (with_reducible first | exact HB.out | apply below_alloc | apply pw_below_drewN | apply below_drew1 | refine below_set ?_ GE185.out | refine below_set ?_ GE186.out) | exact HB.out)) hb)
                    clear HO_0
                    clear HO_11
                    clear HO_12
                    clear HO_37
                    clear HO204
                    clear HO208
                    clear BK185
                    clear BK186
                    clear HB
                    have HO_0 := n0_
                    have HO_11 := n1_
                    have HO_12 := n2_
                    have HO_37 := n3_
                    have HO204 := n4_
                    have HO208 := n5_
                    have BK185 := n6_
                    have BK186 := n7_
                    have HB := n8_
                    clear n0_ n1_ n2_ n3_ n4_ n5_ n6_ n7_ n8_
                    (try clear hb)
                    (try clear hb2)
                    (try clear hk)
                    (try clear hi)
                    refine hK.out _ _ ⟨(blk_cell BK185.out 0).trans rfl, (blk_cell BK185.out 1).trans rfl, (blk_cell BK185.out 2).trans rfl, (blk_cell BK185.out 3).trans rfl, (blk_cell BK185.out 4).trans rfl, (blk_cell BK185.out 5).trans rfl, (blk_cell BK185.out 6).trans rfl, (blk_cell BK186.out 0).trans rfl, (blk_cell BK186.out 1).trans rfl, (blk_cell BK186.out 2).trans rfl, (blk_cell BK186.out 3).trans rfl, (blk_cell BK186.out 4).trans rfl, (blk_cell BK186.out 5).trans rfl, (blk_cell BK186.out 6).trans rfl⟩ (fun hHeld => ?_)
                    clear hK K
                    refine norm_ (a' := ?_) ?_ ?_
                    rotate_left
                    · show Act.put _ (some 80) _ = _
                      simp only [Act.put, List.setIfInBounds_toArray, List.set_cons_zero, List.set_cons_succ, i64_w, i32_w]
                      rfl
                    refine one_ (i := 21) (N := some 81) #[true, true, true, true, true, true, true, true, true, true, true, true, true, true, true, true, true, true, true, true, true, true, false, false, false, false] rfl rfl (one_of HT_.out (by kernel_rfl)) (by decide) (fun K hK => ?_)
                    refine goes_ Try.func27 (by kernel_rfl) rfl #[.slice A0 l0.length c0, .int .i64 a1, .agg #[.int .i64 a3_0, .int .i64 (-1), .bool a3_2, .int .i64 a3_3, .int .i64 a3_4, .int .i64 a3_5, .string a3_6], vt209] (by rfl) rfl rfl (by (try simp only [List.map_toArray, List.map_cons, List.map_nil]); first | done | rfl | (simp only [List.length_drop, List.length_take]; rfl)) ?_
                    with_reducible refine (relay_Relay.calls k2 _ _ l0 a1 a3_0 (-1) a3_2 a3_3 a3_4 a3_5 a3_6 _ t209 t210 _ ?side1 ?side2 ?side3 A52.out).mono ?_
                    (case side1 => repeat (first | exact (Kd.V_reads' HO_0.out).2.2 | (with_reducible refine Kd.C_alloc ?_ _) | (with_reducible refine Kd.C_drewN ?_ _) | (with_reducible refine Kd.C_drew ?_)))
                    (case side2 => exact (Kd.V_reads' HO_0.out).2.1)
                    (case side3 => repeat (first | exact Ht209.out | (with_reducible refine TabC.alloc ?_ _) | (with_reducible refine TabC.drewN ?_ _) | (with_reducible refine TabC.drew ?_)))
                    rintro e w66 ⟨v211, rfl, ho0, hb⟩
                    refine ⟨_, rfl, ?_⟩
                    have n0_ := Aside0.mk (Kd.V_elder' (by (with_reducible repeat (first | apply Kd.V_alloc | apply Kd.V_drewN | apply Kd.V_drew)); exact HO_0.out) (Kd.R_base ho0) hb)
                    have n1_ := Aside0.mk (Kd.N_elder' (by (with_reducible repeat (first | apply Kd.N_alloc | apply Kd.N_drewN | apply Kd.N_drew)); exact HO_11.out) (Kd.R_base ho0) hb)
                    have n2_ := Aside0.mk (Kd.N_elder' (by (with_reducible repeat (first | apply Kd.N_alloc | apply Kd.N_drewN | apply Kd.N_drew)); exact HO_12.out) (Kd.R_base ho0) hb)
                    have n3_ := Aside0.mk (Kd.V_elder' (by (with_reducible repeat (first | apply Kd.V_alloc | apply Kd.V_drewN | apply Kd.V_drew)); exact HO_37.out) (Kd.R_base ho0) hb)
                    have n4_ := Aside0.mk (Kd.R_elder' (by (with_reducible repeat (first | apply Kd.R_alloc | apply Kd.R_drewN | apply Kd.R_drew)); exact HO204.out) (Kd.R_base ho0) hb)
                    have n5_ := Aside0.mk (Kd.R_elder' (by (with_reducible repeat (first | apply Kd.R_alloc | apply Kd.R_drewN | apply Kd.R_drew)); exact HO208.out) (Kd.R_base ho0) hb)
                    have n6_ := Aside0.mk (Kd.R_lower (Kd.R_new' (Kd.R_new' (Kd.R_newM (M := fun k_ => (w.heap.size ≤ k_)) ho0 (below_size (by repeat (first | (with_reducible first | exact HB.out | apply below_alloc | apply pw_below_drewN | apply below_drew1 | refine below_set ?_ GE185.out | refine below_set ?_ GE186.out) | exact HB.out))) (fun k_ h_ => h_)) (Kd.R_lt (by (with_reducible repeat (first | apply Kd.R_alloc | apply Kd.R_drewN | apply Kd.R_drew)); exact HO204.out))) (Kd.R_lt (by (with_reducible repeat (first | apply Kd.R_alloc | apply Kd.R_drewN | apply Kd.R_drew)); exact HO208.out))) (below_size (by repeat (first | (with_reducible first | exact HB.out | apply below_alloc | apply pw_below_drewN | apply below_drew1 | refine below_set ?_ GE185.out | refine below_set ?_ GE186.out) | exact HB.out))))
                    have n7_ := Aside0.mk (blk_below (g := gb185) (o := .cells #[.int .i64 a2_0, .int .i64 a2_1, .bool a2_2, .int .i64 a2_3, .int .i64 a2_4, .int .i64 a2_5, .string a2_6] 49 (0, 0)) (by (with_reducible repeat (first | refine blk_drewN ?_ _ | refine blk_drew ?_ | refine blk_alloc ?_ _)); exact BK185.out) hb)
                    have n8_ := Aside0.mk (blk_below (g := gb186) (o := .cells #[.int .i64 a3_0, .int .i64 (-1), .bool a3_2, .int .i64 a3_3, .int .i64 a3_4, .int .i64 a3_5, .string a3_6] 49 (0, 0)) (by (with_reducible repeat (first | refine blk_drewN ?_ _ | refine blk_drew ?_ | refine blk_alloc ?_ _)); exact BK186.out) hb)
                    have n9_ := Aside0.mk (below_step (by repeat (first | (with_reducible first | exact HB.out | apply below_alloc | apply pw_below_drewN | apply below_drew1 | refine below_set ?_ GE185.out | refine below_set ?_ GE186.out) | exact HB.out)) hb)
                    clear HO_0
                    clear HO_11
                    clear HO_12
                    clear HO_37
                    clear HO204
                    clear HO208
                    clear BK185
                    clear BK186
                    clear HB
                    have HO_0 := n0_
                    have HO_11 := n1_
                    have HO_12 := n2_
                    have HO_37 := n3_
                    have HO204 := n4_
                    have HO208 := n5_
                    have HO212 := n6_
                    have BK185 := n7_
                    have BK186 := n8_
                    have HB := n9_
                    clear n0_ n1_ n2_ n3_ n4_ n5_ n6_ n7_ n8_ n9_
                    (try clear hb)
                    (try clear hb2)
                    (try clear hk)
                    (try clear hi)
                    (try clear ho0)
                    obtain ⟨Ao67, co67, eo67⟩ := Kd.R_slice HO212.out
                    (first | subst eo67 | (injection eo67 with f1_ f2_ f3_; have f4_ := f1_.symm; have f5_ := f3_.symm; clear f1_ f2_ f3_; subst f4_; subst f5_))
                    refine hK.out _ _ ⟨(blk_cell BK185.out 0).trans rfl, (blk_cell BK185.out 1).trans rfl, (blk_cell BK185.out 2).trans rfl, (blk_cell BK185.out 3).trans rfl, (blk_cell BK185.out 4).trans rfl, (blk_cell BK185.out 5).trans rfl, (blk_cell BK185.out 6).trans rfl, (blk_cell BK186.out 0).trans rfl, (blk_cell BK186.out 1).trans rfl, (blk_cell BK186.out 2).trans rfl, (blk_cell BK186.out 3).trans rfl, (blk_cell BK186.out 4).trans rfl, (blk_cell BK186.out 5).trans rfl, (blk_cell BK186.out 6).trans rfl⟩ (fun hHeld => ?_)
                    clear hK K
                    refine norm_ (a' := ?_) ?_ ?_
                    rotate_left
                    · show Act.put _ (some 81) _ = _
                      simp only [Act.put, List.setIfInBounds_toArray, List.set_cons_zero, List.set_cons_succ, i64_w, i32_w]
                      rfl
                    refine pure_ (i := 22) (N := some 82) (v := ?_) (a' := ?_) #[true, true, true, true, true, true, true, true, true, true, true, true, true, true, true, true, true, true, true, true, true, true, true, false, false, false] rfl rfl (any_of HT_.out (by kernel_rfl)) (fun _ _ _ h => h) (Or.inl ⟨by rfl, ?_⟩) ?_ ?_
                    rotate_left
                    · intro w'
                      go_simp
                      with_reducible rfl
                    rotate_left
                    · simp only [Act.put, List.setIfInBounds_toArray, List.set_cons_zero, List.set_cons_succ, i64_w, i32_w]
                      rfl
                    refine pure_ (i := 23) (N := some 83) (v := ?_) (a' := ?_) #[true, true, true, true, true, true, true, true, true, true, true, true, true, true, true, true, true, true, true, true, true, true, true, true, false, false] rfl rfl (any_of HT_.out (by kernel_rfl)) (fun _ _ _ h => h) (Or.inl ⟨by rfl, ?_⟩) ?_ ?_
                    rotate_left
                    · intro w'
                      go_simp
                      with_reducible rfl
                    rotate_left
                    · simp only [Act.put, List.setIfInBounds_toArray, List.set_cons_zero, List.set_cons_succ, i64_w, i32_w]
                      rfl
                    refine pure_ (i := 24) (N := some 84) (v := ?_) (a' := ?_) #[true, true, true, true, true, true, true, true, true, true, true, true, true, true, true, true, true, true, true, true, true, true, true, true, true, false] rfl rfl (any_of HT_.out (by kernel_rfl)) (fun _ _ _ h => h) (Or.inl ⟨by rfl, ?_⟩) ?_ ?_
                    rotate_left
                    · intro w'
                      go_simp
                      with_reducible rfl
                    rotate_left
                    · simp only [Act.put, List.setIfInBounds_toArray, List.set_cons_zero, List.set_cons_succ, i64_w, i32_w]
                      rfl
                    refine pure_ (i := 25) (N := some 8) (v := ?_) (a' := ?_) #[true, true, true, true, true, true, true, true, true, true, true, true, true, true, true, true, true, true, true, true, true, true, true, true, true, true] rfl rfl (any_of HT_.out (by kernel_rfl)) (fun _ _ _ h => h) (Or.inl ⟨by rfl, ?_⟩) ?_ ?_
                    rotate_left
                    · intro w'
                      go_simp
                      with_reducible rfl
                    rotate_left
                    · simp only [Act.put, List.setIfInBounds_toArray, List.set_cons_zero, List.set_cons_succ, i64_w, i32_w]
                      rfl
                    refine done_ (done_of HT_.out (by kernel_rfl)) ?_
                    try go_wp2
                    go_ret
                    exact ⟨by first | rfl | (simp [errW_none, errW_some] <;> rfl) | (simp [*, errW_none, errW_some] <;> rfl), by repeat (first | (with_reducible first | exact HB.out | apply below_alloc | apply pw_below_drewN | apply below_drew1 | refine below_set ?_ GE185.out | refine below_set ?_ GE186.out) | exact HB.out)⟩
                  · rw [if_neg c50] at H
                    have c50b0 : ((t206.length : Int) == 0) = false := beq_eq_false_iff_ne.mpr c50
                    have c50b1 : ((t206.length : Int) != 0) = true := bne_iff_ne.mpr c50
                    have c50b2 : ¬ (t206 = []) := fun h_ => c50 (by rw [h_]; rfl)
                    exact absurd (Option.some.inj H) (by rw [HRT.out]; decide)
                · rw [if_neg c47] at H
                  have c47b0 : ((t202.length : Int) == 0) = false := beq_eq_false_iff_ne.mpr c47
                  have c47b1 : ((t202.length : Int) != 0) = true := bne_iff_ne.mpr c47
                  have c47b2 : ¬ (t202 = []) := fun h_ => c47 (by rw [h_]; rfl)
                  exact absurd (Option.some.inj H) (by rw [HRT.out]; decide)
  · replace c6 := Bool.eq_false_iff.mpr c6
    subst c6
    have H1 : (some false) = some r := by rw [if_neg (show ¬ (false = true) by decide)] at H; exact H
    clear H
    have H := H1
    clear H1
    exact absurd (Option.some.inj H) (by rw [HRT.out]; decide)end Go.Proofs.Ytjhkbmdblfdlnaa.QRel
namespace Go.Proofs.Ytjhkbmdblfdlnaa.Opn
open Go.ChangeShapes Go.WideShapes Go.Proofs.YtjhkbmdblfdlnaaW.PrintWords
variable {P : Program}
def Opens {α : Type} (P : Program) (t : TypeId) (d : Kd α) (good : α → Prop) : Prop :=
  ∀ (H : Type) (enc : TypeId × Value → H) (w : World) (fuel : Nat) (cs : List Value) (x : DataW H × List MemPlace),
    DataW.trod enc P w 0 (fun _ => true) true fuel t cs = some x → (∀ n ∈ x.1.weights P t, n ≤ reachBytes) → ∃ a : α, d.K w a cs ∧ good a
theorem opens_int {t : TypeId} {k : IntKind} (hu : P.underlying t = some (.int k)) : Opens P t (Kd.int k) (fun n => (Lit.int k n).wf = true) := by
  intro H enc w fuel cs x h _
  obtain ⟨n, rfl, _, hw⟩ := DataW.trod_int hu h
  exact ⟨n, rfl, hw⟩
theorem opens_bool {t : TypeId} (hu : P.underlying t = some .bool) : Opens P t Kd.bool (fun _ => True) := by
  intro H enc w fuel cs x h _
  obtain ⟨b, rfl, _⟩ := DataW.trod_bool hu h
  exact ⟨b, rfl, trivial⟩
theorem opens_string {t : TypeId} (hu : P.underlying t = some .string) : Opens P t Kd.string (fun s => s.size ≤ 140737488351232) := by
  intro H enc w fuel cs x h hz
  obtain ⟨s, rfl, rfl, hs⟩ := DataW.trod_string hu h
  refine ⟨s, rfl, ?_⟩
  have := hz s.data.toList.length (by simp [DataW.weights])
  simpa [reachBytes] using this
theorem weightsAll_mem {H : Type} {e : TypeId} : ∀ {l : List (DataW H)} {d : DataW H}, d ∈ l → ∀ n ∈ d.weights P e, n ∈ DataW.weightsAll P e l
  | [], d, h, _, _ => by simp at h
  | d0 :: l, d, h, n, hn => by
    simp only [DataW.weightsAll, List.mem_append]
    rcases List.mem_cons.1 h with rfl | h
    · exact Or.inl hn
    · exact Or.inr (weightsAll_mem h n hn)
theorem add_at_ (a : Addr) (i j : Nat) : (a.add i).add j = a.add (i + j) := by
  unfold Addr.add
  by_cases hi : i = 0
  · subst hi; simp
  · by_cases hj : j = 0
    · subst hj; simp
    · simp [hi, hj, Nat.add_assoc]
theorem choose_list {α : Type} {Q : Nat → α → Prop} : ∀ (n : Nat), (∀ i, i < n → ∃ a, Q i a) → ∃ l : List α, l.length = n ∧ ∀ i a, l[i]? = some a → Q i a
  | 0, _ => ⟨[], rfl, fun i a h => by simp at h⟩
  | n + 1, h => by
    obtain ⟨l, hl, hq⟩ := choose_list n (fun i hi => h i (by omega))
    obtain ⟨a, ha⟩ := h n (by omega)
    refine ⟨l ++ [a], by simp [hl], fun i b hb => ?_⟩
    rcases Nat.lt_or_ge i l.length with hi | hi
    · rw [List.getElem?_append_left hi] at hb
      exact hq i b hb
    · rw [List.getElem?_append_right hi] at hb
      have hlt := (List.getElem?_eq_some_iff.1 hb).1
      simp at hlt
      have e : i = n := by omega
      subst e
      rw [show i - l.length = 0 from by omega] at hb
      have hb' : a = b := by simpa using hb
      subst hb'
      exact ha
theorem opens_slice_row {α : Type} {t e : TypeId} {d : Kd α} {good : α → Prop} (hu : P.underlying t = some (.slice e)) (hC : P.cellsOf e = d.sz) {B : Nat} (hB : P.bytesOf e = B) (ho : Opens P e d good)
    (H : Type) (enc : TypeId × Value → H) (w : World) (fuel : Nat) (A : Option Addr) (len cap : Nat) (x : DataW H × List MemPlace)
    (h : DataW.trod enc P w 0 (fun _ => true) true fuel t [.slice A len cap] = some x) (hz : ∀ n ∈ x.1.weights P t, n ≤ reachBytes) :
    ∃ l : List α, l.length = len ∧ len ≤ cap ∧ d.C w A len l ∧ len ≤ maxLen ∧ len * B ≤ 140737488351232 ∧ ∀ a ∈ l, good a := by
  rcases DataW.trod_slice hu h with ⟨h0, _⟩ | ⟨a, len', cap', elems, rest, n, _, hcs, hx, _, hl, hm, hlen, hel, _, _⟩
  · simp only [List.cons.injEq, Value.slice.injEq, and_true] at h0
    obtain ⟨rfl, rfl, rfl⟩ := h0
    exact ⟨[], rfl, Nat.le_refl _, ⟨rfl, Nat.zero_le _, fun h => absurd h (by omega)⟩, Nat.zero_le _, by simp, fun a ha => by simp at ha⟩
  · simp only [List.cons.injEq, Value.slice.injEq, and_true] at hcs
    obtain ⟨rfl, rfl, rfl⟩ := hcs
    have each : ∀ i, i < len → ∃ b : α, (∃ c, c.length = d.sz ∧ d.K w b c ∧ ∀ j u, c[j]? = some u → w.cell? (a.add (i * d.sz + j)) = some u) ∧ good b := by
      intro i hi
      have h1 := hel i hi
      have hie : i < elems.length := by omega
      rw [List.getElem?_eq_getElem hie, Option.bind_eq_some_iff] at h1
      obtain ⟨cs', hc, ht'⟩ := h1
      have hw' : ∀ n ∈ (elems[i]).1.weights P e, n ≤ reachBytes := by
        intro m hm'
        refine hz m ?_
        rw [hx]
        simp only [DataW.weights, hu]
        refine List.mem_cons_of_mem _ (List.mem_append_left _ ?_)
        exact weightsAll_mem (List.mem_map.2 ⟨elems[i], List.getElem_mem hie, rfl⟩) m hm'
      obtain ⟨b, hb, hg⟩ := ho H enc w _ cs' _ ht' hw'
      obtain ⟨_, hcl, hat⟩ := World.cells?_some hc
      refine ⟨b, ⟨cs', by rw [hcl, hC], hb, fun j u hu' => ?_⟩, hg⟩
      have hj : j < P.cellsOf e := by
        have := (List.getElem?_eq_some_iff.1 hu').1
        omega
      have := hat j hj
      rw [hC] at this
      rw [← add_at_, this, hu']
    obtain ⟨l, hll, hq⟩ := choose_list len each
    refine ⟨l, hll, hl, ⟨hll, by simp only [maxLen] at hm; omega, fun _ => ⟨a, rfl, fun j p hj => (hq j p hj).1⟩⟩, by omega, ?_, fun b hb => ?_⟩
    · have h1 := hz ((elems.length + rest.length) * P.bytesOf e) (by rw [hx]; simp [DataW.weights, hu])
      rw [hB] at h1
      simp only [reachBytes] at h1
      refine Nat.le_trans (Nat.mul_le_mul_right _ ?_) h1
      omega
    · obtain ⟨i, hi⟩ := List.getElem?_of_mem hb
      exact (hq i b hi).2
theorem opens_slice {α : Type} {t e : TypeId} {d : Kd α} {good : α → Prop} (hu : P.underlying t = some (.slice e)) (hC : P.cellsOf e = d.sz) {B : Nat} (hB : P.bytesOf e = B) (ho : Opens P e d good) :
    Opens P t (Kd.slice e d) (fun l => l.length ≤ maxLen ∧ l.length * B ≤ 140737488351232 ∧ ∀ a ∈ l, good a) := by
  intro H enc w fuel cs x h hz
  have hform : ∃ A len cap, cs = [.slice A len cap] := by
    rcases DataW.trod_slice hu h with ⟨h0, _⟩ | ⟨a, len', cap', elems, rest, n, _, hcs, _⟩
    · exact ⟨_, _, _, h0⟩
    · exact ⟨_, _, _, hcs⟩
  obtain ⟨A, len, cap, rfl⟩ := hform
  obtain ⟨l, rfl, hlc, hC', hm, hb, hg⟩ := opens_slice_row hu hC hB ho H enc w fuel A len cap x h hz
  exact ⟨l, ⟨A, cap, rfl, hlc, hC'⟩, hm, hb, hg⟩
def OpensFs {α : Type} (P : Program) (off : Nat) (fs : List Field) (d : Kd α) (good : α → Prop) : Prop :=
  ∀ (H : Type) (enc : TypeId × Value → H) (w : World) (fuel : Nat) (cs : List Value) (ys : List (DataW H × List MemPlace)),
    cs.length = off + d.sz → ys.length = fs.length → (∀ (i : Nat) (f : Field), fs[i]? = some f → DataW.trod enc P w 0 (fun _ => true) true fuel f.type ((cs.drop f.offset).take (P.cellsOf f.type)) = ys[i]?) →
    (∀ n ∈ DataW.weightsEach P (fs.map (·.type)) (ys.map (·.1)), n ≤ reachBytes) → ∃ a : α, d.K w a (cs.drop off) ∧ good a
theorem opensFs_one {α : Type} {off : Nat} {f : Field} {d : Kd α} {good : α → Prop} (ho : f.offset = off) (hC : P.cellsOf f.type = d.sz) (h : Opens P f.type d good) : OpensFs P off [f] d good := by
  intro H enc w fuel cs ys hcs hy hf hz
  match ys, hy with
  | [y], _ =>
    have h1 := hf 0 f rfl
    rw [ho, hC, List.take_of_length_le (by simp [List.length_drop]; omega)] at h1
    exact h H enc w fuel _ y h1 (fun n hn => hz n (by simp only [List.map_cons, DataW.weightsEach, List.mem_append]; exact Or.inl hn))
theorem opensFs_cons {α β : Type} {off : Nat} {f : Field} {fs : List Field} {d : Kd α} {e : Kd β} {g1 : α → Prop} {g2 : β → Prop} (ho : f.offset = off) (hC : P.cellsOf f.type = d.sz) (h : Opens P f.type d g1) (hs : OpensFs P (off + d.sz) fs e g2) :
    OpensFs P off (f :: fs) (Kd.pair d e) (fun p => g1 p.1 ∧ g2 p.2) := by
  intro H enc w fuel cs ys hcs hy hf hz
  match ys, hy with
  | y :: ys, hy =>
    have hsz : (Kd.pair d e).sz = d.sz + e.sz := rfl
    rw [hsz] at hcs
    have h1 := hf 0 f rfl
    rw [ho, hC] at h1
    obtain ⟨a, ha, hga⟩ := h H enc w fuel _ y h1 (fun n hn => hz n (by simp only [List.map_cons, DataW.weightsEach, List.mem_append]; exact Or.inl hn))
    obtain ⟨b, hb, hgb⟩ := hs H enc w fuel cs ys (by omega) (by simpa using hy) (fun i f' hi => by simpa using hf (i + 1) f' (by simpa using hi)) (fun n hn => hz n (by simp only [List.map_cons, DataW.weightsEach, List.mem_append]; exact Or.inr hn))
    refine ⟨(a, b), ⟨(cs.drop off).take d.sz, cs.drop (off + d.sz), ?_, ha, hb⟩, hga, hgb⟩
    rw [← List.drop_drop, List.take_append_drop]
theorem opens_struct {α : Type} {t : TypeId} {fs : Array Field} {d : Kd α} {good : α → Prop} (hu : P.underlying t = some (.struct fs)) (hC : P.cellsOf t = d.sz) (h : OpensFs P 0 fs.toList d good) : Opens P t d good := by
  intro H enc w fuel cs x hx hz
  obtain ⟨ys, n, _, hxe, hlen, hyl, hf⟩ := DataW.trod_struct hu hx
  obtain ⟨a, ha, hg⟩ := h H enc w n cs ys (by omega) (by simpa using hyl) (fun i f hi => hf i f (by simpa using hi)) (fun m hm => hz m (by rw [hxe]; simp only [DataW.weights, hu]; exact hm))
  exact ⟨a, by simpa using ha, hg⟩
theorem opens_iso {α β : Type} {t : TypeId} {d : Kd α} {good : α → Prop} (f : β → α) (g : α → β) (hfg : ∀ a, f (g a) = a) (h : Opens P t d good) : Opens P t (Kd.iso d f) (fun b => good (f b)) := by
  intro H enc w fuel cs x hx hz
  obtain ⟨a, ha, hga⟩ := h H enc w fuel cs x hx hz
  refine ⟨g a, ?_, by show good (f (g a)); rw [hfg]; exact hga⟩
  show d.K w (f (g a)) cs
  rw [hfg]
  exact ha
theorem opens_imp {α : Type} {t : TypeId} {d : Kd α} {g1 g2 : α → Prop} (h : Opens P t d g1) (hg : ∀ a, g1 a → g2 a) : Opens P t d g2 := by
  intro H enc w fuel cs x hx hz
  obtain ⟨a, ha, hga⟩ := h H enc w fuel cs x hx hz
  exact ⟨a, ha, hg a hga⟩
theorem weights_of {H : Type} {ts : List TypeId} {ds : List (DataW H)} (h : (DataW.weightsEach P ts ds).all (· ≤ reachBytes) = true) {j : Nat} {t : TypeId} {d : DataW H} (ht : ts[j]? = some t) (hd : ds[j]? = some d) : ∀ n ∈ d.weights P t, n ≤ reachBytes := by
  intro n hn
  have := List.all_eq_true.1 h _ (DataW.weights_mem_each ht hd n hn)
  simpa using this
theorem arg_slice {α : Type} {t e : TypeId} {d : Kd α} {good : α → Prop} (hu : P.underlying t = some (.slice e)) (hC : P.cellsOf e = d.sz) {B : Nat} (hB : P.bytesOf e = B) (ho : Opens P e d good)
    {H : Type} {enc : TypeId × Value → H} {w : World} {r : Reach} {b0 : Nat} {v : Value} {x : DataW H} {ps : List MemPlace} (hv : Value.okWide P w r b0 t v)
    (h : DataW.Trod enc P w 0 (fun _ => true) true t v x ps) (hz : ∀ n ∈ x.weights P t, n ≤ reachBytes) :
    ∃ (A : Option Addr) (c : Nat) (l : List α), v = .slice A l.length c ∧ l.length ≤ c ∧ d.C w A l.length l ∧ l.length ≤ maxLen ∧ l.length * B ≤ 140737488351232 ∧ ∀ a ∈ l, good a := by
  obtain ⟨A, len, c, rfl⟩ := okWide_slice hu hv
  obtain ⟨fuel, hf⟩ := h
  have hf' : DataW.trod enc P w 0 (fun _ => true) true fuel t [.slice A len c] = some (x, ps) := by simpa [Value.cells] using hf
  obtain ⟨l, rfl, hlc, hC', hm, hb, hg⟩ := opens_slice_row hu hC hB ho H enc w fuel A len c _ hf' hz
  exact ⟨A, c, l, rfl, hlc, hC', hm, hb, hg⟩
theorem arg_struct {α : Type} {t : TypeId} {fs : Array Field} {d : Kd α} {good : α → Prop} (hu : P.underlying t = some (.struct fs)) (ho : Opens P t d good)
    {H : Type} {enc : TypeId × Value → H} {w : World} {r : Reach} {b0 : Nat} {v : Value} {x : DataW H} {ps : List MemPlace} (hv : Value.okWide P w r b0 t v)
    (h : DataW.Trod enc P w 0 (fun _ => true) true t v x ps) (hz : ∀ n ∈ x.weights P t, n ≤ reachBytes) :
    ∃ (a : α) (cs : List Value), v = .agg cs.toArray ∧ d.K w a cs ∧ good a := by
  obtain ⟨cs, rfl, _⟩ := okWide_struct hu hv
  obtain ⟨fuel, hf⟩ := h
  obtain ⟨a, ha, hg⟩ := ho H enc w fuel _ _ hf hz
  exact ⟨a, cs.toList, by simp, by simpa [Value.cells] using ha, hg⟩
theorem arg_int {t : TypeId} {k : IntKind} (hu : P.underlying t = some (.int k))
    {H : Type} {enc : TypeId × Value → H} {w : World} {r : Reach} {b0 : Nat} {v : Value} {x : DataW H} {ps : List MemPlace} (hv : Value.okWide P w r b0 t v)
    (h : DataW.Trod enc P w 0 (fun _ => true) true t v x ps) : ∃ n, v = .int k n ∧ (Lit.int k n).wf = true := by
  obtain ⟨n, rfl⟩ := okWide_int hu hv
  obtain ⟨fuel, hf⟩ := h
  obtain ⟨m, hcs, _, hw⟩ := DataW.trod_int hu hf
  simp only [Value.cells] at hcs
  have e : n = m := by simpa using hcs
  subst e
  exact ⟨n, rfl, hw⟩
end Go.Proofs.Ytjhkbmdblfdlnaa.Opn
namespace Go.Proofs.Ytjhkbmdblfdlnaa.relayQuiet
open Go.RowKit Go.Proofs.YtjhkbmdblfdlnaaW.PrintWords Go.Proofs.YtjhkbmdblfdlnaaW.PrintLast Go.Proofs.YtjhkbmdblfdlnaaW.PrintMore Go.Proofs.Ytjhkbmdblfdlnaa.QRel
set_option linter.unusedVariables false
def G54 (x : S54) : Prop := (Lit.int .i64 x.f0).wf = true ∧ (Lit.int .i64 x.f1).wf = true ∧ True ∧ (x.f3.length ≤ maxLen ∧ x.f3.length * 8 ≤ 140737488351232 ∧ ∀ a ∈ x.f3, (Lit.int .i64 a).wf = true)
def G49 (x : S49) : Prop := (Lit.int .i64 x.f0).wf = true ∧ (Lit.int .i64 x.f1).wf = true ∧ True ∧ (Lit.int .i64 x.f3).wf = true ∧ (Lit.int .i64 x.f4).wf = true ∧ (Lit.int .i64 x.f5).wf = true ∧ x.f6.size ≤ 140737488351232
def Pure : Prop := ∀ (x0 : (List S54)) (x1 : Int) (x2 : S49) (x3 : S49), (x0.length ≤ maxLen ∧ x0.length * 48 ≤ 140737488351232 ∧ ∀ a ∈ x0, G54 a) → (Lit.int .i64 x1).wf = true → G49 x2 → G49 x3 → ∃ k, kissgatelaw19_RelayQuiet.f k x0 x1 x2.f0 x2.f1 x2.f2 x2.f3 x2.f4 x2.f5 x2.f6 x3.f0 x3.f1 x3.f2 x3.f3 x3.f4 x3.f5 x3.f6 = some true
end Go.Proofs.Ytjhkbmdblfdlnaa.relayQuiet
namespace Go.Proofs.Ytjhkbmdblfdlnaa.relayQuiet
open Go.RowKit Go.Proofs.YtjhkbmdblfdlnaaW.PrintWords Go.Proofs.YtjhkbmdblfdlnaaW.PrintLast Go.Proofs.YtjhkbmdblfdlnaaW.PrintMore Go.Proofs.Ytjhkbmdblfdlnaa.QRel
theorem tot_bind {α β : Type} {o : Option α} {f : α → Option β} (h : ∃ a, o = some a) (g : ∀ a, ∃ b, f a = some b) : ∃ b, o.bind f = some b := by
  obtain ⟨a, rfl⟩ := h; exact g a
theorem tot_ite {α : Type} {c : Prop} [Decidable c] {x y : Option α} (hx : ∃ b, x = some b) (hy : ∃ b, y = some b) : ∃ b, (if c then x else y) = some b := by
  split <;> assumption
theorem good_tot (a : Int) : ∃ b, addr_Good.f a = some b := by unfold addr_Good.f; repeat' first | exact ⟨_, rfl⟩ | refine tot_ite ?_ ?_
theorem many_tot (a : Int) : ∃ b, addr_Many.f a = some b := by unfold addr_Many.f; repeat' first | exact good_tot _ | exact ⟨_, rfl⟩ | refine tot_ite ?_ ?_ | refine tot_bind ?_ (fun _ => ?_)
theorem kept_tot (a : Int) : ∃ b, addr_Kept.f a = some b := by unfold addr_Kept.f; repeat' first | exact good_tot _ | exact ⟨_, rfl⟩ | refine tot_ite ?_ ?_ | refine tot_bind ?_ (fun _ => ?_)
theorem type_tot (a : Int) : ∃ b, addr_Type.f a = some b := by unfold addr_Type.f; repeat' first | exact ⟨_, rfl⟩ | refine tot_ite ?_ ?_
theorem vid_tot (a : Int) : ∃ b, addr_Vid.f a = some b := by unfold addr_Vid.f; repeat' first | exact ⟨_, rfl⟩ | refine tot_ite ?_ ?_
theorem frame_tot (a0 a1 : Int) (a2 : Bool) (a3 a4 a5 : Int) (a6 : ByteArray) : ∃ b, frame_Good.f 2 a0 a1 a2 a3 a4 a5 a6 = some b := by
  simp only [frame_Good.f, frame_Good.j0, frame_Good.j1]
  repeat' first | exact good_tot _ | exact many_tot _ | exact type_tot _ | exact ⟨_, rfl⟩ | refine tot_ite ?_ ?_ | refine tot_bind ?_ (fun _ => ?_)
theorem class_tot (p0 p1 : Int) (p2 : Bool) (p3 : List Int) (a0 a1 : Int) (a2 : Bool) (a3 a4 a5 : Int) (a6 : ByteArray) : ∃ b, relay_Class.f 1 p0 p1 p2 p3 a0 a1 a2 a3 a4 a5 a6 = some b := by
  simp only [relay_Class.f, relay_Class.j0]
  repeat' first | exact vid_tot _ | exact ⟨_, rfl⟩ | refine tot_ite ?_ ?_ | refine tot_bind ?_ (fun _ => ?_)
theorem frame_ev (a0 a1 : Int) (a2 : Bool) (a3 a4 a5 : Int) (a6 : ByteArray) : ∃ b, Ev (fun k => frame_Good.f k a0 a1 a2 a3 a4 a5 a6) b := by
  obtain ⟨b, h⟩ := frame_tot a0 a1 a2 a3 a4 a5 a6
  exact ⟨b, Ev.of (frame_Good.mono _ _ _ _ _ _ _) h⟩
theorem class_ev (p0 p1 : Int) (p2 : Bool) (p3 : List Int) (a0 a1 : Int) (a2 : Bool) (a3 a4 a5 : Int) (a6 : ByteArray) : ∃ b, Ev (fun k => relay_Class.f k p0 p1 p2 p3 a0 a1 a2 a3 a4 a5 a6) b := by
  obtain ⟨b, h⟩ := class_tot p0 p1 p2 p3 a0 a1 a2 a3 a4 a5 a6
  exact ⟨b, Ev.of (relay_Class.mono _ _ _ _ _ _ _ _ _ _ _) h⟩
theorem none_ev (l : List S54) (a1 : Int) (t : List S84) (a0 b1 : Int) (a2 : Bool) (a3 a4 a5 : Int) (a6 : ByteArray) : Ev (fun k => relay_Relay.j0 k l a1 t true a0 b1 a2 a3 a4 a5 a6) [] :=
  Ev.step (fun k => by rw [relay_Relay.j0, if_pos rfl]) (Ev.now _)
theorem relay_cases (l : List S54) (a1 : Int) (t : List S84) (a0 b1 : Int) (a2 : Bool) (a3 a4 a5 : Int) (a6 : ByteArray)
    (h : 0 ≤ a1 → a1 < (l.length : Int) → (rd_T54 l a1).f0 = 2 → Ev (fun k => frame_Good.f k a0 b1 a2 a3 a4 a5 a6) true → Ev (fun k => relay_Relay.j0 k l a1 t false a0 b1 a2 a3 a4 a5 a6) []) :
    Ev (fun k => relay_Relay.f k l a1 a0 b1 a2 a3 a4 a5 a6 t) [] := by
  unfold relay_Relay.f
  by_cases h0 : a1 < 0
  · exact Ev.congr (fun k => if_pos h0) (none_ev ..)
  refine Ev.congr (fun k => if_neg h0) ?_
  by_cases h1 : a1 ≥ (l.length : Int)
  · exact Ev.congr (fun k => if_pos h1) (none_ev ..)
  refine Ev.congr (fun k => if_neg h1) ?_
  refine Ev.congr (fun k => if_pos (by omega)) ?_
  refine Ev.congr (fun k => if_pos (by omega)) ?_
  by_cases h2 : (rd_T54 l a1).f0 = 2
  · refine Ev.congr (fun k => if_pos h2) ?_
    obtain ⟨b, hb⟩ := kept_tot a0
    refine Ev.congr (f := fun k => if b = true then relay_Relay.j0 k l a1 t true a0 b1 a2 a3 a4 a5 a6 else (frame_Good.f k a0 b1 a2 a3 a4 a5 a6).bind fun t133 => relay_Relay.j0 k l a1 t (!t133) a0 b1 a2 a3 a4 a5 a6) (fun k => by rw [hb]; rfl) ?_
    cases b with
    | true => exact Ev.congr (fun k => if_pos rfl) (none_ev ..)
    | false =>
      refine Ev.congr (fun k => if_neg (by simp)) ?_
      obtain ⟨g, hg⟩ := frame_ev a0 b1 a2 a3 a4 a5 a6
      refine Ev.bind hg ?_
      cases g with
      | true => exact h (by omega) (by omega) h2 hg
      | false => exact none_ev ..
  · exact Ev.congr (fun k => if_neg h2) (none_ev ..)
theorem Ev.one {α : Type} {g : Nat → Option α} {r s : α} (h : Ev g r) (k : Ev g s) : r = s := by
  obtain ⟨a, ha⟩ := h; obtain ⟨b, hb⟩ := k
  have := (ha (a + b) (by omega)).symm.trans (hb (a + b) (by omega))
  exact Option.some.inj this
theorem odd_frame (a0 : Int) (a2 : Bool) (a3 a4 a5 : Int) (a6 : ByteArray) : Ev (fun k => frame_Good.f k a0 (-1) a2 a3 a4 a5 a6) false := by
  have hj : Ev (fun k => frame_Good.j0 k true a0 (-1) a2 a3 a4 a5 a6) false := Ev.step (fun k => by rw [frame_Good.j0, if_pos rfl]) (Ev.now _)
  unfold frame_Good.f
  obtain ⟨b, hb⟩ := good_tot a0
  have h1 : addr_Good.f (-1) = some false := by unfold addr_Good.f; rw [if_neg (by omega)]
  cases b with
  | true => exact Ev.congr (fun k => by rw [hb, Option.bind_some, if_pos rfl, h1, Option.bind_some, if_neg (by simp)]) hj
  | false => exact Ev.congr (fun k => by rw [hb, Option.bind_some, if_neg (by simp)]) hj
theorem odd_quiet (l : List S54) (a1 : Int) (t : List S84) (a0 : Int) (a2 : Bool) (a3 a4 a5 : Int) (a6 : ByteArray) : Ev (fun k => relay_Relay.f k l a1 a0 (-1) a2 a3 a4 a5 a6 t) [] :=
  relay_cases l a1 t a0 (-1) a2 a3 a4 a5 a6 fun _ _ _ h => absurd (Ev.one h (odd_frame a0 a2 a3 a4 a5 a6)) (by simp)
theorem rd54 {l : List S54} {i : Int} (h0 : 0 ≤ i) (h1 : i < l.length) : rd_T54 l i ∈ l := by
  unfold rd_T54
  have : i.toNat < l.length := by omega
  rw [List.getD_eq_getElem?_getD, List.getElem?_eq_getElem this]; exact List.getElem_mem this
theorem still_quiet (l : List S54) (hl : ∀ p ∈ l, p.f0 ≤ 1) (a1 : Int) (t : List S84) (a0 b1 : Int) (a2 : Bool) (a3 a4 a5 : Int) (a6 : ByteArray) : Ev (fun k => relay_Relay.f k l a1 a0 b1 a2 a3 a4 a5 a6 t) [] :=
  relay_cases l a1 t a0 b1 a2 a3 a4 a5 a6 fun h0 h1 h2 _ => by
    have := hl _ (rd54 h0 h1)
    omega
theorem bare_loop (l : List S54) (hl : ∀ p ∈ l, p.f3 = []) (hn : l.length ≤ 1000) (a1 v : Int) (n : Int) (d : Nat) : ∀ i : Nat, i + d = l.length → Ev (fun k => relay_targets.l0 k a1 v [] n l l.length i) [] := by
  induction d with
  | zero => intro i hi; exact Ev.step (fun k => by rw [relay_targets.l0, if_neg (by omega)]) (Ev.now _)
  | succ d ih =>
    intro i hi
    have hlt : (i : Int) < l.length := by omega
    have hw : wrap64 ((i : Int) + 1) = ((i + 1 : Nat) : Int) := by unfold wrap64; omega
    have hj : Ev (fun k => relay_targets.j2 k a1 v [] n i l l.length i true) [] := Ev.step (fun k => by rw [relay_targets.j2, if_pos rfl, hw]) (ih (i + 1) (by omega))
    by_cases h0 : (i : Int) = a1
    · exact Ev.step (fun k => by rw [relay_targets.l0, if_pos hlt, if_pos (by omega), if_pos hlt, if_pos h0]) hj
    · by_cases h2 : (rd_T54 l i).f0 = 2
      · refine Ev.step (fun k => by rw [relay_targets.l0, if_pos hlt, if_pos (by omega), if_pos hlt, if_neg h0, if_pos h2]) ?_
        refine Ev.bind (a := false) ?_ hj
        unfold relay_Port_member.f
        rw [hl _ (rd54 (by omega) hlt)]
        exact Ev.step (fun k => by rw [relay_Port_member.l0, if_neg (by simp)]) (Ev.now _)
      · exact Ev.step (fun k => by rw [relay_targets.l0, if_pos hlt, if_pos (by omega), if_pos hlt, if_neg h0, if_neg h2]) hj
theorem bare_targets (l : List S54) (hl : ∀ p ∈ l, p.f3 = []) (hn : l.length ≤ 1000) (a1 v d : Int) : Ev (fun k => relay_targets.f k l a1 v d []) [] := by
  unfold relay_targets.f
  obtain ⟨b, hb⟩ := many_tot d
  have hj : ∀ n, Ev (fun k => relay_targets.j0 k l a1 v [] n) [] := fun n => Ev.step (fun k => by rw [relay_targets.j0]; rfl) (bare_loop l hl hn a1 v n l.length 0 (by omega))
  cases b with
  | true => exact Ev.congr (fun k => by rw [hb, Option.bind_some, if_pos rfl]) (hj _)
  | false => exact Ev.congr (fun k => by rw [hb, Option.bind_some, if_neg (by simp), fdb_Table_Find.f, Option.bind_some]) (hj _)
theorem bare_quiet (l : List S54) (hl : ∀ p ∈ l, p.f3 = []) (hn : l.length ≤ 1000) (a1 : Int) (a0 b1 : Int) (a2 : Bool) (a3 a4 a5 : Int) (a6 : ByteArray) : Ev (fun k => relay_Relay.f k l a1 a0 b1 a2 a3 a4 a5 a6 []) [] :=
  relay_cases l a1 [] a0 b1 a2 a3 a4 a5 a6 fun h0 h1 h2 _ => by
    obtain ⟨c, hc⟩ := class_ev (rd_T54 l a1).f0 (rd_T54 l a1).f1 (rd_T54 l a1).f2 (rd_T54 l a1).f3 a0 b1 a2 a3 a4 a5 a6
    refine Ev.step (fun k => by rw [relay_Relay.j0, if_neg (by simp), if_pos h0, if_pos h1]) ?_
    refine Ev.bind hc ?_
    by_cases hz : c = 0
    · exact Ev.congr (fun k => if_pos hz) (Ev.now _)
    · refine Ev.congr (fun k => if_neg hz) ?_
      refine Ev.bind (bare_targets l hl hn a1 c a0) ?_
      exact Ev.step (fun k => by rw [relay_Relay.l0, if_neg (by simp)]) (Ev.now _)
theorem alive : Ev (fun k => kissgatelaw19_alive.f k) true := Ev.of kissgatelaw19_alive.mono (k := 12) (by decide +kernel)
theorem plain_loop (l : List S54) (hl : l.length * 48 ≤ 140737488351232) (d : Nat) : ∀ (i : Nat) (acc : List S64), i + d = l.length → acc.length = i → ∃ r, Ev (fun k => kissgatelaw19_plain.l0 k l acc l l.length i) r ∧ (r.2 = true → l.length ≤ 10) := by
  induction d with
  | zero => intro i acc hi ha; exact ⟨_, Ev.step (fun k => by rw [kissgatelaw19_plain.l0, if_neg (by omega)]) (Ev.now _), fun h => by simp at h; omega⟩
  | succ d ih =>
    intro i acc hi ha
    have hlt : (i : Int) < l.length := by omega
    have hw : wrap64 ((i : Int) + 1) = ((i + 1 : Nat) : Int) := by unfold wrap64; omega
    by_cases h40 : (((rd_T54 l i).f3).length : Int) > 40
    · exact ⟨_, Ev.step (fun k => by rw [kissgatelaw19_plain.l0, if_pos hlt, if_pos (by omega), if_pos hlt, if_pos h40]) (Ev.now _), fun h => by simp at h⟩
    · obtain ⟨r, hr, h10⟩ := ih (i + 1) (acc ++ [⟨(rd_T54 l i).f0, (rd_T54 l i).f1, (rd_T54 l i).f2, (rd_T54 l i).f3⟩]) (by omega) (by simp [ha])
      exact ⟨r, Ev.step (fun k => by rw [kissgatelaw19_plain.l0, if_pos hlt, if_pos (by omega), if_pos hlt, if_neg h40, if_pos (by omega), hw]) hr, h10⟩
theorem new_eq : fdb_New.f = some ([] : List S84) := rfl
theorem law_loop (l : List S54) (hl : l.length ≤ 10) (a1 : Int) (f0 f1 : Int) (f2 : Bool) (f3 f4 f5 : Int) (f6 : ByteArray) (g0 g1 : Int) (g2 : Bool) (g3 g4 g5 : Int) (g6 : ByteArray) (d : Nat) : ∀ (i : Nat) (S B : List S54), i + d = l.length → S.length = i → B.length = i → (∀ p ∈ S, p.f0 ≤ 1) → (∀ p ∈ B, p.f3 = []) →
    Ev (fun k => kissgatelaw19_RelayQuiet.l0 k l a1 S B l l.length i f0 f1 f2 f3 f4 f5 f6 g0 g1 g2 g3 g4 g5 g6) true := by
  induction d with
  | zero =>
    intro i S B hi hS hB h1 h2
    refine Ev.step (fun k => by rw [kissgatelaw19_RelayQuiet.l0, if_neg (by omega), new_eq, Option.bind_some]) ?_
    refine Ev.bind (still_quiet S h1 ..) ?_
    refine Ev.congr (fun k => by rw [if_pos (by simp), Option.bind_some]) ?_
    refine Ev.bind (bare_quiet B h2 (by omega) ..) ?_
    refine Ev.congr (fun k => by rw [if_pos (by simp), Option.bind_some]) ?_
    refine Ev.bind (odd_quiet l ..) ?_
    exact Ev.now _
  | succ d ih =>
    intro i S B hi hS hB h1 h2
    have hlt : (i : Int) < l.length := by omega
    have hw : wrap64 ((i : Int) + 1) = ((i + 1 : Nat) : Int) := by unfold wrap64; omega
    refine Ev.step (fun k => by rw [kissgatelaw19_RelayQuiet.l0, if_pos hlt, if_pos (by omega), if_pos hlt, if_pos (by omega), if_pos (by omega), hw]) (ih (i + 1) _ _ (by omega) (by simp [hS]) (by simp [hB]) ?_ ?_)
    · intro p hp
      rcases List.mem_append.1 hp with hp | hp
      · exact h1 p hp
      · rw [List.mem_singleton] at hp; subst hp; simp only [mn]; split <;> omega
    · intro p hp
      rcases List.mem_append.1 hp with hp | hp
      · exact h2 p hp
      · rw [List.mem_singleton] at hp; subst hp; rfl
theorem pure : Pure := by
  intro l a1 f g hl ha hf hg
  refine Ev.rounds ?_
  unfold kissgatelaw19_RelayQuiet.f
  refine Ev.bind alive ?_
  simp only [if_true]
  obtain ⟨r, hr, h10⟩ := plain_loop l hl.2.1 l.length 0 [] (by omega) rfl
  refine Ev.bind (a := r) hr ?_
  have ht : ∀ b, (b = false → l.length ≤ 10) → Ev (fun k => kissgatelaw19_RelayQuiet.j0 k l a1 b f.f0 f.f1 f.f2 f.f3 f.f4 f.f5 f.f6 g.f0 g.f1 g.f2 g.f3 g.f4 g.f5 g.f6) true := fun b hb => by
    cases b with
    | true => exact Ev.step (fun k => by rw [kissgatelaw19_RelayQuiet.j0, if_pos rfl]) (Ev.now _)
    | false => exact Ev.step (fun k => by rw [kissgatelaw19_RelayQuiet.j0, if_neg (by simp)]; rfl) (law_loop l (hb rfl) a1 _ _ _ _ _ _ _ _ _ _ _ _ _ _ l.length 0 [] [] (by omega) rfl rfl (by simp) (by simp))
  by_cases h2 : r.2 = true
  · refine Ev.congr (fun k => if_pos h2) ?_
    by_cases h3 : (f.f6.size : Int) > 1000
    · exact Ev.congr (fun k => if_pos h3) (ht true (by simp))
    · exact Ev.congr (fun k => if_neg h3) (ht _ fun _ => h10 h2)
  · exact Ev.congr (fun k => if_neg h2) (ht true (by simp))
end Go.Proofs.Ytjhkbmdblfdlnaa.relayQuiet
