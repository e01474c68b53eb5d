/- Functions of the program as plain Lean functions, what their calls do, and what follows of it. Conditions: each theorem's own. -/
import Derived.Test.YtjhkbmdblfdlnaaCRelayBounds2
namespace Go.Proofs.Ytjhkbmdblfdlnaa.QRlb
open Go.RowKit Go.Proofs.YtjhkbmdblfdlnaaW.PrintWords Go.Proofs.YtjhkbmdblfdlnaaW.PrintLast Go.Proofs.YtjhkbmdblfdlnaaW.PrintMore
attribute [local go_sem] max2_int min2_int max_two min_two max_three min_three max_four min_four
set_option linter.unusedVariables false
set_option linter.unusedSimpArgs false
attribute [local go_sem high] eqA63
mutual
def kissgatelaw19_RelayBounds.j0 : Nat → List (S54) → Int → List (S84) → List (S64) → Bool → Int → Int → Bool → Int → Int → Int → ByteArray → Option (Bool)
  | 0, _, _, _, _, _, _, _, _, _, _, _, _ => none
  | k + 1, x0, x1, x3, x9, x39, x188000, x188001, x188002, x188003, x188004, x188005, x188006 => if x39 = true then (some true) else ((kissgatelaw19_table.f x3).bind fun t193 => ((relay_Relay.f k x0 x1 x188000 x188001 x188002 x188003 x188004 x188005 x188006 t193).bind fun t194 => (kissgatelaw19_RelayBounds.l0 k x0 x1 x9 (-1) t194 (t194.length : Int) 0 x188000 x188001 x188002 x188003 x188004 x188005 x188006)))
def kissgatelaw19_RelayBounds.l0 : Nat → List (S54) → Int → List (S64) → Int → List (S63) → Int → Int → Int → Int → Bool → Int → Int → Int → ByteArray → Option (Bool)
  | 0, _, _, _, _, _, _, _, _, _, _, _, _, _, _ => none
  | k + 1, x0, x1, x9, x11, x45, x46, x47, x188000, x188001, x188002, x188003, x188004, x188005, x188006 => if x47 < x46 then (if 0 ≤ x47 then (if x47 < (x45.length : Int) then (if ((rd_T63 x45 x47).f0) ≤ x11 then (kissgatelaw19_RelayBounds.j2 k x0 x1 x9 x45 x46 x47 true x188000 x188001 x188002 x188003 x188004 x188005 x188006 ((rd_T63 x45 x47).f0) ((rd_T63 x45 x47).f1.f0) ((rd_T63 x45 x47).f1.f1) ((rd_T63 x45 x47).f1.f2) ((rd_T63 x45 x47).f1.f3) ((rd_T63 x45 x47).f1.f4) ((rd_T63 x45 x47).f1.f5) ((rd_T63 x45 x47).f1.f6)) else (if ((rd_T63 x45 x47).f0) ≥ (x9.length : Int) then (kissgatelaw19_RelayBounds.j2 k x0 x1 x9 x45 x46 x47 true x188000 x188001 x188002 x188003 x188004 x188005 x188006 ((rd_T63 x45 x47).f0) ((rd_T63 x45 x47).f1.f0) ((rd_T63 x45 x47).f1.f1) ((rd_T63 x45 x47).f1.f2) ((rd_T63 x45 x47).f1.f3) ((rd_T63 x45 x47).f1.f4) ((rd_T63 x45 x47).f1.f5) ((rd_T63 x45 x47).f1.f6)) else (if ((rd_T63 x45 x47).f0) = x1 then (kissgatelaw19_RelayBounds.j2 k x0 x1 x9 x45 x46 x47 true x188000 x188001 x188002 x188003 x188004 x188005 x188006 ((rd_T63 x45 x47).f0) ((rd_T63 x45 x47).f1.f0) ((rd_T63 x45 x47).f1.f1) ((rd_T63 x45 x47).f1.f2) ((rd_T63 x45 x47).f1.f3) ((rd_T63 x45 x47).f1.f4) ((rd_T63 x45 x47).f1.f5) ((rd_T63 x45 x47).f1.f6)) else (if 0 ≤ ((rd_T63 x45 x47).f0) then (if ((rd_T63 x45 x47).f0) < (x9.length : Int) then (kissgatelaw19_RelayBounds.j2 k x0 x1 x9 x45 x46 x47 (((rd_T64 x9 ((rd_T63 x45 x47).f0)).f0) != 2) x188000 x188001 x188002 x188003 x188004 x188005 x188006 ((rd_T63 x45 x47).f0) ((rd_T63 x45 x47).f1.f0) ((rd_T63 x45 x47).f1.f1) ((rd_T63 x45 x47).f1.f2) ((rd_T63 x45 x47).f1.f3) ((rd_T63 x45 x47).f1.f4) ((rd_T63 x45 x47).f1.f5) ((rd_T63 x45 x47).f1.f6)) else (none)) else (none))))) else (none)) else (none)) else ((relay_Relay.f k x0 x1 x188000 x188001 x188002 x188003 x188004 x188005 x188006 ([] : List S84)).bind fun t204 => ((fdb_New.f).bind fun t207 => ((relay_Relay.f k x0 x1 x188000 x188001 x188002 x188003 x188004 x188005 x188006 t207).bind fun t208 => (if (t204.length : Int) = (t208.length : Int) then (kissgatelaw19_RelayBounds.l2 k t204 t208 (t204.length : Int) 0) else (some false)))))
def kissgatelaw19_RelayBounds.j2 : Nat → List (S54) → Int → List (S64) → List (S63) → Int → Int → Bool → Int → Int → Bool → Int → Int → Int → ByteArray → Int → Int → Int → Bool → Int → Int → Int → ByteArray → Option (Bool)
  | 0, _, _, _, _, _, _, _, _, _, _, _, _, _, _, _, _, _, _, _, _, _, _ => none
  | k + 1, x0, x1, x9, x45, x46, x47, x76, x188000, x188001, x188002, x188003, x188004, x188005, x188006, x199000, x199001, x199002, x199003, x199004, x199005, x199006, x199007 => if x76 = true then (some false) else (if 0 ≤ x199000 then (if x199000 < (x9.length : Int) then (kissgatelaw19_RelayBounds.l1 k x0 x1 x9 x199000 false x45 x46 x47 ((rd_T64 x9 x199000).f3) (((rd_T64 x9 x199000).f3).length : Int) 0 x188000 x188001 x188002 x188003 x188004 x188005 x188006 x199000 x199001 x199002 x199003 x199004 x199005 x199006 x199007) else (none)) else (none))
def kissgatelaw19_RelayBounds.l1 : Nat → List (S54) → Int → List (S64) → Int → Bool → List (S63) → Int → Int → List Int → Int → Int → Int → Int → Bool → Int → Int → Int → ByteArray → Int → Int → Int → Bool → Int → Int → Int → ByteArray → Option (Bool)
  | 0, _, _, _, _, _, _, _, _, _, _, _, _, _, _, _, _, _, _, _, _, _, _, _, _, _, _ => none
  | k + 1, x0, x1, x9, x11, x14, x45, x46, x47, x84, x85, x86, x188000, x188001, x188002, x188003, x188004, x188005, x188006, x199000, x199001, x199002, x199003, x199004, x199005, x199006, x199007 => if x86 < x85 then (if 0 ≤ x86 then (if x86 < (x84.length : Int) then (if x14 = true then (kissgatelaw19_RelayBounds.l1 k x0 x1 x9 x11 true x45 x46 x47 x84 x85 (wrap64 (x86 + 1)) x188000 x188001 x188002 x188003 x188004 x188005 x188006 x199000 x199001 x199002 x199003 x199004 x199005 x199006 x199007) else (if 0 ≤ x1 then (if x1 < (x9.length : Int) then ((kissgateref19_Class.f k ((rd_T64 x9 x1).f0) ((rd_T64 x9 x1).f1) ((rd_T64 x9 x1).f2) ((rd_T64 x9 x1).f3) x188000 x188001 x188002 x188003 x188004 x188005 x188006).bind fun t203 => (kissgatelaw19_RelayBounds.l1 k x0 x1 x9 x11 ((rd x84 x86) == t203) x45 x46 x47 x84 x85 (wrap64 (x86 + 1)) x188000 x188001 x188002 x188003 x188004 x188005 x188006 x199000 x199001 x199002 x199003 x199004 x199005 x199006 x199007)) else (none)) else (none))) else (none)) else (none)) else (if x14 = true then (if x199007.toList = x188006.toList then (if x199001 = x188000 then (if x199002 = x188001 then (kissgatelaw19_RelayBounds.l0 k x0 x1 x9 x11 x45 x46 (wrap64 (x47 + 1)) x188000 x188001 x188002 x188003 x188004 x188005 x188006) else (some false)) else (some false)) else (some false)) else (some false))
def kissgatelaw19_RelayBounds.l2 : Nat → List (S63) → List (S63) → Int → Int → Option (Bool)
  | 0, _, _, _, _ => none
  | k + 1, x17, x18, x144, x145 => if x145 < x144 then (if 0 ≤ x145 then (if x145 < (x17.length : Int) then (if x145 < (x18.length : Int) then (if (!(((rd_T63 x17 x145).f0) == ((rd_T63 x18 x145).f0)) || ((!(((rd_T63 x17 x145).f1.f0) == ((rd_T63 x18 x145).f1.f0)) || (!(((rd_T63 x17 x145).f1.f1) == ((rd_T63 x18 x145).f1.f1)) || (!(((rd_T63 x17 x145).f1.f2) == ((rd_T63 x18 x145).f1.f2)) || (!(((rd_T63 x17 x145).f1.f3) == ((rd_T63 x18 x145).f1.f3)) || (!(((rd_T63 x17 x145).f1.f4) == ((rd_T63 x18 x145).f1.f4)) || (!(((rd_T63 x17 x145).f1.f5) == ((rd_T63 x18 x145).f1.f5)) || (!((((rd_T63 x17 x145).f1.f6).toList) == (((rd_T63 x18 x145).f1.f6).toList))))))))))) = true then (some false) else (kissgatelaw19_RelayBounds.l2 k x17 x18 x144 (wrap64 (x145 + 1)))) else (none)) else (none)) else (none)) else (some true)
end
def kissgatelaw19_RelayBounds.f (k : Nat) (l0 : List (S54)) (a1 : Int) (a2_0 : Int) (a2_1 : Int) (a2_2 : Bool) (a2_3 : Int) (a2_4 : Int) (a2_5 : Int) (a2_6 : ByteArray) (l3 : List (S84)) : Option (Bool) := (kissgatelaw19_alive.f k).bind fun t188 => (if t188 = true then ((kissgatelaw19_plain.f k l0).bind fun bt189 => (if bt189.2 = true then (if (l3.length : Int) > 40 then (kissgatelaw19_RelayBounds.j0 k l0 a1 l3 bt189.1 true a2_0 a2_1 a2_2 a2_3 a2_4 a2_5 a2_6) else (kissgatelaw19_RelayBounds.j0 k l0 a1 l3 bt189.1 (decide ((a2_6.size : Int) > 1000)) a2_0 a2_1 a2_2 a2_3 a2_4 a2_5 a2_6)) else (kissgatelaw19_RelayBounds.j0 k l0 a1 l3 bt189.1 true a2_0 a2_1 a2_2 a2_3 a2_4 a2_5 a2_6))) else (some false))
def kissgatelaw19_RelayBounds.T7 : Bool × List (List Nat × List Nat) := (true, [([], []), ([], []), ([], []), ([], []), ([3], [3]), ([0, 1, 2, 4, 4], [0, 1, 2, 4]), ([5], [5]), ([], [])])
def kissgatelaw19_RelayBounds.B7 : List Nat := [0, 0, 0, 0, 8, 31, 63, 0]
theorem kissgatelaw19_RelayBounds.tab7 : rtab .any (opsOf Try.f10 7) = kissgatelaw19_RelayBounds.T7 := by kernel_rfl
theorem kissgatelaw19_RelayBounds.bits7 : waitsOk kissgatelaw19_RelayBounds.T7.2 kissgatelaw19_RelayBounds.B7 = true := by kernel_rfl
def kissgatelaw19_RelayBounds.T17 : Bool × List (List Nat × List Nat) := (true, [([], []), ([0], [0]), ([1], [1]), ([1], [1]), ([1], [1]), ([3, 4, 1], [1, 3, 4]), ([5, 1], [1, 5]), ([1], [1]), ([6, 7, 1, 1], [1, 6, 7]), ([2, 8, 1], [1, 2, 8]), ([1, 9], [1, 9]), ([10, 8, 0, 1, 2, 3, 4, 5, 6, 7, 8, 9, 10], [0, 10])])
def kissgatelaw19_RelayBounds.B17 : List Nat := [0, 1, 3, 3, 3, 27, 59, 3, 251, 511, 1023, 2047]
theorem kissgatelaw19_RelayBounds.tab17 : rtab .any (opsOf Try.f10 17) = kissgatelaw19_RelayBounds.T17 := by kernel_rfl
theorem kissgatelaw19_RelayBounds.bits17 : waitsOk kissgatelaw19_RelayBounds.T17.2 kissgatelaw19_RelayBounds.B17 = true := by kernel_rfl
def kissgatelaw19_RelayBounds.T22 : Bool × List (List Nat × List Nat) := (true, [([], []), ([], []), ([], []), ([0, 1, 2], [0, 1, 2]), ([], []), ([], []), ([], []), ([3], []), ([4, 5, 6, 7, 7], [4, 5, 6, 7]), ([3, 8, 0, 1, 2, 3], [3]), ([8, 9, 0, 1, 2, 3, 4, 5, 6, 7, 8, 9], [8])])
def kissgatelaw19_RelayBounds.B22 : List Nat := [0, 0, 0, 7, 0, 0, 0, 15, 255, 511, 1023]
theorem kissgatelaw19_RelayBounds.tab22 : rtab .any (opsOf Try.f10 22) = kissgatelaw19_RelayBounds.T22 := by kernel_rfl
theorem kissgatelaw19_RelayBounds.bits22 : waitsOk kissgatelaw19_RelayBounds.T22.2 kissgatelaw19_RelayBounds.B22 = true := by kernel_rfl
def kissgatelaw19_RelayBounds.T28 : Bool × List (List Nat × List Nat) := (true, [([], []), ([], []), ([0, 1], [0, 1]), ([2], [2]), ([], []), ([], []), ([4, 5], [4, 5]), ([6], [6]), ([3, 7], [3, 7])])
def kissgatelaw19_RelayBounds.B28 : List Nat := [0, 0, 3, 7, 0, 0, 48, 112, 255]
theorem kissgatelaw19_RelayBounds.tab28 : rtab .any (opsOf Try.f10 28) = kissgatelaw19_RelayBounds.T28 := by kernel_rfl
theorem kissgatelaw19_RelayBounds.bits28 : waitsOk kissgatelaw19_RelayBounds.T28.2 kissgatelaw19_RelayBounds.B28 = true := by kernel_rfl
set_option maxHeartbeats 8000000 in
set_option maxRecDepth 100000 in
theorem kissgatelaw19_RelayBounds.calls (k : Nat) (A0 : Option Addr) (c0 : Nat) (l0 : List (S54)) (a1 : Int) (a2_0 : Int) (a2_1 : Int) (a2_2 : Bool) (a2_3 : Int) (a2_4 : Int) (a2_5 : Int) (a2_6 : ByteArray) (A3 : Option Addr) (c3 : Nat) (l3 : List (S84)) (r : Bool) (hT : r = true) (w : World) (hr0 : Kd.C k54 w A0 l0.length l0) (hc0 : l0.length ≤ c0) (hr3 : Kd.C k84 w A3 l3.length l3) (hc3 : l3.length ≤ c3) (h : kissgatelaw19_RelayBounds.f k l0 a1 a2_0 a2_1 a2_2 a2_3 a2_4 a2_5 a2_6 l3 = some r) :
    Calls Try.prog 10 #[.slice A0 l0.length c0, .int .i64 a1, .agg #[.int .i64 a2_0, .int .i64 a2_1, .bool a2_2, .int .i64 a2_3, .int .i64 a2_4, .int .i64 a2_5, .string a2_6], .slice A3 l3.length c3] w fun e w' => e = .returned (.bool r) ∧ Below w.heap.size w w' := by
  have HRT := Aside0.mk hT
  clear hT
  have hu49 := Try.underlying49
  have hu63 := Try.underlying63
  have hu64 := Try.underlying64
  have HR0 := Aside0.mk hr0
  have HC0 := Aside0.mk hc0
  clear hr0 hc0
  have HR3 := Aside0.mk hr3
  have HC3 := Aside0.mk hc3
  clear hr3 hc3
  have HB := Aside0.mk (Below.refl w.heap.size w)
  have H : ((kissgatelaw19_alive.f k).bind fun t188 => (if t188 = true then ((kissgatelaw19_plain.f k l0).bind fun bt189 => (if bt189.2 = true then (if (l3.length : Int) > 40 then (kissgatelaw19_RelayBounds.j0 k l0 a1 l3 bt189.1 true a2_0 a2_1 a2_2 a2_3 a2_4 a2_5 a2_6) else (kissgatelaw19_RelayBounds.j0 k l0 a1 l3 bt189.1 (decide ((a2_6.size : Int) > 1000)) a2_0 a2_1 a2_2 a2_3 a2_4 a2_5 a2_6)) else (kissgatelaw19_RelayBounds.j0 k l0 a1 l3 bt189.1 true a2_0 a2_1 a2_2 a2_3 a2_4 a2_5 a2_6))) else (some false))) = some r := h
  clear h
  replace H := Option.bind_eq_some_iff.mp H
  obtain ⟨t188, A50, H⟩ := H
  replace H : (if t188 = true then ((kissgatelaw19_plain.f k l0).bind fun bt189 => (if bt189.2 = true then (if (l3.length : Int) > 40 then (kissgatelaw19_RelayBounds.j0 k l0 a1 l3 bt189.1 true a2_0 a2_1 a2_2 a2_3 a2_4 a2_5 a2_6) else (kissgatelaw19_RelayBounds.j0 k l0 a1 l3 bt189.1 (decide ((a2_6.size : Int) > 1000)) a2_0 a2_1 a2_2 a2_3 a2_4 a2_5 a2_6)) else (kissgatelaw19_RelayBounds.j0 k l0 a1 l3 bt189.1 true a2_0 a2_1 a2_2 a2_3 a2_4 a2_5 a2_6))) else (some false)) = some r := H
  have A5 := Aside0.mk A50
  clear A50
  by_cases c6 : t188 = true
  · subst c6
    have H1 : ((kissgatelaw19_plain.f k l0).bind fun bt189 => (if bt189.2 = true then (if (l3.length : Int) > 40 then (kissgatelaw19_RelayBounds.j0 k l0 a1 l3 bt189.1 true a2_0 a2_1 a2_2 a2_3 a2_4 a2_5 a2_6) else (kissgatelaw19_RelayBounds.j0 k l0 a1 l3 bt189.1 (decide ((a2_6.size : Int) > 1000)) a2_0 a2_1 a2_2 a2_3 a2_4 a2_5 a2_6)) else (kissgatelaw19_RelayBounds.j0 k l0 a1 l3 bt189.1 true a2_0 a2_1 a2_2 a2_3 a2_4 a2_5 a2_6))) = some r := by rw [if_pos rfl] at H; exact H
    clear H
    have H := H1
    clear H1
    replace H := Option.bind_eq_some_iff.mp H
    obtain ⟨⟨t189, t192⟩, A70, H⟩ := H
    replace H : (if t192 = true then (if (l3.length : Int) > 40 then (kissgatelaw19_RelayBounds.j0 k l0 a1 l3 t189 true a2_0 a2_1 a2_2 a2_3 a2_4 a2_5 a2_6) else (kissgatelaw19_RelayBounds.j0 k l0 a1 l3 t189 (decide ((a2_6.size : Int) > 1000)) a2_0 a2_1 a2_2 a2_3 a2_4 a2_5 a2_6)) else (kissgatelaw19_RelayBounds.j0 k l0 a1 l3 t189 true a2_0 a2_1 a2_2 a2_3 a2_4 a2_5 a2_6)) = some r := H
    have A7 := Aside0.mk A70
    clear A70
    have HC8 := Aside0.mk H
    clear H
    go_enter Try.func10, Try.ntmps10
    go_upto_region 4 with (first | ((with_reducible refine gate_dst (N := 6) rfl ?_); (try (refine gate_guard (by rfl) ?_; dsimp only)); refine box_event ?hg (N := 6) ?hd (cs := #[.int .i64 a2_0, .int .i64 a2_1, .bool a2_2, .int .i64 a2_3, .int .i64 a2_4, .int .i64 a2_5, .string a2_6]) (t := 49) ?hr ?_; (case hd => rfl); (case hg => rfl); (case hr => first | (go_simp; done) | (go_simp; rfl)); intro gb187 hg w9 hbox hb; have n0_ := Aside0.mk (below_step (by repeat (first | (with_reducible first | exact HB.out | apply below_alloc | apply pw_below_drewN | apply below_drew1) | exact HB.out)) hb); have n1_ := Aside0.mk (hbox); have n2_ := Aside0.mk ((by rw [hg]; exact (below_size (by repeat (first | (with_reducible first | exact HB.out | apply below_alloc | apply pw_below_drewN | apply below_drew1) | exact HB.out))) : w.heap.size ≤ gb187)); have n3_ := Aside0.mk ((by rw [hg]; exact (below_size (by repeat (first | (with_reducible first | exact HB.out | apply below_alloc | apply pw_below_drewN | apply below_drew1) | exact HB.out))) : w.heap.size ≤ gb187)); clear HB; have HB := n0_; have BK187 := n1_; have GW187 := n2_; have GE187 := n3_; clear n0_ n1_ n2_ n3_; clear hb hbox hg) | ((with_reducible refine gate_callee (f := 25) rfl ?_); refine goesL_ (some 20) rfl rfl Try.func25 (by kernel_rfl) rfl #[] rfl (by (try simp only [List.map_toArray, List.map_cons, List.map_nil]); first | done | rfl | (simp only [List.length_drop, List.length_take]; rfl)) ?_; (with_reducible refine (kissgatelaw19_alive.calls k  true _ A5.out).mono ?_); rintro e w10 ⟨rfl, hb⟩; refine ⟨_, rfl, ?_⟩; have n0_ := Aside0.mk (blk_below (g := gb187) (o := .cells #[.int .i64 a2_0, .int .i64 a2_1, .bool a2_2, .int .i64 a2_3, .int .i64 a2_4, .int .i64 a2_5, .string a2_6] 49 (0, 0)) (by (with_reducible repeat (first | refine blk_drewN ?_ _ | refine blk_drew ?_ | refine blk_alloc ?_ _)); exact BK187.out) hb); have n1_ := Aside0.mk (below_step (by repeat (first | (with_reducible first | exact HB.out | apply below_alloc | apply pw_below_drewN | apply below_drew1 | refine below_set ?_ GE187.out) | exact HB.out)) hb); clear BK187; clear HB; have BK187 := n0_; have HB := n1_; clear n0_ n1_; (try clear hb); (try clear hb2); (try clear hk); (try clear hi)) | ((with_reducible refine gate_callee (f := 26) rfl ?_); refine goesL_ (some 24) rfl rfl Try.func26 (by kernel_rfl) rfl #[.slice A0 l0.length c0] rfl (by (try simp only [List.map_toArray, List.map_cons, List.map_nil]); first | done | rfl | (simp only [List.length_drop, List.length_take]; rfl)) ?_; (with_reducible refine (kissgatelaw19_plain.calls k (fun k_ => k_ < w.heap.size) _ _ l0 t189 t192 _ ?side1 A7.out).mono ?_); (case side1 => exact Kd.V_mk HC0.out (Kd.F_below (Kd.C_F k54_heap HR0.out) (by repeat (first | (with_reducible first | exact HB.out | apply below_alloc | apply pw_below_drewN | apply below_drew1 | refine below_set ?_ GE187.out) | exact HB.out)))); rintro e w11 ⟨v190, rfl, ho0, hb⟩; refine ⟨_, rfl, ?_⟩; have n0_ := Aside0.mk (Kd.N_lower (Kd.N_mono (ok' := fun k_ => k_ ≠ gb187) ho0 (fun k_ hk_ => Or.elim hk_ (fun hs_ => fun e_ => Nat.not_le.2 hs_ (by rw [e_]; exact GW187.out)) (fun hn_ => (Kd.freshB (g := gb187) (o := .cells #[.int .i64 a2_0, .int .i64 a2_1, .bool a2_2, .int .i64 a2_3, .int .i64 a2_4, .int .i64 a2_5, .string a2_6] 49 (0, 0)) (by (with_reducible repeat (first | refine blk_drewN ?_ _ | refine blk_drew ?_ | refine blk_alloc ?_ _)); exact BK187.out) k_ hn_)))) (below_size (by repeat (first | (with_reducible first | exact HB.out | apply below_alloc | apply pw_below_drewN | apply below_drew1 | refine below_set ?_ GE187.out) | exact HB.out)))); have n1_ := Aside0.mk (blk_below (g := gb187) (o := .cells #[.int .i64 a2_0, .int .i64 a2_1, .bool a2_2, .int .i64 a2_3, .int .i64 a2_4, .int .i64 a2_5, .string a2_6] 49 (0, 0)) (by (with_reducible repeat (first | refine blk_drewN ?_ _ | refine blk_drew ?_ | refine blk_alloc ?_ _)); exact BK187.out) hb); have n2_ := Aside0.mk (below_step (by repeat (first | (with_reducible first | exact HB.out | apply below_alloc | apply pw_below_drewN | apply below_drew1 | refine below_set ?_ GE187.out) | exact HB.out)) hb); clear BK187; clear HB; have HO191 := n0_; have BK187 := n1_; have HB := n2_; clear n0_ n1_ n2_; (try clear hb); (try clear hb2); (try clear hk); (try clear hi); (try clear ho0)))
    (try simp only [Act.put, List.setIfInBounds_toArray, List.set_cons_zero, List.set_cons_succ])
    go_cut [39] (fun v39 wc => ∃ (kq : Nat) (x39_7 : Bool), v39 = .bool x39_7 ∧ Aside0 (kissgatelaw19_RelayBounds.j0 kq l0 a1 l3 t189 x39_7 a2_0 a2_1 a2_2 a2_3 a2_4 a2_5 a2_6 = some r) ∧ Aside0 (kq ≤ k) ∧ Aside0 (Kd.N k64 64 wc w.heap.size (fun k_ => k_ ≠ gb187) v190 t189) ∧ Aside0 (wc.heap[gb187]? = some (.cells #[.int .i64 a2_0, .int .i64 a2_1, .bool a2_2, .int .i64 a2_3, .int .i64 a2_4, .int .i64 a2_5, .string a2_6] 49 (0, 0))) ∧ Aside0 (Below w.heap.size w wc))
    case first =>
      have H := HC8.out
      clear HC8
      by_cases c12 : t192 = true
      · subst c12
        have H1 : (if (l3.length : Int) > 40 then (kissgatelaw19_RelayBounds.j0 k l0 a1 l3 t189 true a2_0 a2_1 a2_2 a2_3 a2_4 a2_5 a2_6) else (kissgatelaw19_RelayBounds.j0 k l0 a1 l3 t189 (decide ((a2_6.size : Int) > 1000)) a2_0 a2_1 a2_2 a2_3 a2_4 a2_5 a2_6)) = some r := by rw [if_pos rfl] at H; exact H
        clear H
        have H := H1
        clear H1
        by_cases c13 : (l3.length : Int) > 40
        · rw [if_pos c13] at H
          have c13b0 : decide (40 < (l3.length : Int)) = true := decide_eq_true c13
          have c13b1 : decide (40 < l3.length) = true := decide_eq_true (by omega)
          clear c13
          (first | rw [c13b0] | (simp only [i64_w, i32_w]; rw [c13b0]) | skip)
          have H' := Aside0.mk H
          clear H
          go_wp2
          go_meet
          case rel => exact ⟨_, (true), (by first | rfl | (simp; done) | (simp [*]; done)), H', ⟨by first | omega | exact Nat.le_refl _⟩, ⟨by (with_reducible repeat (first | apply Kd.N_alloc | apply Kd.N_drewN | apply Kd.N_drew)); exact HO191.out⟩, ⟨by (with_reducible repeat (first | refine blk_drewN ?_ _ | refine blk_drew ?_ | refine blk_alloc ?_ _)); exact BK187.out⟩, ⟨by repeat (first | (with_reducible first | exact HB.out | apply below_alloc | apply pw_below_drewN | apply below_drew1 | refine below_set ?_ GE187.out) | exact HB.out)⟩⟩
        · rw [if_neg c13] at H
          have c13b0 : decide (40 < (l3.length : Int)) = false := decide_eq_false c13
          have c13b1 : decide (40 < l3.length) = false := decide_eq_false (by omega)
          clear c13
          (first | rw [c13b0] | (simp only [i64_w, i32_w]; rw [c13b0]) | skip)
          have H' := Aside0.mk H
          clear H
          have hcz14_0 : w11.cell? ⟨gb187, 0, none⟩ = some (.int .i64 a2_0) := (blk_cell BK187.out 0).trans rfl
          have hcz14_1 : w11.cell? ⟨gb187, 1, none⟩ = some (.int .i64 a2_1) := (blk_cell BK187.out 1).trans rfl
          have hcz14_2 : w11.cell? ⟨gb187, 2, none⟩ = some (.bool a2_2) := (blk_cell BK187.out 2).trans rfl
          have hcz14_3 : w11.cell? ⟨gb187, 3, none⟩ = some (.int .i64 a2_3) := (blk_cell BK187.out 3).trans rfl
          have hcz14_4 : w11.cell? ⟨gb187, 4, none⟩ = some (.int .i64 a2_4) := (blk_cell BK187.out 4).trans rfl
          have hcz14_5 : w11.cell? ⟨gb187, 5, none⟩ = some (.int .i64 a2_5) := (blk_cell BK187.out 5).trans rfl
          have hcz14_6 : w11.cell? ⟨gb187, 6, none⟩ = some (.string a2_6) := (blk_cell BK187.out 6).trans rfl
          have hfz14_0 := blk_frozen BK187.out 0
          have hfz14_1 := blk_frozen BK187.out 1
          have hfz14_2 := blk_frozen BK187.out 2
          have hfz14_3 := blk_frozen BK187.out 3
          have hfz14_4 := blk_frozen BK187.out 4
          have hfz14_5 := blk_frozen BK187.out 5
          have hfz14_6 := blk_frozen BK187.out 6
          go_wp2
          go_meet
          case rel => exact ⟨_, (decide ((a2_6.size : Int) > 1000)), (by first | rfl | (simp; done) | (simp [*]; done)), H', ⟨by first | omega | exact Nat.le_refl _⟩, ⟨by (with_reducible repeat (first | apply Kd.N_alloc | apply Kd.N_drewN | apply Kd.N_drew)); exact HO191.out⟩, ⟨by (with_reducible repeat (first | refine blk_drewN ?_ _ | refine blk_drew ?_ | refine blk_alloc ?_ _)); exact BK187.out⟩, ⟨by repeat (first | (with_reducible first | exact HB.out | apply below_alloc | apply pw_below_drewN | apply below_drew1 | refine below_set ?_ GE187.out) | exact HB.out)⟩⟩
      · replace c12 := Bool.eq_false_iff.mpr c12
        subst c12
        have H1 : (kissgatelaw19_RelayBounds.j0 k l0 a1 l3 t189 true a2_0 a2_1 a2_2 a2_3 a2_4 a2_5 a2_6) = some r := by rw [if_neg (show ¬ (false = true) by decide)] at H; exact H
        clear H
        have H := H1
        clear H1
        have H' := Aside0.mk H
        clear H
        go_wp2
        go_meet
        case rel => exact ⟨_, (true), (by first | rfl | (simp; done) | (simp [*]; done)), H', ⟨by first | omega | exact Nat.le_refl _⟩, ⟨by (with_reducible repeat (first | apply Kd.N_alloc | apply Kd.N_drewN | apply Kd.N_drew)); exact HO191.out⟩, ⟨by (with_reducible repeat (first | refine blk_drewN ?_ _ | refine blk_drew ?_ | refine blk_alloc ?_ _)); exact BK187.out⟩, ⟨by repeat (first | (with_reducible first | exact HB.out | apply below_alloc | apply pw_below_drewN | apply below_drew1 | refine below_set ?_ GE187.out) | exact HB.out)⟩⟩
    case rest =>
      clear HC8
      try clear c1
      try clear c2
      try clear p2
      try clear c3
      try clear c6
      try clear c10
      try clear c12
      try clear c13
      try clear c13b0
      try clear c13b1
      try clear hcz14_0
      try clear hcz14_1
      try clear hcz14_2
      try clear hcz14_3
      try clear hcz14_4
      try clear hcz14_5
      try clear hcz14_6
      try clear hfz14_0
      try clear hfz14_1
      try clear hfz14_2
      try clear hfz14_3
      try clear hfz14_4
      try clear hfz14_5
      try clear hfz14_6
      obtain ⟨kq, x39_7, rfl, HA, HJ7, HO_9, BK187, HB⟩ := hcut
      cases kq with
      | zero => exact absurd HA.out (by simp [kissgatelaw19_RelayBounds.j0])
      | succ kj7 =>
        have H := HA.out
        clear HA
        simp only [kissgatelaw19_RelayBounds.j0] at H
        by_cases c15 : x39_7 = true
        · subst c15
          have H1 : (some true) = some r := by rw [if_pos rfl] at H; exact H
          clear H
          have H := H1
          clear H1
          obtain rfl := Option.some.inj H
          go_wp2
          go_ret
          exact ⟨by first | rfl | (simp [errW_none, errW_some] <;> rfl) | (simp [*, errW_none, errW_some] <;> rfl), by repeat (first | (with_reducible first | exact HB.out | apply below_alloc | apply pw_below_drewN | apply below_drew1 | refine below_set ?_ GE187.out) | exact HB.out)⟩
        · replace c15 := Bool.eq_false_iff.mpr c15
          subst c15
          have H1 : ((kissgatelaw19_table.f l3).bind fun t193 => ((relay_Relay.f kj7 l0 a1 a2_0 a2_1 a2_2 a2_3 a2_4 a2_5 a2_6 t193).bind fun t194 => (kissgatelaw19_RelayBounds.l0 kj7 l0 a1 t189 (-1) t194 (t194.length : Int) 0 a2_0 a2_1 a2_2 a2_3 a2_4 a2_5 a2_6))) = some r := by rw [if_neg (show ¬ (false = true) by decide)] at H; exact H
          clear H
          have H := H1
          clear H1
          replace H := Option.bind_eq_some_iff.mp H
          obtain ⟨t193, A160, H⟩ := H
          replace H : ((relay_Relay.f kj7 l0 a1 a2_0 a2_1 a2_2 a2_3 a2_4 a2_5 a2_6 t193).bind fun t194 => (kissgatelaw19_RelayBounds.l0 kj7 l0 a1 t189 (-1) t194 (t194.length : Int) 0 a2_0 a2_1 a2_2 a2_3 a2_4 a2_5 a2_6)) = some r := H
          have A16 := Aside0.mk A160
          clear A160
          replace H := Option.bind_eq_some_iff.mp H
          obtain ⟨t194, A170, H⟩ := H
          replace H : (kissgatelaw19_RelayBounds.l0 kj7 l0 a1 t189 (-1) t194 (t194.length : Int) 0 a2_0 a2_1 a2_2 a2_3 a2_4 a2_5 a2_6) = some r := H
          have A17 := Aside0.mk A170
          clear A170
          have H' := Aside0.mk H
          clear H
          try go_wp2
          have n0_ := Aside0.mk (Kd.N_drew HO_9.out)
          have n1_ := Aside0.mk (blk_drew BK187.out)
          have n2_ := Aside0.mk (below_drew1 HB.out)
          clear HO_9
          clear BK187
          clear HB
          have HO_9 := n0_
          have BK187 := n1_
          have HB := n2_
          clear n0_ n1_ n2_
          refine start_ (n := 8) (S := fun w' => w'.cell? ⟨gb187, 0, none⟩ = some (.int .i64 a2_0) ∧ w'.cell? ⟨gb187, 1, none⟩ = some (.int .i64 a2_1) ∧ w'.cell? ⟨gb187, 2, none⟩ = some (.bool a2_2) ∧ w'.cell? ⟨gb187, 3, none⟩ = some (.int .i64 a2_3) ∧ w'.cell? ⟨gb187, 4, none⟩ = some (.int .i64 a2_4) ∧ w'.cell? ⟨gb187, 5, none⟩ = some (.int .i64 a2_5) ∧ w'.cell? ⟨gb187, 6, none⟩ = some (.string a2_6)) (ds := []) #[false, false, false, false, false, false, false, false] (by kernel_rfl) rfl rfl ⟨(blk_cell BK187.out 0).trans rfl, (blk_cell BK187.out 1).trans rfl, (blk_cell BK187.out 2).trans rfl, (blk_cell BK187.out 3).trans rfl, (blk_cell BK187.out 4).trans rfl, (blk_cell BK187.out 5).trans rfl, (blk_cell BK187.out 6).trans rfl⟩ (fun hHeld => ?_); refine with_tabW kissgatelaw19_RelayBounds.tab7 kissgatelaw19_RelayBounds.bits7 (fun HT_ HW_ => ?_)
          generalize wc.drew = w18 at HO_9 BK187 HB hHeld ⊢
          refine pure_ (i := 0) (N := some 40) (v := ?_) (a' := ?_) #[true, false, false, false, false, false, false, false] rfl rfl (any_of HT_.out (by kernel_rfl)) (fun _ _ _ h => h) (Or.inl ⟨by rfl, ?_⟩) ?_ ?_
          rotate_left
          · intro w'
            go_simp
            with_reducible rfl
          rotate_left
          · simp only [Act.put, List.setIfInBounds_toArray, List.set_cons_zero, List.set_cons_succ, i64_w, i32_w]
            rfl
          refine pure_ (i := 1) (N := some 41) (v := ?_) (a' := ?_) #[true, true, false, false, false, false, false, false] rfl rfl (any_of HT_.out (by kernel_rfl)) (fun _ _ _ h => h) (Or.inl ⟨by rfl, ?_⟩) ?_ ?_
          rotate_left
          · intro w'
            go_simp
            with_reducible rfl
          rotate_left
          · simp only [Act.put, List.setIfInBounds_toArray, List.set_cons_zero, List.set_cons_succ, i64_w, i32_w]
            rfl
          refine pure_ (i := 3) (N := some 43) (v := ?_) (a' := ?_) #[true, true, false, true, false, false, false, false] rfl rfl (any_of HT_.out (by kernel_rfl)) (fun _ _ _ h => h) (Or.inl ⟨by rfl, ?_⟩) ?_ ?_
          rotate_left
          · intro w'
            go_simp
            with_reducible rfl
          rotate_left
          · simp only [Act.put, List.setIfInBounds_toArray, List.set_cons_zero, List.set_cons_succ, i64_w, i32_w]
            rfl
          refine pure_ (i := 7) (N := some 47) (v := ?_) (a' := ?_) #[true, true, false, true, false, false, false, true] rfl rfl (any_of HT_.out (by kernel_rfl)) (fun _ _ _ h => h) (Or.inl ⟨by rfl, ?_⟩) ?_ ?_
          rotate_left
          · intro w'
            go_simp
            with_reducible rfl
          rotate_left
          · simp only [Act.put, List.setIfInBounds_toArray, List.set_cons_zero, List.set_cons_succ, i64_w, i32_w]
            rfl
          refine take_ (i := 2) (N := some 42) (v := ?_) (a' := ?_) #[true, true, true, true, false, false, false, true] rfl rfl (take_ofW HT_.out HW_.out (by kernel_rfl)) (fun _ _ _ h => h) (Or.inl ⟨by rfl, ?_⟩) hHeld ?_ ?_
          rotate_left
          · rintro w' ⟨s0, s1, s2, s3, s4, s5, s6⟩
            go_simp
            with_reducible rfl
          rotate_left
          · simp only [Act.put, List.setIfInBounds_toArray, List.set_cons_zero, List.set_cons_succ, i64_w, i32_w]
            rfl
          refine one_ (i := 4) (N := some 44) #[true, true, true, true, true, false, false, true] rfl rfl (one_of HT_.out (by kernel_rfl)) (by decide) (fun K hK => ?_)
          refine goes_ Try.func29 (by kernel_rfl) rfl #[.slice A3 l3.length c3] (by rfl) rfl rfl (by (try simp only [List.map_toArray, List.map_cons, List.map_nil]); first | done | rfl | (simp only [List.length_drop, List.length_take]; rfl)) ?_
          with_reducible refine (kissgatelaw19_table.calls _ _ l3 t193 _ ?side1 ?side2 A16.out).mono ?_
          (case side1 => repeat (first | exact (Kd.C_below HR3.out HB.out) | (with_reducible refine Kd.C_alloc ?_ _) | (with_reducible refine Kd.C_drewN ?_ _) | (with_reducible refine Kd.C_drew ?_)))
          (case side2 => exact HC3.out)
          rintro e w19 ⟨vt193, rfl, ht193, hb⟩
          have Ht193 := Aside0.mk ht193
          clear ht193
          refine ⟨_, rfl, ?_⟩
          have n0_ := Aside0.mk (Kd.N_below (by (with_reducible repeat (first | apply Kd.N_alloc | apply Kd.N_drewN | apply Kd.N_drew)); exact HO_9.out) hb)
          have n1_ := Aside0.mk (blk_below (g := gb187) (o := .cells #[.int .i64 a2_0, .int .i64 a2_1, .bool a2_2, .int .i64 a2_3, .int .i64 a2_4, .int .i64 a2_5, .string a2_6] 49 (0, 0)) (by (with_reducible repeat (first | refine blk_drewN ?_ _ | refine blk_drew ?_ | refine blk_alloc ?_ _)); exact BK187.out) hb)
          have n2_ := Aside0.mk (below_step (by repeat (first | (with_reducible first | exact HB.out | apply below_alloc | apply pw_below_drewN | apply below_drew1 | refine below_set ?_ GE187.out) | exact HB.out)) hb)
          clear HO_9
          clear BK187
          clear HB
          have HO_9 := n0_
          have BK187 := n1_
          have HB := n2_
          clear n0_ n1_ n2_
          (try clear hb)
          (try clear hb2)
          (try clear hk)
          (try clear hi)
          refine hK.out _ _ ⟨(blk_cell BK187.out 0).trans rfl, (blk_cell BK187.out 1).trans rfl, (blk_cell BK187.out 2).trans rfl, (blk_cell BK187.out 3).trans rfl, (blk_cell BK187.out 4).trans rfl, (blk_cell BK187.out 5).trans rfl, (blk_cell BK187.out 6).trans rfl⟩ (fun hHeld => ?_)
          clear hK K
          refine norm_ (a' := ?_) ?_ ?_
          rotate_left
          · show Act.put _ (some 44) _ = _
            simp only [Act.put, List.setIfInBounds_toArray, List.set_cons_zero, List.set_cons_succ, i64_w, i32_w]
            rfl
          refine one_ (i := 5) (N := some 45) #[true, true, true, true, true, true, false, true] rfl rfl (one_of HT_.out (by kernel_rfl)) (by decide) (fun K hK => ?_)
          refine goes_ Try.func27 (by kernel_rfl) rfl #[.slice A0 l0.length c0, .int .i64 a1, .agg #[.int .i64 a2_0, .int .i64 a2_1, .bool a2_2, .int .i64 a2_3, .int .i64 a2_4, .int .i64 a2_5, .string a2_6], vt193] (by rfl) rfl rfl (by (try simp only [List.map_toArray, List.map_cons, List.map_nil]); first | done | rfl | (simp only [List.length_drop, List.length_take]; rfl)) ?_
          with_reducible refine (relay_Relay.calls kj7 _ _ l0 a1 a2_0 a2_1 a2_2 a2_3 a2_4 a2_5 a2_6 _ t193 t194 _ ?side1 ?side2 ?side3 A17.out).mono ?_
          (case side1 => repeat (first | exact (Kd.C_below HR0.out HB.out) | (with_reducible refine Kd.C_alloc ?_ _) | (with_reducible refine Kd.C_drewN ?_ _) | (with_reducible refine Kd.C_drew ?_)))
          (case side2 => exact HC0.out)
          (case side3 => repeat (first | exact Ht193.out | exact TabC.below Ht193.out (by assumption) | (with_reducible refine TabC.alloc ?_ _) | (with_reducible refine TabC.drewN ?_ _) | (with_reducible refine TabC.drew ?_)))
          rintro e w20 ⟨v195, rfl, ho0, hb⟩
          refine ⟨_, rfl, ?_⟩
          have n0_ := Aside0.mk (Kd.N_elder' (by (with_reducible repeat (first | apply Kd.N_alloc | apply Kd.N_drewN | apply Kd.N_drew)); exact HO_9.out) (Kd.R_base ho0) hb)
          have n1_ := Aside0.mk (Kd.R_lower ho0 (below_size (by repeat (first | (with_reducible first | exact HB.out | apply below_alloc | apply pw_below_drewN | apply below_drew1 | refine below_set ?_ GE187.out) | exact HB.out))))
          have n2_ := Aside0.mk (blk_below (g := gb187) (o := .cells #[.int .i64 a2_0, .int .i64 a2_1, .bool a2_2, .int .i64 a2_3, .int .i64 a2_4, .int .i64 a2_5, .string a2_6] 49 (0, 0)) (by (with_reducible repeat (first | refine blk_drewN ?_ _ | refine blk_drew ?_ | refine blk_alloc ?_ _)); exact BK187.out) hb)
          have n3_ := Aside0.mk (below_step (by repeat (first | (with_reducible first | exact HB.out | apply below_alloc | apply pw_below_drewN | apply below_drew1 | refine below_set ?_ GE187.out) | exact HB.out)) hb)
          clear HO_9
          clear BK187
          clear HB
          have HO_9 := n0_
          have HO196 := n1_
          have BK187 := n2_
          have HB := n3_
          clear n0_ n1_ n2_ n3_
          (try clear hb)
          (try clear hb2)
          (try clear hk)
          (try clear hi)
          (try clear ho0)
          obtain ⟨Ao21, co21, eo21⟩ := Kd.R_slice HO196.out
          (first | subst eo21 | (injection eo21 with f1_ f2_ f3_; have f4_ := f1_.symm; have f5_ := f3_.symm; clear f1_ f2_ f3_; subst f4_; subst f5_))
          refine hK.out _ _ ⟨(blk_cell BK187.out 0).trans rfl, (blk_cell BK187.out 1).trans rfl, (blk_cell BK187.out 2).trans rfl, (blk_cell BK187.out 3).trans rfl, (blk_cell BK187.out 4).trans rfl, (blk_cell BK187.out 5).trans rfl, (blk_cell BK187.out 6).trans rfl⟩ (fun hHeld => ?_)
          clear hK K
          refine norm_ (a' := ?_) ?_ ?_
          rotate_left
          · show Act.put _ (some 45) _ = _
            simp only [Act.put, List.setIfInBounds_toArray, List.set_cons_zero, List.set_cons_succ, i64_w, i32_w]
            rfl
          refine pure_ (i := 6) (N := some 46) (v := ?_) (a' := ?_) #[true, true, true, true, true, true, true, true] rfl rfl (any_of HT_.out (by kernel_rfl)) (fun _ _ _ h => h) (Or.inl ⟨by rfl, ?_⟩) ?_ ?_
          rotate_left
          · intro w'
            go_simp
            with_reducible rfl
          rotate_left
          · simp only [Act.put, List.setIfInBounds_toArray, List.set_cons_zero, List.set_cons_succ, i64_w, i32_w]
            rfl
          refine done_ (done_of HT_.out (by kernel_rfl)) ?_
          try go_wp2
          go_loopg [11, 47] kj7 (fun kq v11 v47 w' => ∃ (x11_2 : Int) (x47_2 : Int), v11 = .int .i64 x11_2 ∧ v47 = .int .i64 x47_2 ∧ Aside0 (kissgatelaw19_RelayBounds.l0 kq l0 a1 t189 x11_2 t194 (t194.length : Int) x47_2 a2_0 a2_1 a2_2 a2_3 a2_4 a2_5 a2_6 = some r) ∧ Aside0 (kq ≤ kj7) ∧ Aside0 (Kd.N k64 64 w' w.heap.size (fun k_ => some k_ ≠ ((.slice Ao21 t194.length co21) : Value).ownBlock ∧ k_ ≠ gb187) v190 t189) ∧ Aside0 (Kd.R k63 63 w' w.heap.size (fun _ => True) (.slice Ao21 t194.length co21) t194) ∧ Aside0 (w'.heap[gb187]? = some (.cells #[.int .i64 a2_0, .int .i64 a2_1, .bool a2_2, .int .i64 a2_3, .int .i64 a2_4, .int .i64 a2_5, .string a2_6] 49 (0, 0))) ∧ Aside0 (Below w.heap.size w w'))
          case atStart => exact ⟨((-1)), (0), (by first | rfl | (simp; done) | (simp [*]; done)), (by first | rfl | (simp; done) | (simp [*]; done)), H', ⟨Nat.le_refl _⟩, ⟨by (with_reducible repeat (first | apply Kd.N_alloc | apply Kd.N_drewN | apply Kd.N_drew)); exact Kd.N_mono HO_9.out (fun _ hk => ⟨hk.2, hk.1⟩)⟩, ⟨by (with_reducible repeat (first | apply Kd.R_alloc | apply Kd.R_drewN | apply Kd.R_drew)); exact HO196.out⟩, ⟨by (with_reducible repeat (first | refine blk_drewN ?_ _ | refine blk_drew ?_ | refine blk_alloc ?_ _)); exact BK187.out⟩, ⟨by repeat (first | (with_reducible first | exact HB.out | apply below_alloc | apply pw_below_drewN | apply below_drew1 | refine below_set ?_ GE187.out) | exact HB.out)⟩⟩
          case round =>
            clear H'
            try clear c1
            try clear c2
            try clear p2
            try clear c3
            try clear c6
            try clear c10
            try clear c12
            try clear c13
            try clear c13b0
            try clear c13b1
            try clear c15
            try clear hcz14_0
            try clear hcz14_1
            try clear hcz14_2
            try clear hcz14_3
            try clear hcz14_4
            try clear hcz14_5
            try clear hcz14_6
            try clear hfz14_0
            try clear hfz14_1
            try clear hfz14_2
            try clear hfz14_3
            try clear hfz14_4
            try clear hfz14_5
            try clear hfz14_6
            try clear p2
            obtain ⟨x11_2, x47_2, rfl, rfl, HA, HK2, HO_9, HO_45, BK187, HB⟩ := hrel
            cases gk with
            | zero => exact absurd HA.out (by simp [kissgatelaw19_RelayBounds.l0])
            | succ k2 =>
              have H := HA.out
              clear HA
              simp only [kissgatelaw19_RelayBounds.l0] at H
              by_cases c22 : x47_2 < (t194.length : Int)
              · rw [if_pos c22] at H
                have c22b0 : decide (x47_2 < (t194.length : Int)) = true := decide_eq_true c22
                clear c22
                by_cases c23 : 0 ≤ x47_2
                · rw [if_pos c23] at H
                  have c23b0 : decide (0 ≤ x47_2) = true := decide_eq_true c23
                  clear c23
                  by_cases c24 : x47_2 < (t194.length : Int)
                  · rw [if_pos c24] at H
                    have c24b0 : decide (x47_2 < (t194.length : Int)) = true := decide_eq_true c24
                    clear c24
                    have HC25 := Aside0.mk H
                    clear H
                    have p197 : 0 ≤ (x47_2 : Int) := of_decide_eq_true (by first | (with_reducible assumption) | assumption)
                    have q197 : x47_2 < (t194.length : Int) := of_decide_eq_true (by first | (with_reducible assumption) | assumption)
                    obtain ⟨ad197, e197, hx197_0, hx197_1, hx197_2, hx197_3, hx197_4, hx197_5, hx197_6, hx197_7⟩ := at_T63 (Kd.R_reads' HO_45.out).2.2 x47_2 p197 q197
                    cases e197
                    replace p197 := eq_true p197
                    replace q197 := eq_true q197
                    go_upto_region 10 with (first | ((with_reducible refine gate_dst (N := 13) rfl ?_); (try (refine gate_guard (by rfl) ?_; dsimp only)); refine box_event ?hg (N := 13) ?hd (cs := #[.int .i64 0, .int .i64 0, .int .i64 0, .bool false, .int .i64 0, .int .i64 0, .int .i64 0, .string (⟨#[]⟩ : ByteArray)]) (t := 63) ?hr ?_; (case hd => rfl); (case hg => rfl); (case hr => first | (go_simp; done) | (go_simp; rfl)); intro gb198 hg w26 hbox hb; have n0_ := Aside0.mk (Kd.N_below (Kd.N_elderB (by (with_reducible repeat (first | apply Kd.N_alloc | apply Kd.N_drewN | apply Kd.N_drew)); exact HO_9.out) gb198 (Nat.le_of_eq hg.symm)) hb); have n1_ := Aside0.mk (Kd.R_below (Kd.R_elderB (by (with_reducible repeat (first | apply Kd.R_alloc | apply Kd.R_drewN | apply Kd.R_drew)); exact HO_45.out) gb198 (Nat.le_of_eq hg.symm)) hb); have n2_ := Aside0.mk (blk_below (g := gb187) (o := .cells #[.int .i64 a2_0, .int .i64 a2_1, .bool a2_2, .int .i64 a2_3, .int .i64 a2_4, .int .i64 a2_5, .string a2_6] 49 (0, 0)) (by (with_reducible repeat (first | refine blk_drewN ?_ _ | refine blk_drew ?_ | refine blk_alloc ?_ _)); exact BK187.out) hb); have n3_ := Aside0.mk (below_step (by repeat (first | (with_reducible first | exact HB.out | apply below_alloc | apply pw_below_drewN | apply below_drew1 | refine below_set ?_ GE187.out) | exact HB.out)) hb); have n4_ := Aside0.mk (hbox); have n5_ := Aside0.mk ((by rw [hg]; exact (below_size (by repeat (first | (with_reducible first | exact HB.out | apply below_alloc | apply pw_below_drewN | apply below_drew1 | refine below_set ?_ GE187.out) | exact HB.out))) : w.heap.size ≤ gb198)); have n6_ := Aside0.mk ((by rw [hg]; exact (below_size (by repeat (first | (with_reducible first | exact HB.out | apply below_alloc | apply pw_below_drewN | apply below_drew1 | refine below_set ?_ GE187.out) | exact HB.out))) : w.heap.size ≤ gb198)); have n7_ := Aside0.mk ((by rw [hg]; exact Nat.ne_of_lt (blk_lt (g := gb187) (o := .cells #[.int .i64 a2_0, .int .i64 a2_1, .bool a2_2, .int .i64 a2_3, .int .i64 a2_4, .int .i64 a2_5, .string a2_6] 49 (0, 0)) (by (with_reducible repeat (first | refine blk_drewN ?_ _ | refine blk_drew ?_ | refine blk_alloc ?_ _)); exact BK187.out)) : gb187 ≠ gb198)); have n8_ := Aside0.mk ((by rw [hg]; exact Nat.ne_of_gt (blk_lt (g := gb187) (o := .cells #[.int .i64 a2_0, .int .i64 a2_1, .bool a2_2, .int .i64 a2_3, .int .i64 a2_4, .int .i64 a2_5, .string a2_6] 49 (0, 0)) (by (with_reducible repeat (first | refine blk_drewN ?_ _ | refine blk_drew ?_ | refine blk_alloc ?_ _)); exact BK187.out)) : gb198 ≠ gb187)); clear HO_9; clear HO_45; clear BK187; clear HB; have HO_9 := n0_; have HO_45 := n1_; have BK187 := n2_; have HB := n3_; have BK198 := n4_; have GW198 := n5_; have GE198 := n6_; have NB187_198 := n7_; have NB198_187 := n8_; clear n0_ n1_ n2_ n3_ n4_ n5_ n6_ n7_ n8_; clear hb hbox hg; have hnb27 := NB198_187.out; have hnc27 := NB187_198.out; have hcz28_0 : w26.cell? ⟨gb198, 0, none⟩ = some (.int .i64 0) := (blk_cell BK198.out 0).trans rfl; have hcz28_1 : w26.cell? ⟨gb198, 1, none⟩ = some (.int .i64 0) := (blk_cell BK198.out 1).trans rfl; have hcz28_2 : w26.cell? ⟨gb198, 2, none⟩ = some (.int .i64 0) := (blk_cell BK198.out 2).trans rfl; have hcz28_3 : w26.cell? ⟨gb198, 3, none⟩ = some (.bool false) := (blk_cell BK198.out 3).trans rfl; have hcz28_4 : w26.cell? ⟨gb198, 4, none⟩ = some (.int .i64 0) := (blk_cell BK198.out 4).trans rfl; have hcz28_5 : w26.cell? ⟨gb198, 5, none⟩ = some (.int .i64 0) := (blk_cell BK198.out 5).trans rfl; have hcz28_6 : w26.cell? ⟨gb198, 6, none⟩ = some (.int .i64 0) := (blk_cell BK198.out 6).trans rfl; have hcz28_7 : w26.cell? ⟨gb198, 7, none⟩ = some (.string (⟨#[]⟩ : ByteArray)) := (blk_cell BK198.out 7).trans rfl; have hfz28_0 := blk_frozen BK198.out 0; have hfz28_1 := blk_frozen BK198.out 1; have hfz28_2 := blk_frozen BK198.out 2; have hfz28_3 := blk_frozen BK198.out 3; have hfz28_4 := blk_frozen BK198.out 4; have hfz28_5 := blk_frozen BK198.out 5; have hfz28_6 := blk_frozen BK198.out 6; have hfz28_7 := blk_frozen BK198.out 7))
                    (try simp only [Act.put, List.setIfInBounds_toArray, List.set_cons_zero, List.set_cons_succ])
                    go_cut [76] (fun v76 wc => ∃ (kq : Nat) (x76_24 : Bool), v76 = .bool x76_24 ∧ Aside0 (kissgatelaw19_RelayBounds.j2 kq l0 a1 t189 t194 (t194.length : Int) x47_2 x76_24 a2_0 a2_1 a2_2 a2_3 a2_4 a2_5 a2_6 ((rd_T63 t194 x47_2).f0) ((rd_T63 t194 x47_2).f1.f0) ((rd_T63 t194 x47_2).f1.f1) ((rd_T63 t194 x47_2).f1.f2) ((rd_T63 t194 x47_2).f1.f3) ((rd_T63 t194 x47_2).f1.f4) ((rd_T63 t194 x47_2).f1.f5) ((rd_T63 t194 x47_2).f1.f6) = some r) ∧ Aside0 (kq ≤ k2) ∧ Aside0 (Kd.N k64 64 wc w.heap.size (fun k_ => some k_ ≠ ((.slice (some ad197) t194.length co21) : Value).ownBlock ∧ k_ ≠ gb187 ∧ k_ ≠ gb198) v190 t189) ∧ Aside0 (Kd.R k63 63 wc w.heap.size (fun k_ => k_ ≠ gb198) (.slice (some ad197) t194.length co21) t194) ∧ Aside0 (wc.heap[gb187]? = some (.cells #[.int .i64 a2_0, .int .i64 a2_1, .bool a2_2, .int .i64 a2_3, .int .i64 a2_4, .int .i64 a2_5, .string a2_6] 49 (0, 0))) ∧ Aside0 (wc.heap[gb198]? = some (.cells #[.int .i64 ((rd_T63 t194 x47_2).f0), .int .i64 ((rd_T63 t194 x47_2).f1.f0), .int .i64 ((rd_T63 t194 x47_2).f1.f1), .bool ((rd_T63 t194 x47_2).f1.f2), .int .i64 ((rd_T63 t194 x47_2).f1.f3), .int .i64 ((rd_T63 t194 x47_2).f1.f4), .int .i64 ((rd_T63 t194 x47_2).f1.f5), .string ((rd_T63 t194 x47_2).f1.f6)] 63 (0, 0))) ∧ Aside0 (Below w.heap.size w wc))
                    case first =>
                      have H := HC25.out
                      clear HC25
                      by_cases c29 : ((rd_T63 t194 x47_2).f0) ≤ x11_2
                      · rw [if_pos c29] at H
                        have c29b0 : decide (((rd_T63 t194 x47_2).f0) ≤ x11_2) = true := decide_eq_true c29
                        clear c29
                        (first | rw [c29b0] | (simp only [i64_w, i32_w]; rw [c29b0]) | skip)
                        have H' := Aside0.mk H
                        clear H
                        have hnb30 := NB198_187.out
                        have hnc30 := NB187_198.out
                        have hcz31_0 : w26.cell? ⟨gb198, 0, none⟩ = some (.int .i64 0) := (blk_cell BK198.out 0).trans rfl
                        have hcz31_1 : w26.cell? ⟨gb198, 1, none⟩ = some (.int .i64 0) := (blk_cell BK198.out 1).trans rfl
                        have hcz31_2 : w26.cell? ⟨gb198, 2, none⟩ = some (.int .i64 0) := (blk_cell BK198.out 2).trans rfl
                        have hcz31_3 : w26.cell? ⟨gb198, 3, none⟩ = some (.bool false) := (blk_cell BK198.out 3).trans rfl
                        have hcz31_4 : w26.cell? ⟨gb198, 4, none⟩ = some (.int .i64 0) := (blk_cell BK198.out 4).trans rfl
                        have hcz31_5 : w26.cell? ⟨gb198, 5, none⟩ = some (.int .i64 0) := (blk_cell BK198.out 5).trans rfl
                        have hcz31_6 : w26.cell? ⟨gb198, 6, none⟩ = some (.int .i64 0) := (blk_cell BK198.out 6).trans rfl
                        have hcz31_7 : w26.cell? ⟨gb198, 7, none⟩ = some (.string (⟨#[]⟩ : ByteArray)) := (blk_cell BK198.out 7).trans rfl
                        have hfz31_0 := blk_frozen BK198.out 0
                        have hfz31_1 := blk_frozen BK198.out 1
                        have hfz31_2 := blk_frozen BK198.out 2
                        have hfz31_3 := blk_frozen BK198.out 3
                        have hfz31_4 := blk_frozen BK198.out 4
                        have hfz31_5 := blk_frozen BK198.out 5
                        have hfz31_6 := blk_frozen BK198.out 6
                        have hfz31_7 := blk_frozen BK198.out 7
                        go_wp2
                        go_meet
                        case rel => exact ⟨_, (true), (by first | rfl | (simp; done) | (simp [*]; done)), H', ⟨by have := HJ7.out; have := HK2.out; first | omega | exact Nat.le_refl _⟩, ⟨by (with_reducible repeat (first | apply Kd.N_alloc | apply Kd.N_drewN | apply Kd.N_drew)); exact Kd.N_mono (Kd.N_far (p := ⟨gb198, 7, none⟩) (Kd.N_far (p := ⟨gb198, 6, none⟩) (Kd.N_far (p := ⟨gb198, 5, none⟩) (Kd.N_far (p := ⟨gb198, 4, none⟩) (Kd.N_far (p := ⟨gb198, 3, none⟩) (Kd.N_far (p := ⟨gb198, 2, none⟩) (Kd.N_far (p := ⟨gb198, 1, none⟩) (Kd.N_far (p := ⟨gb198, 0, none⟩) (Kd.N_mono HO_9.out (fun k_ hk => (⟨hk, hk.2⟩ : _ ∧ k_ ≠ gb198))) (fun _ hk => hk.2) (.int .i64 ((rd_T63 t194 x47_2).f0))) (fun _ hk => hk.2) (.int .i64 ((rd_T63 t194 x47_2).f1.f0))) (fun _ hk => hk.2) (.int .i64 ((rd_T63 t194 x47_2).f1.f1))) (fun _ hk => hk.2) (.bool ((rd_T63 t194 x47_2).f1.f2))) (fun _ hk => hk.2) (.int .i64 ((rd_T63 t194 x47_2).f1.f3))) (fun _ hk => hk.2) (.int .i64 ((rd_T63 t194 x47_2).f1.f4))) (fun _ hk => hk.2) (.int .i64 ((rd_T63 t194 x47_2).f1.f5))) (fun _ hk => hk.2) (.string ((rd_T63 t194 x47_2).f1.f6))) (fun _ hk => ⟨hk.1.1.1, ⟨hk.1.1.2, hk.1.2⟩⟩)⟩, ⟨by (with_reducible repeat (first | apply Kd.R_alloc | apply Kd.R_drewN | apply Kd.R_drew)); exact Kd.R_mono (Kd.R_far (p := ⟨gb198, 7, none⟩) (Kd.R_far (p := ⟨gb198, 6, none⟩) (Kd.R_far (p := ⟨gb198, 5, none⟩) (Kd.R_far (p := ⟨gb198, 4, none⟩) (Kd.R_far (p := ⟨gb198, 3, none⟩) (Kd.R_far (p := ⟨gb198, 2, none⟩) (Kd.R_far (p := ⟨gb198, 1, none⟩) (Kd.R_far (p := ⟨gb198, 0, none⟩) (Kd.R_mono HO_45.out (fun k_ hk => (⟨hk, hk.2⟩ : _ ∧ k_ ≠ gb198))) (fun _ hk => hk.2) (.int .i64 ((rd_T63 t194 x47_2).f0))) (fun _ hk => hk.2) (.int .i64 ((rd_T63 t194 x47_2).f1.f0))) (fun _ hk => hk.2) (.int .i64 ((rd_T63 t194 x47_2).f1.f1))) (fun _ hk => hk.2) (.bool ((rd_T63 t194 x47_2).f1.f2))) (fun _ hk => hk.2) (.int .i64 ((rd_T63 t194 x47_2).f1.f3))) (fun _ hk => hk.2) (.int .i64 ((rd_T63 t194 x47_2).f1.f4))) (fun _ hk => hk.2) (.int .i64 ((rd_T63 t194 x47_2).f1.f5))) (fun _ hk => hk.2) (.string ((rd_T63 t194 x47_2).f1.f6))) (fun _ hk => hk.1.2)⟩, ⟨by (with_reducible repeat (first | refine blk_drewN ?_ _ | refine blk_drew ?_ | refine blk_alloc ?_ _)); refine blk_far ?_ NB187_198.out _; (with_reducible repeat (first | refine blk_drewN ?_ _ | refine blk_drew ?_ | refine blk_alloc ?_ _)); refine blk_far ?_ NB187_198.out _; (with_reducible repeat (first | refine blk_drewN ?_ _ | refine blk_drew ?_ | refine blk_alloc ?_ _)); refine blk_far ?_ NB187_198.out _; (with_reducible repeat (first | refine blk_drewN ?_ _ | refine blk_drew ?_ | refine blk_alloc ?_ _)); refine blk_far ?_ NB187_198.out _; (with_reducible repeat (first | refine blk_drewN ?_ _ | refine blk_drew ?_ | refine blk_alloc ?_ _)); refine blk_far ?_ NB187_198.out _; (with_reducible repeat (first | refine blk_drewN ?_ _ | refine blk_drew ?_ | refine blk_alloc ?_ _)); refine blk_far ?_ NB187_198.out _; (with_reducible repeat (first | refine blk_drewN ?_ _ | refine blk_drew ?_ | refine blk_alloc ?_ _)); refine blk_far ?_ NB187_198.out _; (with_reducible repeat (first | refine blk_drewN ?_ _ | refine blk_drew ?_ | refine blk_alloc ?_ _)); refine blk_far ?_ NB187_198.out _; (with_reducible repeat (first | refine blk_drewN ?_ _ | refine blk_drew ?_ | refine blk_alloc ?_ _)); exact BK187.out⟩, ⟨by (with_reducible repeat (first | refine blk_drewN ?_ _ | refine blk_drew ?_ | refine blk_alloc ?_ _)); refine blk_put (cs := #[.int .i64 ((rd_T63 t194 x47_2).f0), .int .i64 ((rd_T63 t194 x47_2).f1.f0), .int .i64 ((rd_T63 t194 x47_2).f1.f1), .bool ((rd_T63 t194 x47_2).f1.f2), .int .i64 ((rd_T63 t194 x47_2).f1.f3), .int .i64 ((rd_T63 t194 x47_2).f1.f4), .int .i64 ((rd_T63 t194 x47_2).f1.f5), .string (⟨#[]⟩ : ByteArray)]) ?_ 7 _ rfl; (with_reducible repeat (first | refine blk_drewN ?_ _ | refine blk_drew ?_ | refine blk_alloc ?_ _)); refine blk_put (cs := #[.int .i64 ((rd_T63 t194 x47_2).f0), .int .i64 ((rd_T63 t194 x47_2).f1.f0), .int .i64 ((rd_T63 t194 x47_2).f1.f1), .bool ((rd_T63 t194 x47_2).f1.f2), .int .i64 ((rd_T63 t194 x47_2).f1.f3), .int .i64 ((rd_T63 t194 x47_2).f1.f4), .int .i64 0, .string (⟨#[]⟩ : ByteArray)]) ?_ 6 _ rfl; (with_reducible repeat (first | refine blk_drewN ?_ _ | refine blk_drew ?_ | refine blk_alloc ?_ _)); refine blk_put (cs := #[.int .i64 ((rd_T63 t194 x47_2).f0), .int .i64 ((rd_T63 t194 x47_2).f1.f0), .int .i64 ((rd_T63 t194 x47_2).f1.f1), .bool ((rd_T63 t194 x47_2).f1.f2), .int .i64 ((rd_T63 t194 x47_2).f1.f3), .int .i64 0, .int .i64 0, .string (⟨#[]⟩ : ByteArray)]) ?_ 5 _ rfl; (with_reducible repeat (first | refine blk_drewN ?_ _ | refine blk_drew ?_ | refine blk_alloc ?_ _)); refine blk_put (cs := #[.int .i64 ((rd_T63 t194 x47_2).f0), .int .i64 ((rd_T63 t194 x47_2).f1.f0), .int .i64 ((rd_T63 t194 x47_2).f1.f1), .bool ((rd_T63 t194 x47_2).f1.f2), .int .i64 0, .int .i64 0, .int .i64 0, .string (⟨#[]⟩ : ByteArray)]) ?_ 4 _ rfl; (with_reducible repeat (first | refine blk_drewN ?_ _ | refine blk_drew ?_ | refine blk_alloc ?_ _)); refine blk_put (cs := #[.int .i64 ((rd_T63 t194 x47_2).f0), .int .i64 ((rd_T63 t194 x47_2).f1.f0), .int .i64 ((rd_T63 t194 x47_2).f1.f1), .bool false, .int .i64 0, .int .i64 0, .int .i64 0, .string (⟨#[]⟩ : ByteArray)]) ?_ 3 _ rfl; (with_reducible repeat (first | refine blk_drewN ?_ _ | refine blk_drew ?_ | refine blk_alloc ?_ _)); refine blk_put (cs := #[.int .i64 ((rd_T63 t194 x47_2).f0), .int .i64 ((rd_T63 t194 x47_2).f1.f0), .int .i64 0, .bool false, .int .i64 0, .int .i64 0, .int .i64 0, .string (⟨#[]⟩ : ByteArray)]) ?_ 2 _ rfl; (with_reducible repeat (first | refine blk_drewN ?_ _ | refine blk_drew ?_ | refine blk_alloc ?_ _)); refine blk_put (cs := #[.int .i64 ((rd_T63 t194 x47_2).f0), .int .i64 0, .int .i64 0, .bool false, .int .i64 0, .int .i64 0, .int .i64 0, .string (⟨#[]⟩ : ByteArray)]) ?_ 1 _ rfl; (with_reducible repeat (first | refine blk_drewN ?_ _ | refine blk_drew ?_ | refine blk_alloc ?_ _)); refine blk_put (cs := #[.int .i64 0, .int .i64 0, .int .i64 0, .bool false, .int .i64 0, .int .i64 0, .int .i64 0, .string (⟨#[]⟩ : ByteArray)]) ?_ 0 _ rfl; (with_reducible repeat (first | refine blk_drewN ?_ _ | refine blk_drew ?_ | refine blk_alloc ?_ _)); exact BK198.out⟩, ⟨by repeat (first | (with_reducible first | exact HB.out | apply below_alloc | apply pw_below_drewN | apply below_drew1 | refine below_set ?_ GE187.out | refine below_set ?_ GE198.out) | exact HB.out)⟩⟩
                      · rw [if_neg c29] at H
                        have c29b0 : decide (((rd_T63 t194 x47_2).f0) ≤ x11_2) = false := decide_eq_false c29
                        clear c29
                        (first | rw [c29b0] | (simp only [i64_w, i32_w]; rw [c29b0]) | skip)
                        by_cases c32 : ((rd_T63 t194 x47_2).f0) ≥ (t189.length : Int)
                        · rw [if_pos c32] at H
                          have c32b0 : decide ((t189.length : Int) ≤ ((rd_T63 t194 x47_2).f0)) = true := decide_eq_true c32
                          clear c32
                          have H' := Aside0.mk H
                          clear H
                          have hnb33 := NB198_187.out
                          have hnc33 := NB187_198.out
                          have hcz34_0 : w26.cell? ⟨gb198, 0, none⟩ = some (.int .i64 0) := (blk_cell BK198.out 0).trans rfl
                          have hcz34_1 : w26.cell? ⟨gb198, 1, none⟩ = some (.int .i64 0) := (blk_cell BK198.out 1).trans rfl
                          have hcz34_2 : w26.cell? ⟨gb198, 2, none⟩ = some (.int .i64 0) := (blk_cell BK198.out 2).trans rfl
                          have hcz34_3 : w26.cell? ⟨gb198, 3, none⟩ = some (.bool false) := (blk_cell BK198.out 3).trans rfl
                          have hcz34_4 : w26.cell? ⟨gb198, 4, none⟩ = some (.int .i64 0) := (blk_cell BK198.out 4).trans rfl
                          have hcz34_5 : w26.cell? ⟨gb198, 5, none⟩ = some (.int .i64 0) := (blk_cell BK198.out 5).trans rfl
                          have hcz34_6 : w26.cell? ⟨gb198, 6, none⟩ = some (.int .i64 0) := (blk_cell BK198.out 6).trans rfl
                          have hcz34_7 : w26.cell? ⟨gb198, 7, none⟩ = some (.string (⟨#[]⟩ : ByteArray)) := (blk_cell BK198.out 7).trans rfl
                          have hfz34_0 := blk_frozen BK198.out 0
                          have hfz34_1 := blk_frozen BK198.out 1
                          have hfz34_2 := blk_frozen BK198.out 2
                          have hfz34_3 := blk_frozen BK198.out 3
                          have hfz34_4 := blk_frozen BK198.out 4
                          have hfz34_5 := blk_frozen BK198.out 5
                          have hfz34_6 := blk_frozen BK198.out 6
                          have hfz34_7 := blk_frozen BK198.out 7
                          obtain ⟨Ao35, co35, eo35⟩ := Kd.N_slice HO_9.out
                          subst eo35
                          go_wp2
                          go_meet
                          case rel => exact ⟨_, (true), (by first | rfl | (simp; done) | (simp [*]; done)), H', ⟨by have := HJ7.out; have := HK2.out; first | omega | exact Nat.le_refl _⟩, ⟨by (with_reducible repeat (first | apply Kd.N_alloc | apply Kd.N_drewN | apply Kd.N_drew)); exact Kd.N_mono (Kd.N_far (p := ⟨gb198, 7, none⟩) (Kd.N_far (p := ⟨gb198, 6, none⟩) (Kd.N_far (p := ⟨gb198, 5, none⟩) (Kd.N_far (p := ⟨gb198, 4, none⟩) (Kd.N_far (p := ⟨gb198, 3, none⟩) (Kd.N_far (p := ⟨gb198, 2, none⟩) (Kd.N_far (p := ⟨gb198, 1, none⟩) (Kd.N_far (p := ⟨gb198, 0, none⟩) (Kd.N_mono HO_9.out (fun k_ hk => (⟨hk, hk.2⟩ : _ ∧ k_ ≠ gb198))) (fun _ hk => hk.2) (.int .i64 ((rd_T63 t194 x47_2).f0))) (fun _ hk => hk.2) (.int .i64 ((rd_T63 t194 x47_2).f1.f0))) (fun _ hk => hk.2) (.int .i64 ((rd_T63 t194 x47_2).f1.f1))) (fun _ hk => hk.2) (.bool ((rd_T63 t194 x47_2).f1.f2))) (fun _ hk => hk.2) (.int .i64 ((rd_T63 t194 x47_2).f1.f3))) (fun _ hk => hk.2) (.int .i64 ((rd_T63 t194 x47_2).f1.f4))) (fun _ hk => hk.2) (.int .i64 ((rd_T63 t194 x47_2).f1.f5))) (fun _ hk => hk.2) (.string ((rd_T63 t194 x47_2).f1.f6))) (fun _ hk => ⟨hk.1.1.1, ⟨hk.1.1.2, hk.1.2⟩⟩)⟩, ⟨by (with_reducible repeat (first | apply Kd.R_alloc | apply Kd.R_drewN | apply Kd.R_drew)); exact Kd.R_mono (Kd.R_far (p := ⟨gb198, 7, none⟩) (Kd.R_far (p := ⟨gb198, 6, none⟩) (Kd.R_far (p := ⟨gb198, 5, none⟩) (Kd.R_far (p := ⟨gb198, 4, none⟩) (Kd.R_far (p := ⟨gb198, 3, none⟩) (Kd.R_far (p := ⟨gb198, 2, none⟩) (Kd.R_far (p := ⟨gb198, 1, none⟩) (Kd.R_far (p := ⟨gb198, 0, none⟩) (Kd.R_mono HO_45.out (fun k_ hk => (⟨hk, hk.2⟩ : _ ∧ k_ ≠ gb198))) (fun _ hk => hk.2) (.int .i64 ((rd_T63 t194 x47_2).f0))) (fun _ hk => hk.2) (.int .i64 ((rd_T63 t194 x47_2).f1.f0))) (fun _ hk => hk.2) (.int .i64 ((rd_T63 t194 x47_2).f1.f1))) (fun _ hk => hk.2) (.bool ((rd_T63 t194 x47_2).f1.f2))) (fun _ hk => hk.2) (.int .i64 ((rd_T63 t194 x47_2).f1.f3))) (fun _ hk => hk.2) (.int .i64 ((rd_T63 t194 x47_2).f1.f4))) (fun _ hk => hk.2) (.int .i64 ((rd_T63 t194 x47_2).f1.f5))) (fun _ hk => hk.2) (.string ((rd_T63 t194 x47_2).f1.f6))) (fun _ hk => hk.1.2)⟩, ⟨by (with_reducible repeat (first | refine blk_drewN ?_ _ | refine blk_drew ?_ | refine blk_alloc ?_ _)); refine blk_far ?_ NB187_198.out _; (with_reducible repeat (first | refine blk_drewN ?_ _ | refine blk_drew ?_ | refine blk_alloc ?_ _)); refine blk_far ?_ NB187_198.out _; (with_reducible repeat (first | refine blk_drewN ?_ _ | refine blk_drew ?_ | refine blk_alloc ?_ _)); refine blk_far ?_ NB187_198.out _; (with_reducible repeat (first | refine blk_drewN ?_ _ | refine blk_drew ?_ | refine blk_alloc ?_ _)); refine blk_far ?_ NB187_198.out _; (with_reducible repeat (first | refine blk_drewN ?_ _ | refine blk_drew ?_ | refine blk_alloc ?_ _)); refine blk_far ?_ NB187_198.out _; (with_reducible repeat (first | refine blk_drewN ?_ _ | refine blk_drew ?_ | refine blk_alloc ?_ _)); refine blk_far ?_ NB187_198.out _; (with_reducible repeat (first | refine blk_drewN ?_ _ | refine blk_drew ?_ | refine blk_alloc ?_ _)); refine blk_far ?_ NB187_198.out _; (with_reducible repeat (first | refine blk_drewN ?_ _ | refine blk_drew ?_ | refine blk_alloc ?_ _)); refine blk_far ?_ NB187_198.out _; (with_reducible repeat (first | refine blk_drewN ?_ _ | refine blk_drew ?_ | refine blk_alloc ?_ _)); exact BK187.out⟩, ⟨by (with_reducible repeat (first | refine blk_drewN ?_ _ | refine blk_drew ?_ | refine blk_alloc ?_ _)); refine blk_put (cs := #[.int .i64 ((rd_T63 t194 x47_2).f0), .int .i64 ((rd_T63 t194 x47_2).f1.f0), .int .i64 ((rd_T63 t194 x47_2).f1.f1), .bool ((rd_T63 t194 x47_2).f1.f2), .int .i64 ((rd_T63 t194 x47_2).f1.f3), .int .i64 ((rd_T63 t194 x47_2).f1.f4), .int .i64 ((rd_T63 t194 x47_2).f1.f5), .string (⟨#[]⟩ : ByteArray)]) ?_ 7 _ rfl; (with_reducible repeat (first | refine blk_drewN ?_ _ | refine blk_drew ?_ | refine blk_alloc ?_ _)); refine blk_put (cs := #[.int .i64 ((rd_T63 t194 x47_2).f0), .int .i64 ((rd_T63 t194 x47_2).f1.f0), .int .i64 ((rd_T63 t194 x47_2).f1.f1), .bool ((rd_T63 t194 x47_2).f1.f2), .int .i64 ((rd_T63 t194 x47_2).f1.f3), .int .i64 ((rd_T63 t194 x47_2).f1.f4), .int .i64 0, .string (⟨#[]⟩ : ByteArray)]) ?_ 6 _ rfl; (with_reducible repeat (first | refine blk_drewN ?_ _ | refine blk_drew ?_ | refine blk_alloc ?_ _)); refine blk_put (cs := #[.int .i64 ((rd_T63 t194 x47_2).f0), .int .i64 ((rd_T63 t194 x47_2).f1.f0), .int .i64 ((rd_T63 t194 x47_2).f1.f1), .bool ((rd_T63 t194 x47_2).f1.f2), .int .i64 ((rd_T63 t194 x47_2).f1.f3), .int .i64 0, .int .i64 0, .string (⟨#[]⟩ : ByteArray)]) ?_ 5 _ rfl; (with_reducible repeat (first | refine blk_drewN ?_ _ | refine blk_drew ?_ | refine blk_alloc ?_ _)); refine blk_put (cs := #[.int .i64 ((rd_T63 t194 x47_2).f0), .int .i64 ((rd_T63 t194 x47_2).f1.f0), .int .i64 ((rd_T63 t194 x47_2).f1.f1), .bool ((rd_T63 t194 x47_2).f1.f2), .int .i64 0, .int .i64 0, .int .i64 0, .string (⟨#[]⟩ : ByteArray)]) ?_ 4 _ rfl; (with_reducible repeat (first | refine blk_drewN ?_ _ | refine blk_drew ?_ | refine blk_alloc ?_ _)); refine blk_put (cs := #[.int .i64 ((rd_T63 t194 x47_2).f0), .int .i64 ((rd_T63 t194 x47_2).f1.f0), .int .i64 ((rd_T63 t194 x47_2).f1.f1), .bool false, .int .i64 0, .int .i64 0, .int .i64 0, .string (⟨#[]⟩ : ByteArray)]) ?_ 3 _ rfl; (with_reducible repeat (first | refine blk_drewN ?_ _ | refine blk_drew ?_ | refine blk_alloc ?_ _)); refine blk_put (cs := #[.int .i64 ((rd_T63 t194 x47_2).f0), .int .i64 ((rd_T63 t194 x47_2).f1.f0), .int .i64 0, .bool false, .int .i64 0, .int .i64 0, .int .i64 0, .string (⟨#[]⟩ : ByteArray)]) ?_ 2 _ rfl; (with_reducible repeat (first | refine blk_drewN ?_ _ | refine blk_drew ?_ | refine blk_alloc ?_ _)); refine blk_put (cs := #[.int .i64 ((rd_T63 t194 x47_2).f0), .int .i64 0, .int .i64 0, .bool false, .int .i64 0, .int .i64 0, .int .i64 0, .string (⟨#[]⟩ : ByteArray)]) ?_ 1 _ rfl; (with_reducible repeat (first | refine blk_drewN ?_ _ | refine blk_drew ?_ | refine blk_alloc ?_ _)); refine blk_put (cs := #[.int .i64 0, .int .i64 0, .int .i64 0, .bool false, .int .i64 0, .int .i64 0, .int .i64 0, .string (⟨#[]⟩ : ByteArray)]) ?_ 0 _ rfl; (with_reducible repeat (first | refine blk_drewN ?_ _ | refine blk_drew ?_ | refine blk_alloc ?_ _)); exact BK198.out⟩, ⟨by repeat (first | (with_reducible first | exact HB.out | apply below_alloc | apply pw_below_drewN | apply below_drew1 | refine below_set ?_ GE187.out | refine below_set ?_ GE198.out) | exact HB.out)⟩⟩
                        · rw [if_neg c32] at H
                          have c32b0 : decide ((t189.length : Int) ≤ ((rd_T63 t194 x47_2).f0)) = false := decide_eq_false c32
                          clear c32
                          by_cases c36 : ((rd_T63 t194 x47_2).f0) = a1
                          · rw [if_pos c36] at H
                            have c36b0 : (((rd_T63 t194 x47_2).f0) == a1) = true := beq_iff_eq.mpr c36
                            have c36b1 : (((rd_T63 t194 x47_2).f0) != a1) = false := bne_eq_false_iff_eq.mpr c36
                            clear c36
                            have H' := Aside0.mk H
                            clear H
                            have hnb37 := NB198_187.out
                            have hnc37 := NB187_198.out
                            have hcz38_0 : w26.cell? ⟨gb198, 0, none⟩ = some (.int .i64 0) := (blk_cell BK198.out 0).trans rfl
                            have hcz38_1 : w26.cell? ⟨gb198, 1, none⟩ = some (.int .i64 0) := (blk_cell BK198.out 1).trans rfl
                            have hcz38_2 : w26.cell? ⟨gb198, 2, none⟩ = some (.int .i64 0) := (blk_cell BK198.out 2).trans rfl
                            have hcz38_3 : w26.cell? ⟨gb198, 3, none⟩ = some (.bool false) := (blk_cell BK198.out 3).trans rfl
                            have hcz38_4 : w26.cell? ⟨gb198, 4, none⟩ = some (.int .i64 0) := (blk_cell BK198.out 4).trans rfl
                            have hcz38_5 : w26.cell? ⟨gb198, 5, none⟩ = some (.int .i64 0) := (blk_cell BK198.out 5).trans rfl
                            have hcz38_6 : w26.cell? ⟨gb198, 6, none⟩ = some (.int .i64 0) := (blk_cell BK198.out 6).trans rfl
                            have hcz38_7 : w26.cell? ⟨gb198, 7, none⟩ = some (.string (⟨#[]⟩ : ByteArray)) := (blk_cell BK198.out 7).trans rfl
                            have hfz38_0 := blk_frozen BK198.out 0
                            have hfz38_1 := blk_frozen BK198.out 1
                            have hfz38_2 := blk_frozen BK198.out 2
                            have hfz38_3 := blk_frozen BK198.out 3
                            have hfz38_4 := blk_frozen BK198.out 4
                            have hfz38_5 := blk_frozen BK198.out 5
                            have hfz38_6 := blk_frozen BK198.out 6
                            have hfz38_7 := blk_frozen BK198.out 7
                            obtain ⟨Ao39, co39, eo39⟩ := Kd.N_slice HO_9.out
                            subst eo39
                            go_wp2
                            go_meet
                            case rel => exact ⟨_, (true), (by first | rfl | (simp; done) | (simp [*]; done)), H', ⟨by have := HJ7.out; have := HK2.out; first | omega | exact Nat.le_refl _⟩, ⟨by (with_reducible repeat (first | apply Kd.N_alloc | apply Kd.N_drewN | apply Kd.N_drew)); exact Kd.N_mono (Kd.N_far (p := ⟨gb198, 7, none⟩) (Kd.N_far (p := ⟨gb198, 6, none⟩) (Kd.N_far (p := ⟨gb198, 5, none⟩) (Kd.N_far (p := ⟨gb198, 4, none⟩) (Kd.N_far (p := ⟨gb198, 3, none⟩) (Kd.N_far (p := ⟨gb198, 2, none⟩) (Kd.N_far (p := ⟨gb198, 1, none⟩) (Kd.N_far (p := ⟨gb198, 0, none⟩) (Kd.N_mono HO_9.out (fun k_ hk => (⟨hk, hk.2⟩ : _ ∧ k_ ≠ gb198))) (fun _ hk => hk.2) (.int .i64 ((rd_T63 t194 x47_2).f0))) (fun _ hk => hk.2) (.int .i64 ((rd_T63 t194 x47_2).f1.f0))) (fun _ hk => hk.2) (.int .i64 ((rd_T63 t194 x47_2).f1.f1))) (fun _ hk => hk.2) (.bool ((rd_T63 t194 x47_2).f1.f2))) (fun _ hk => hk.2) (.int .i64 ((rd_T63 t194 x47_2).f1.f3))) (fun _ hk => hk.2) (.int .i64 ((rd_T63 t194 x47_2).f1.f4))) (fun _ hk => hk.2) (.int .i64 ((rd_T63 t194 x47_2).f1.f5))) (fun _ hk => hk.2) (.string ((rd_T63 t194 x47_2).f1.f6))) (fun _ hk => ⟨hk.1.1.1, ⟨hk.1.1.2, hk.1.2⟩⟩)⟩, ⟨by (with_reducible repeat (first | apply Kd.R_alloc | apply Kd.R_drewN | apply Kd.R_drew)); exact Kd.R_mono (Kd.R_far (p := ⟨gb198, 7, none⟩) (Kd.R_far (p := ⟨gb198, 6, none⟩) (Kd.R_far (p := ⟨gb198, 5, none⟩) (Kd.R_far (p := ⟨gb198, 4, none⟩) (Kd.R_far (p := ⟨gb198, 3, none⟩) (Kd.R_far (p := ⟨gb198, 2, none⟩) (Kd.R_far (p := ⟨gb198, 1, none⟩) (Kd.R_far (p := ⟨gb198, 0, none⟩) (Kd.R_mono HO_45.out (fun k_ hk => (⟨hk, hk.2⟩ : _ ∧ k_ ≠ gb198))) (fun _ hk => hk.2) (.int .i64 ((rd_T63 t194 x47_2).f0))) (fun _ hk => hk.2) (.int .i64 ((rd_T63 t194 x47_2).f1.f0))) (fun _ hk => hk.2) (.int .i64 ((rd_T63 t194 x47_2).f1.f1))) (fun _ hk => hk.2) (.bool ((rd_T63 t194 x47_2).f1.f2))) (fun _ hk => hk.2) (.int .i64 ((rd_T63 t194 x47_2).f1.f3))) (fun _ hk => hk.2) (.int .i64 ((rd_T63 t194 x47_2).f1.f4))) (fun _ hk => hk.2) (.int .i64 ((rd_T63 t194 x47_2).f1.f5))) (fun _ hk => hk.2) (.string ((rd_T63 t194 x47_2).f1.f6))) (fun _ hk => hk.1.2)⟩, ⟨by (with_reducible repeat (first | refine blk_drewN ?_ _ | refine blk_drew ?_ | refine blk_alloc ?_ _)); refine blk_far ?_ NB187_198.out _; (with_reducible repeat (first | refine blk_drewN ?_ _ | refine blk_drew ?_ | refine blk_alloc ?_ _)); refine blk_far ?_ NB187_198.out _; (with_reducible repeat (first | refine blk_drewN ?_ _ | refine blk_drew ?_ | refine blk_alloc ?_ _)); refine blk_far ?_ NB187_198.out _; (with_reducible repeat (first | refine blk_drewN ?_ _ | refine blk_drew ?_ | refine blk_alloc ?_ _)); refine blk_far ?_ NB187_198.out _; (with_reducible repeat (first | refine blk_drewN ?_ _ | refine blk_drew ?_ | refine blk_alloc ?_ _)); refine blk_far ?_ NB187_198.out _; (with_reducible repeat (first | refine blk_drewN ?_ _ | refine blk_drew ?_ | refine blk_alloc ?_ _)); refine blk_far ?_ NB187_198.out _; (with_reducible repeat (first | refine blk_drewN ?_ _ | refine blk_drew ?_ | refine blk_alloc ?_ _)); refine blk_far ?_ NB187_198.out _; (with_reducible repeat (first | refine blk_drewN ?_ _ | refine blk_drew ?_ | refine blk_alloc ?_ _)); refine blk_far ?_ NB187_198.out _; (with_reducible repeat (first | refine blk_drewN ?_ _ | refine blk_drew ?_ | refine blk_alloc ?_ _)); exact BK187.out⟩, ⟨by (with_reducible repeat (first | refine blk_drewN ?_ _ | refine blk_drew ?_ | refine blk_alloc ?_ _)); refine blk_put (cs := #[.int .i64 ((rd_T63 t194 x47_2).f0), .int .i64 ((rd_T63 t194 x47_2).f1.f0), .int .i64 ((rd_T63 t194 x47_2).f1.f1), .bool ((rd_T63 t194 x47_2).f1.f2), .int .i64 ((rd_T63 t194 x47_2).f1.f3), .int .i64 ((rd_T63 t194 x47_2).f1.f4), .int .i64 ((rd_T63 t194 x47_2).f1.f5), .string (⟨#[]⟩ : ByteArray)]) ?_ 7 _ rfl; (with_reducible repeat (first | refine blk_drewN ?_ _ | refine blk_drew ?_ | refine blk_alloc ?_ _)); refine blk_put (cs := #[.int .i64 ((rd_T63 t194 x47_2).f0), .int .i64 ((rd_T63 t194 x47_2).f1.f0), .int .i64 ((rd_T63 t194 x47_2).f1.f1), .bool ((rd_T63 t194 x47_2).f1.f2), .int .i64 ((rd_T63 t194 x47_2).f1.f3), .int .i64 ((rd_T63 t194 x47_2).f1.f4), .int .i64 0, .string (⟨#[]⟩ : ByteArray)]) ?_ 6 _ rfl; (with_reducible repeat (first | refine blk_drewN ?_ _ | refine blk_drew ?_ | refine blk_alloc ?_ _)); refine blk_put (cs := #[.int .i64 ((rd_T63 t194 x47_2).f0), .int .i64 ((rd_T63 t194 x47_2).f1.f0), .int .i64 ((rd_T63 t194 x47_2).f1.f1), .bool ((rd_T63 t194 x47_2).f1.f2), .int .i64 ((rd_T63 t194 x47_2).f1.f3), .int .i64 0, .int .i64 0, .string (⟨#[]⟩ : ByteArray)]) ?_ 5 _ rfl; (with_reducible repeat (first | refine blk_drewN ?_ _ | refine blk_drew ?_ | refine blk_alloc ?_ _)); refine blk_put (cs := #[.int .i64 ((rd_T63 t194 x47_2).f0), .int .i64 ((rd_T63 t194 x47_2).f1.f0), .int .i64 ((rd_T63 t194 x47_2).f1.f1), .bool ((rd_T63 t194 x47_2).f1.f2), .int .i64 0, .int .i64 0, .int .i64 0, .string (⟨#[]⟩ : ByteArray)]) ?_ 4 _ rfl; (with_reducible repeat (first | refine blk_drewN ?_ _ | refine blk_drew ?_ | refine blk_alloc ?_ _)); refine blk_put (cs := #[.int .i64 ((rd_T63 t194 x47_2).f0), .int .i64 ((rd_T63 t194 x47_2).f1.f0), .int .i64 ((rd_T63 t194 x47_2).f1.f1), .bool false, .int .i64 0, .int .i64 0, .int .i64 0, .string (⟨#[]⟩ : ByteArray)]) ?_ 3 _ rfl; (with_reducible repeat (first | refine blk_drewN ?_ _ | refine blk_drew ?_ | refine blk_alloc ?_ _)); refine blk_put (cs := #[.int .i64 ((rd_T63 t194 x47_2).f0), .int .i64 ((rd_T63 t194 x47_2).f1.f0), .int .i64 0, .bool false, .int .i64 0, .int .i64 0, .int .i64 0, .string (⟨#[]⟩ : ByteArray)]) ?_ 2 _ rfl; (with_reducible repeat (first | refine blk_drewN ?_ _ | refine blk_drew ?_ | refine blk_alloc ?_ _)); refine blk_put (cs := #[.int .i64 ((rd_T63 t194 x47_2).f0), .int .i64 0, .int .i64 0, .bool false, .int .i64 0, .int .i64 0, .int .i64 0, .string (⟨#[]⟩ : ByteArray)]) ?_ 1 _ rfl; (with_reducible repeat (first | refine blk_drewN ?_ _ | refine blk_drew ?_ | refine blk_alloc ?_ _)); refine blk_put (cs := #[.int .i64 0, .int .i64 0, .int .i64 0, .bool false, .int .i64 0, .int .i64 0, .int .i64 0, .string (⟨#[]⟩ : ByteArray)]) ?_ 0 _ rfl; (with_reducible repeat (first | refine blk_drewN ?_ _ | refine blk_drew ?_ | refine blk_alloc ?_ _)); exact BK198.out⟩, ⟨by repeat (first | (with_reducible first | exact HB.out | apply below_alloc | apply pw_below_drewN | apply below_drew1 | refine below_set ?_ GE187.out | refine below_set ?_ GE198.out) | exact HB.out)⟩⟩
                          · rw [if_neg c36] at H
                            have c36b0 : (((rd_T63 t194 x47_2).f0) == a1) = false := beq_eq_false_iff_ne.mpr c36
                            have c36b1 : (((rd_T63 t194 x47_2).f0) != a1) = true := bne_iff_ne.mpr c36
                            by_cases c40 : 0 ≤ ((rd_T63 t194 x47_2).f0)
                            · rw [if_pos c40] at H
                              have c40b0 : decide (0 ≤ ((rd_T63 t194 x47_2).f0)) = true := decide_eq_true c40
                              clear c40
                              by_cases c41 : ((rd_T63 t194 x47_2).f0) < (t189.length : Int)
                              · rw [if_pos c41] at H
                                have c41b0 : decide (((rd_T63 t194 x47_2).f0) < (t189.length : Int)) = true := decide_eq_true c41
                                clear c41
                                have H' := Aside0.mk H
                                clear H
                                have hnb42 := NB198_187.out
                                have hnc42 := NB187_198.out
                                have hcz43_0 : w26.cell? ⟨gb198, 0, none⟩ = some (.int .i64 0) := (blk_cell BK198.out 0).trans rfl
                                have hcz43_1 : w26.cell? ⟨gb198, 1, none⟩ = some (.int .i64 0) := (blk_cell BK198.out 1).trans rfl
                                have hcz43_2 : w26.cell? ⟨gb198, 2, none⟩ = some (.int .i64 0) := (blk_cell BK198.out 2).trans rfl
                                have hcz43_3 : w26.cell? ⟨gb198, 3, none⟩ = some (.bool false) := (blk_cell BK198.out 3).trans rfl
                                have hcz43_4 : w26.cell? ⟨gb198, 4, none⟩ = some (.int .i64 0) := (blk_cell BK198.out 4).trans rfl
                                have hcz43_5 : w26.cell? ⟨gb198, 5, none⟩ = some (.int .i64 0) := (blk_cell BK198.out 5).trans rfl
                                have hcz43_6 : w26.cell? ⟨gb198, 6, none⟩ = some (.int .i64 0) := (blk_cell BK198.out 6).trans rfl
                                have hcz43_7 : w26.cell? ⟨gb198, 7, none⟩ = some (.string (⟨#[]⟩ : ByteArray)) := (blk_cell BK198.out 7).trans rfl
                                have hfz43_0 := blk_frozen BK198.out 0
                                have hfz43_1 := blk_frozen BK198.out 1
                                have hfz43_2 := blk_frozen BK198.out 2
                                have hfz43_3 := blk_frozen BK198.out 3
                                have hfz43_4 := blk_frozen BK198.out 4
                                have hfz43_5 := blk_frozen BK198.out 5
                                have hfz43_6 := blk_frozen BK198.out 6
                                have hfz43_7 := blk_frozen BK198.out 7
                                obtain ⟨Ao44, co44, eo44⟩ := Kd.N_slice HO_9.out
                                subst eo44
                                have p199 : 0 ≤ (((rd_T63 t194 x47_2).f0) : Int) := of_decide_eq_true (by first | (with_reducible assumption) | assumption)
                                have q199 : ((rd_T63 t194 x47_2).f0) < (t189.length : Int) := of_decide_eq_true (by first | (with_reducible assumption) | assumption)
                                obtain ⟨ad199, A199_3, c199_3, e199, hx199_0, hx199_1, hx199_2, hx199_3, hl199_3, hi199_3⟩ := at_T64 (Kd.N_reads' HO_9.out).2.2 ((rd_T63 t194 x47_2).f0) p199 q199
                                cases e199
                                have hn199_0 : ad199.block ≠ gb198 := Kd.own_blk (Kd.N_ne HO_9.out BK198.out (by decide))
                                have hn199_1 : ad199.block ≠ gb198 := Kd.own_blk (Kd.N_ne HO_9.out BK198.out (by decide))
                                have hn199_2 : ad199.block ≠ gb198 := Kd.own_blk (Kd.N_ne HO_9.out BK198.out (by decide))
                                have hn199_3 : ad199.block ≠ gb198 := Kd.own_blk (Kd.N_ne HO_9.out BK198.out (by decide))
                                have hn199_4 : ad199.block ≠ gb198 := Kd.own_blk (Kd.N_ne HO_9.out BK198.out (by decide))
                                have hn199_5 : ad199.block ≠ gb198 := Kd.own_blk (Kd.N_ne HO_9.out BK198.out (by decide))
                                have hn199_6 : ad199.block ≠ gb198 := Kd.own_blk (Kd.N_ne HO_9.out BK198.out (by decide))
                                have hn199_7 : ad199.block ≠ gb198 := Kd.own_blk (Kd.N_ne HO_9.out BK198.out (by decide))
                                have HR199_3 := Aside0.mk hi199_3
                                have HC199_3 := Aside0.mk hl199_3
                                clear hi199_3 hl199_3
                                replace hx199_0 := (cell_far (p := ⟨gb198, 0, none⟩) (by first | (rw [add_block]; exact hn199_0) | (show (Addr.add _ _).block ≠ _; rw [add_block]; exact hn199_0) | exact hn199_0) (.int .i64 ((rd_T63 t194 x47_2).f0))).trans hx199_0
                                replace hx199_1 := (cell_far (p := ⟨gb198, 0, none⟩) (by first | (rw [add_block]; exact hn199_0) | (show (Addr.add _ _).block ≠ _; rw [add_block]; exact hn199_0) | exact hn199_0) (.int .i64 ((rd_T63 t194 x47_2).f0))).trans hx199_1
                                replace hx199_2 := (cell_far (p := ⟨gb198, 0, none⟩) (by first | (rw [add_block]; exact hn199_0) | (show (Addr.add _ _).block ≠ _; rw [add_block]; exact hn199_0) | exact hn199_0) (.int .i64 ((rd_T63 t194 x47_2).f0))).trans hx199_2
                                replace hx199_3 := (cell_far (p := ⟨gb198, 0, none⟩) (by first | (rw [add_block]; exact hn199_0) | (show (Addr.add _ _).block ≠ _; rw [add_block]; exact hn199_0) | exact hn199_0) (.int .i64 ((rd_T63 t194 x47_2).f0))).trans hx199_3
                                replace hx199_0 := (cell_far (p := ⟨gb198, 1, none⟩) (by first | (rw [add_block]; exact hn199_1) | (show (Addr.add _ _).block ≠ _; rw [add_block]; exact hn199_1) | exact hn199_1) (.int .i64 ((rd_T63 t194 x47_2).f1.f0))).trans hx199_0
                                replace hx199_1 := (cell_far (p := ⟨gb198, 1, none⟩) (by first | (rw [add_block]; exact hn199_1) | (show (Addr.add _ _).block ≠ _; rw [add_block]; exact hn199_1) | exact hn199_1) (.int .i64 ((rd_T63 t194 x47_2).f1.f0))).trans hx199_1
                                replace hx199_2 := (cell_far (p := ⟨gb198, 1, none⟩) (by first | (rw [add_block]; exact hn199_1) | (show (Addr.add _ _).block ≠ _; rw [add_block]; exact hn199_1) | exact hn199_1) (.int .i64 ((rd_T63 t194 x47_2).f1.f0))).trans hx199_2
                                replace hx199_3 := (cell_far (p := ⟨gb198, 1, none⟩) (by first | (rw [add_block]; exact hn199_1) | (show (Addr.add _ _).block ≠ _; rw [add_block]; exact hn199_1) | exact hn199_1) (.int .i64 ((rd_T63 t194 x47_2).f1.f0))).trans hx199_3
                                replace hx199_0 := (cell_far (p := ⟨gb198, 2, none⟩) (by first | (rw [add_block]; exact hn199_2) | (show (Addr.add _ _).block ≠ _; rw [add_block]; exact hn199_2) | exact hn199_2) (.int .i64 ((rd_T63 t194 x47_2).f1.f1))).trans hx199_0
                                replace hx199_1 := (cell_far (p := ⟨gb198, 2, none⟩) (by first | (rw [add_block]; exact hn199_2) | (show (Addr.add _ _).block ≠ _; rw [add_block]; exact hn199_2) | exact hn199_2) (.int .i64 ((rd_T63 t194 x47_2).f1.f1))).trans hx199_1
                                replace hx199_2 := (cell_far (p := ⟨gb198, 2, none⟩) (by first | (rw [add_block]; exact hn199_2) | (show (Addr.add _ _).block ≠ _; rw [add_block]; exact hn199_2) | exact hn199_2) (.int .i64 ((rd_T63 t194 x47_2).f1.f1))).trans hx199_2
                                replace hx199_3 := (cell_far (p := ⟨gb198, 2, none⟩) (by first | (rw [add_block]; exact hn199_2) | (show (Addr.add _ _).block ≠ _; rw [add_block]; exact hn199_2) | exact hn199_2) (.int .i64 ((rd_T63 t194 x47_2).f1.f1))).trans hx199_3
                                replace hx199_0 := (cell_far (p := ⟨gb198, 3, none⟩) (by first | (rw [add_block]; exact hn199_3) | (show (Addr.add _ _).block ≠ _; rw [add_block]; exact hn199_3) | exact hn199_3) (.bool ((rd_T63 t194 x47_2).f1.f2))).trans hx199_0
                                replace hx199_1 := (cell_far (p := ⟨gb198, 3, none⟩) (by first | (rw [add_block]; exact hn199_3) | (show (Addr.add _ _).block ≠ _; rw [add_block]; exact hn199_3) | exact hn199_3) (.bool ((rd_T63 t194 x47_2).f1.f2))).trans hx199_1
                                replace hx199_2 := (cell_far (p := ⟨gb198, 3, none⟩) (by first | (rw [add_block]; exact hn199_3) | (show (Addr.add _ _).block ≠ _; rw [add_block]; exact hn199_3) | exact hn199_3) (.bool ((rd_T63 t194 x47_2).f1.f2))).trans hx199_2
                                replace hx199_3 := (cell_far (p := ⟨gb198, 3, none⟩) (by first | (rw [add_block]; exact hn199_3) | (show (Addr.add _ _).block ≠ _; rw [add_block]; exact hn199_3) | exact hn199_3) (.bool ((rd_T63 t194 x47_2).f1.f2))).trans hx199_3
                                replace hx199_0 := (cell_far (p := ⟨gb198, 4, none⟩) (by first | (rw [add_block]; exact hn199_4) | (show (Addr.add _ _).block ≠ _; rw [add_block]; exact hn199_4) | exact hn199_4) (.int .i64 ((rd_T63 t194 x47_2).f1.f3))).trans hx199_0
                                replace hx199_1 := (cell_far (p := ⟨gb198, 4, none⟩) (by first | (rw [add_block]; exact hn199_4) | (show (Addr.add _ _).block ≠ _; rw [add_block]; exact hn199_4) | exact hn199_4) (.int .i64 ((rd_T63 t194 x47_2).f1.f3))).trans hx199_1
                                replace hx199_2 := (cell_far (p := ⟨gb198, 4, none⟩) (by first | (rw [add_block]; exact hn199_4) | (show (Addr.add _ _).block ≠ _; rw [add_block]; exact hn199_4) | exact hn199_4) (.int .i64 ((rd_T63 t194 x47_2).f1.f3))).trans hx199_2
                                replace hx199_3 := (cell_far (p := ⟨gb198, 4, none⟩) (by first | (rw [add_block]; exact hn199_4) | (show (Addr.add _ _).block ≠ _; rw [add_block]; exact hn199_4) | exact hn199_4) (.int .i64 ((rd_T63 t194 x47_2).f1.f3))).trans hx199_3
                                replace hx199_0 := (cell_far (p := ⟨gb198, 5, none⟩) (by first | (rw [add_block]; exact hn199_5) | (show (Addr.add _ _).block ≠ _; rw [add_block]; exact hn199_5) | exact hn199_5) (.int .i64 ((rd_T63 t194 x47_2).f1.f4))).trans hx199_0
                                replace hx199_1 := (cell_far (p := ⟨gb198, 5, none⟩) (by first | (rw [add_block]; exact hn199_5) | (show (Addr.add _ _).block ≠ _; rw [add_block]; exact hn199_5) | exact hn199_5) (.int .i64 ((rd_T63 t194 x47_2).f1.f4))).trans hx199_1
                                replace hx199_2 := (cell_far (p := ⟨gb198, 5, none⟩) (by first | (rw [add_block]; exact hn199_5) | (show (Addr.add _ _).block ≠ _; rw [add_block]; exact hn199_5) | exact hn199_5) (.int .i64 ((rd_T63 t194 x47_2).f1.f4))).trans hx199_2
                                replace hx199_3 := (cell_far (p := ⟨gb198, 5, none⟩) (by first | (rw [add_block]; exact hn199_5) | (show (Addr.add _ _).block ≠ _; rw [add_block]; exact hn199_5) | exact hn199_5) (.int .i64 ((rd_T63 t194 x47_2).f1.f4))).trans hx199_3
                                replace hx199_0 := (cell_far (p := ⟨gb198, 6, none⟩) (by first | (rw [add_block]; exact hn199_6) | (show (Addr.add _ _).block ≠ _; rw [add_block]; exact hn199_6) | exact hn199_6) (.int .i64 ((rd_T63 t194 x47_2).f1.f5))).trans hx199_0
                                replace hx199_1 := (cell_far (p := ⟨gb198, 6, none⟩) (by first | (rw [add_block]; exact hn199_6) | (show (Addr.add _ _).block ≠ _; rw [add_block]; exact hn199_6) | exact hn199_6) (.int .i64 ((rd_T63 t194 x47_2).f1.f5))).trans hx199_1
                                replace hx199_2 := (cell_far (p := ⟨gb198, 6, none⟩) (by first | (rw [add_block]; exact hn199_6) | (show (Addr.add _ _).block ≠ _; rw [add_block]; exact hn199_6) | exact hn199_6) (.int .i64 ((rd_T63 t194 x47_2).f1.f5))).trans hx199_2
                                replace hx199_3 := (cell_far (p := ⟨gb198, 6, none⟩) (by first | (rw [add_block]; exact hn199_6) | (show (Addr.add _ _).block ≠ _; rw [add_block]; exact hn199_6) | exact hn199_6) (.int .i64 ((rd_T63 t194 x47_2).f1.f5))).trans hx199_3
                                replace hx199_0 := (cell_far (p := ⟨gb198, 7, none⟩) (by first | (rw [add_block]; exact hn199_7) | (show (Addr.add _ _).block ≠ _; rw [add_block]; exact hn199_7) | exact hn199_7) (.string ((rd_T63 t194 x47_2).f1.f6))).trans hx199_0
                                replace hx199_1 := (cell_far (p := ⟨gb198, 7, none⟩) (by first | (rw [add_block]; exact hn199_7) | (show (Addr.add _ _).block ≠ _; rw [add_block]; exact hn199_7) | exact hn199_7) (.string ((rd_T63 t194 x47_2).f1.f6))).trans hx199_1
                                replace hx199_2 := (cell_far (p := ⟨gb198, 7, none⟩) (by first | (rw [add_block]; exact hn199_7) | (show (Addr.add _ _).block ≠ _; rw [add_block]; exact hn199_7) | exact hn199_7) (.string ((rd_T63 t194 x47_2).f1.f6))).trans hx199_2
                                replace hx199_3 := (cell_far (p := ⟨gb198, 7, none⟩) (by first | (rw [add_block]; exact hn199_7) | (show (Addr.add _ _).block ≠ _; rw [add_block]; exact hn199_7) | exact hn199_7) (.string ((rd_T63 t194 x47_2).f1.f6))).trans hx199_3
                                clear hn199_0
                                clear hn199_1
                                clear hn199_2
                                clear hn199_3
                                clear hn199_4
                                clear hn199_5
                                clear hn199_6
                                clear hn199_7
                                replace p199 := eq_true p199
                                replace q199 := eq_true q199
                                go_wp2
                                go_meet
                                case rel => exact ⟨_, ((((rd_T64 t189 ((rd_T63 t194 x47_2).f0)).f0) != 2)), (by first | rfl | (simp; done) | (simp [*]; done)), H', ⟨by have := HJ7.out; have := HK2.out; first | omega | exact Nat.le_refl _⟩, ⟨by (with_reducible repeat (first | apply Kd.N_alloc | apply Kd.N_drewN | apply Kd.N_drew)); exact Kd.N_mono (Kd.N_far (p := ⟨gb198, 7, none⟩) (Kd.N_far (p := ⟨gb198, 6, none⟩) (Kd.N_far (p := ⟨gb198, 5, none⟩) (Kd.N_far (p := ⟨gb198, 4, none⟩) (Kd.N_far (p := ⟨gb198, 3, none⟩) (Kd.N_far (p := ⟨gb198, 2, none⟩) (Kd.N_far (p := ⟨gb198, 1, none⟩) (Kd.N_far (p := ⟨gb198, 0, none⟩) (Kd.N_mono HO_9.out (fun k_ hk => (⟨hk, hk.2⟩ : _ ∧ k_ ≠ gb198))) (fun _ hk => hk.2) (.int .i64 ((rd_T63 t194 x47_2).f0))) (fun _ hk => hk.2) (.int .i64 ((rd_T63 t194 x47_2).f1.f0))) (fun _ hk => hk.2) (.int .i64 ((rd_T63 t194 x47_2).f1.f1))) (fun _ hk => hk.2) (.bool ((rd_T63 t194 x47_2).f1.f2))) (fun _ hk => hk.2) (.int .i64 ((rd_T63 t194 x47_2).f1.f3))) (fun _ hk => hk.2) (.int .i64 ((rd_T63 t194 x47_2).f1.f4))) (fun _ hk => hk.2) (.int .i64 ((rd_T63 t194 x47_2).f1.f5))) (fun _ hk => hk.2) (.string ((rd_T63 t194 x47_2).f1.f6))) (fun _ hk => ⟨hk.1.1.1, ⟨hk.1.1.2, hk.1.2⟩⟩)⟩, ⟨by (with_reducible repeat (first | apply Kd.R_alloc | apply Kd.R_drewN | apply Kd.R_drew)); exact Kd.R_mono (Kd.R_far (p := ⟨gb198, 7, none⟩) (Kd.R_far (p := ⟨gb198, 6, none⟩) (Kd.R_far (p := ⟨gb198, 5, none⟩) (Kd.R_far (p := ⟨gb198, 4, none⟩) (Kd.R_far (p := ⟨gb198, 3, none⟩) (Kd.R_far (p := ⟨gb198, 2, none⟩) (Kd.R_far (p := ⟨gb198, 1, none⟩) (Kd.R_far (p := ⟨gb198, 0, none⟩) (Kd.R_mono HO_45.out (fun k_ hk => (⟨hk, hk.2⟩ : _ ∧ k_ ≠ gb198))) (fun _ hk => hk.2) (.int .i64 ((rd_T63 t194 x47_2).f0))) (fun _ hk => hk.2) (.int .i64 ((rd_T63 t194 x47_2).f1.f0))) (fun _ hk => hk.2) (.int .i64 ((rd_T63 t194 x47_2).f1.f1))) (fun _ hk => hk.2) (.bool ((rd_T63 t194 x47_2).f1.f2))) (fun _ hk => hk.2) (.int .i64 ((rd_T63 t194 x47_2).f1.f3))) (fun _ hk => hk.2) (.int .i64 ((rd_T63 t194 x47_2).f1.f4))) (fun _ hk => hk.2) (.int .i64 ((rd_T63 t194 x47_2).f1.f5))) (fun _ hk => hk.2) (.string ((rd_T63 t194 x47_2).f1.f6))) (fun _ hk => hk.1.2)⟩, ⟨by (with_reducible repeat (first | refine blk_drewN ?_ _ | refine blk_drew ?_ | refine blk_alloc ?_ _)); refine blk_far ?_ NB187_198.out _; (with_reducible repeat (first | refine blk_drewN ?_ _ | refine blk_drew ?_ | refine blk_alloc ?_ _)); refine blk_far ?_ NB187_198.out _; (with_reducible repeat (first | refine blk_drewN ?_ _ | refine blk_drew ?_ | refine blk_alloc ?_ _)); refine blk_far ?_ NB187_198.out _; (with_reducible repeat (first | refine blk_drewN ?_ _ | refine blk_drew ?_ | refine blk_alloc ?_ _)); refine blk_far ?_ NB187_198.out _; (with_reducible repeat (first | refine blk_drewN ?_ _ | refine blk_drew ?_ | refine blk_alloc ?_ _)); refine blk_far ?_ NB187_198.out _; (with_reducible repeat (first | refine blk_drewN ?_ _ | refine blk_drew ?_ | refine blk_alloc ?_ _)); refine blk_far ?_ NB187_198.out _; (with_reducible repeat (first | refine blk_drewN ?_ _ | refine blk_drew ?_ | refine blk_alloc ?_ _)); refine blk_far ?_ NB187_198.out _; (with_reducible repeat (first | refine blk_drewN ?_ _ | refine blk_drew ?_ | refine blk_alloc ?_ _)); refine blk_far ?_ NB187_198.out _; (with_reducible repeat (first | refine blk_drewN ?_ _ | refine blk_drew ?_ | refine blk_alloc ?_ _)); exact BK187.out⟩, ⟨by (with_reducible repeat (first | refine blk_drewN ?_ _ | refine blk_drew ?_ | refine blk_alloc ?_ _)); refine blk_put (cs := #[.int .i64 ((rd_T63 t194 x47_2).f0), .int .i64 ((rd_T63 t194 x47_2).f1.f0), .int .i64 ((rd_T63 t194 x47_2).f1.f1), .bool ((rd_T63 t194 x47_2).f1.f2), .int .i64 ((rd_T63 t194 x47_2).f1.f3), .int .i64 ((rd_T63 t194 x47_2).f1.f4), .int .i64 ((rd_T63 t194 x47_2).f1.f5), .string (⟨#[]⟩ : ByteArray)]) ?_ 7 _ rfl; (with_reducible repeat (first | refine blk_drewN ?_ _ | refine blk_drew ?_ | refine blk_alloc ?_ _)); refine blk_put (cs := #[.int .i64 ((rd_T63 t194 x47_2).f0), .int .i64 ((rd_T63 t194 x47_2).f1.f0), .int .i64 ((rd_T63 t194 x47_2).f1.f1), .bool ((rd_T63 t194 x47_2).f1.f2), .int .i64 ((rd_T63 t194 x47_2).f1.f3), .int .i64 ((rd_T63 t194 x47_2).f1.f4), .int .i64 0, .string (⟨#[]⟩ : ByteArray)]) ?_ 6 _ rfl; (with_reducible repeat (first | refine blk_drewN ?_ _ | refine blk_drew ?_ | refine blk_alloc ?_ _)); refine blk_put (cs := #[.int .i64 ((rd_T63 t194 x47_2).f0), .int .i64 ((rd_T63 t194 x47_2).f1.f0), .int .i64 ((rd_T63 t194 x47_2).f1.f1), .bool ((rd_T63 t194 x47_2).f1.f2), .int .i64 ((rd_T63 t194 x47_2).f1.f3), .int .i64 0, .int .i64 0, .string (⟨#[]⟩ : ByteArray)]) ?_ 5 _ rfl; (with_reducible repeat (first | refine blk_drewN ?_ _ | refine blk_drew ?_ | refine blk_alloc ?_ _)); refine blk_put (cs := #[.int .i64 ((rd_T63 t194 x47_2).f0), .int .i64 ((rd_T63 t194 x47_2).f1.f0), .int .i64 ((rd_T63 t194 x47_2).f1.f1), .bool ((rd_T63 t194 x47_2).f1.f2), .int .i64 0, .int .i64 0, .int .i64 0, .string (⟨#[]⟩ : ByteArray)]) ?_ 4 _ rfl; (with_reducible repeat (first | refine blk_drewN ?_ _ | refine blk_drew ?_ | refine blk_alloc ?_ _)); refine blk_put (cs := #[.int .i64 ((rd_T63 t194 x47_2).f0), .int .i64 ((rd_T63 t194 x47_2).f1.f0), .int .i64 ((rd_T63 t194 x47_2).f1.f1), .bool false, .int .i64 0, .int .i64 0, .int .i64 0, .string (⟨#[]⟩ : ByteArray)]) ?_ 3 _ rfl; (with_reducible repeat (first | refine blk_drewN ?_ _ | refine blk_drew ?_ | refine blk_alloc ?_ _)); refine blk_put (cs := #[.int .i64 ((rd_T63 t194 x47_2).f0), .int .i64 ((rd_T63 t194 x47_2).f1.f0), .int .i64 0, .bool false, .int .i64 0, .int .i64 0, .int .i64 0, .string (⟨#[]⟩ : ByteArray)]) ?_ 2 _ rfl; (with_reducible repeat (first | refine blk_drewN ?_ _ | refine blk_drew ?_ | refine blk_alloc ?_ _)); refine blk_put (cs := #[.int .i64 ((rd_T63 t194 x47_2).f0), .int .i64 0, .int .i64 0, .bool false, .int .i64 0, .int .i64 0, .int .i64 0, .string (⟨#[]⟩ : ByteArray)]) ?_ 1 _ rfl; (with_reducible repeat (first | refine blk_drewN ?_ _ | refine blk_drew ?_ | refine blk_alloc ?_ _)); refine blk_put (cs := #[.int .i64 0, .int .i64 0, .int .i64 0, .bool false, .int .i64 0, .int .i64 0, .int .i64 0, .string (⟨#[]⟩ : ByteArray)]) ?_ 0 _ rfl; (with_reducible repeat (first | refine blk_drewN ?_ _ | refine blk_drew ?_ | refine blk_alloc ?_ _)); exact BK198.out⟩, ⟨by repeat (first | (with_reducible first | exact HB.out | apply below_alloc | apply pw_below_drewN | apply below_drew1 | refine below_set ?_ GE187.out | refine below_set ?_ GE198.out) | exact HB.out)⟩⟩
                              · rw [if_neg c41] at H
                                exact absurd H (by simp)
                            · rw [if_neg c40] at H
                              exact absurd H (by simp)
                    case rest =>
                      clear HC25
                      try clear c1
                      try clear p1
                      try clear q1
                      try clear hx1
                      try clear c2
                      try clear p2
                      try clear c3
                      try clear c4
                      try clear c6
                      try clear c10
                      try clear c12
                      try clear c13
                      try clear c13b0
                      try clear c13b1
                      try clear c15
                      try clear c19
                      try clear p19
                      try clear q19
                      try clear hx19
                      try clear c22
                      try clear c22b0
                      try clear c23
                      try clear c23b0
                      try clear c24
                      try clear c24b0
                      try clear c25
                      try clear c26
                      try clear c27
                      try clear c29
                      try clear c29b0
                      try clear c30
                      try clear c32
                      try clear c32b0
                      try clear c33
                      try clear c36
                      try clear c36b0
                      try clear c36b1
                      try clear c37
                      try clear c40
                      try clear c40b0
                      try clear c41
                      try clear c41b0
                      try clear c42
                      try clear hcz14_0
                      try clear hcz14_1
                      try clear hcz14_2
                      try clear hcz14_3
                      try clear hcz14_4
                      try clear hcz14_5
                      try clear hcz14_6
                      try clear hcz28_0
                      try clear hcz28_1
                      try clear hcz28_2
                      try clear hcz28_3
                      try clear hcz28_4
                      try clear hcz28_5
                      try clear hcz28_6
                      try clear hcz28_7
                      try clear hcz31_0
                      try clear hcz31_1
                      try clear hcz31_2
                      try clear hcz31_3
                      try clear hcz31_4
                      try clear hcz31_5
                      try clear hcz31_6
                      try clear hcz31_7
                      try clear hcz34_0
                      try clear hcz34_1
                      try clear hcz34_2
                      try clear hcz34_3
                      try clear hcz34_4
                      try clear hcz34_5
                      try clear hcz34_6
                      try clear hcz34_7
                      try clear hcz38_0
                      try clear hcz38_1
                      try clear hcz38_2
                      try clear hcz38_3
                      try clear hcz38_4
                      try clear hcz38_5
                      try clear hcz38_6
                      try clear hcz38_7
                      try clear hcz43_0
                      try clear hcz43_1
                      try clear hcz43_2
                      try clear hcz43_3
                      try clear hcz43_4
                      try clear hcz43_5
                      try clear hcz43_6
                      try clear hcz43_7
                      try clear hfz14_0
                      try clear hfz14_1
                      try clear hfz14_2
                      try clear hfz14_3
                      try clear hfz14_4
                      try clear hfz14_5
                      try clear hfz14_6
                      try clear hfz28_0
                      try clear hfz28_1
                      try clear hfz28_2
                      try clear hfz28_3
                      try clear hfz28_4
                      try clear hfz28_5
                      try clear hfz28_6
                      try clear hfz28_7
                      try clear hfz31_0
                      try clear hfz31_1
                      try clear hfz31_2
                      try clear hfz31_3
                      try clear hfz31_4
                      try clear hfz31_5
                      try clear hfz31_6
                      try clear hfz31_7
                      try clear hfz34_0
                      try clear hfz34_1
                      try clear hfz34_2
                      try clear hfz34_3
                      try clear hfz34_4
                      try clear hfz34_5
                      try clear hfz34_6
                      try clear hfz34_7
                      try clear hfz38_0
                      try clear hfz38_1
                      try clear hfz38_2
                      try clear hfz38_3
                      try clear hfz38_4
                      try clear hfz38_5
                      try clear hfz38_6
                      try clear hfz38_7
                      try clear hfz43_0
                      try clear hfz43_1
                      try clear hfz43_2
                      try clear hfz43_3
                      try clear hfz43_4
                      try clear hfz43_5
                      try clear hfz43_6
                      try clear hfz43_7
                      try clear hx197_0
                      try clear hx197_1
                      try clear hx197_2
                      try clear hx197_3
                      try clear hx197_4
                      try clear hx197_5
                      try clear hx197_6
                      try clear hx197_7
                      try clear hx199_0
                      try clear hx199_1
                      try clear hx199_2
                      try clear hx199_3
                      try clear p197
                      try clear p199
                      try clear p2
                      try clear q197
                      try clear q199
                      obtain ⟨kq, x76_24, rfl, HA, HJ24, HO_9, HO_45, BK187, BK198, HB⟩ := hcut
                      cases kq with
                      | zero => exact absurd HA.out (by simp [kissgatelaw19_RelayBounds.j2])
                      | succ kj24 =>
                        have H := HA.out
                        clear HA
                        simp only [kissgatelaw19_RelayBounds.j2] at H
                        by_cases c45 : x76_24 = true
                        · subst c45
                          have H1 : (some false) = some r := by rw [if_pos rfl] at H; exact H
                          clear H
                          have H := H1
                          clear H1
                          exact absurd (Option.some.inj H) (by rw [HRT.out]; decide)
                        · replace c45 := Bool.eq_false_iff.mpr c45
                          subst c45
                          have H1 : (if 0 ≤ ((rd_T63 t194 x47_2).f0) then (if ((rd_T63 t194 x47_2).f0) < (t189.length : Int) then (kissgatelaw19_RelayBounds.l1 kj24 l0 a1 t189 ((rd_T63 t194 x47_2).f0) false t194 (t194.length : Int) x47_2 ((rd_T64 t189 ((rd_T63 t194 x47_2).f0)).f3) (((rd_T64 t189 ((rd_T63 t194 x47_2).f0)).f3).length : Int) 0 a2_0 a2_1 a2_2 a2_3 a2_4 a2_5 a2_6 ((rd_T63 t194 x47_2).f0) ((rd_T63 t194 x47_2).f1.f0) ((rd_T63 t194 x47_2).f1.f1) ((rd_T63 t194 x47_2).f1.f2) ((rd_T63 t194 x47_2).f1.f3) ((rd_T63 t194 x47_2).f1.f4) ((rd_T63 t194 x47_2).f1.f5) ((rd_T63 t194 x47_2).f1.f6)) else (none)) else (none)) = some r := by rw [if_neg (show ¬ (false = true) by decide)] at H; exact H
                          clear H
                          have H := H1
                          clear H1
                          by_cases c46 : 0 ≤ ((rd_T63 t194 x47_2).f0)
                          · rw [if_pos c46] at H
                            have c46b0 : decide (0 ≤ ((rd_T63 t194 x47_2).f0)) = true := decide_eq_true c46
                            clear c46
                            by_cases c47 : ((rd_T63 t194 x47_2).f0) < (t189.length : Int)
                            · rw [if_pos c47] at H
                              have c47b0 : decide (((rd_T63 t194 x47_2).f0) < (t189.length : Int)) = true := decide_eq_true c47
                              clear c47
                              have H' := Aside0.mk H
                              clear H
                              have hnb48 := NB198_187.out
                              have hnc48 := NB187_198.out
                              have hcz49_0 : wc.cell? ⟨gb198, 0, none⟩ = some (.int .i64 ((rd_T63 t194 x47_2).f0)) := (blk_cell BK198.out 0).trans rfl
                              have hcz49_1 : wc.cell? ⟨gb198, 1, none⟩ = some (.int .i64 ((rd_T63 t194 x47_2).f1.f0)) := (blk_cell BK198.out 1).trans rfl
                              have hcz49_2 : wc.cell? ⟨gb198, 2, none⟩ = some (.int .i64 ((rd_T63 t194 x47_2).f1.f1)) := (blk_cell BK198.out 2).trans rfl
                              have hcz49_3 : wc.cell? ⟨gb198, 3, none⟩ = some (.bool ((rd_T63 t194 x47_2).f1.f2)) := (blk_cell BK198.out 3).trans rfl
                              have hcz49_4 : wc.cell? ⟨gb198, 4, none⟩ = some (.int .i64 ((rd_T63 t194 x47_2).f1.f3)) := (blk_cell BK198.out 4).trans rfl
                              have hcz49_5 : wc.cell? ⟨gb198, 5, none⟩ = some (.int .i64 ((rd_T63 t194 x47_2).f1.f4)) := (blk_cell BK198.out 5).trans rfl
                              have hcz49_6 : wc.cell? ⟨gb198, 6, none⟩ = some (.int .i64 ((rd_T63 t194 x47_2).f1.f5)) := (blk_cell BK198.out 6).trans rfl
                              have hcz49_7 : wc.cell? ⟨gb198, 7, none⟩ = some (.string ((rd_T63 t194 x47_2).f1.f6)) := (blk_cell BK198.out 7).trans rfl
                              have hfz49_0 := blk_frozen BK198.out 0
                              have hfz49_1 := blk_frozen BK198.out 1
                              have hfz49_2 := blk_frozen BK198.out 2
                              have hfz49_3 := blk_frozen BK198.out 3
                              have hfz49_4 := blk_frozen BK198.out 4
                              have hfz49_5 := blk_frozen BK198.out 5
                              have hfz49_6 := blk_frozen BK198.out 6
                              have hfz49_7 := blk_frozen BK198.out 7
                              obtain ⟨Ao50, co50, eo50⟩ := Kd.N_slice HO_9.out
                              subst eo50
                              have p200 : 0 ≤ (((rd_T63 t194 x47_2).f0) : Int) := of_decide_eq_true (by first | (with_reducible assumption) | assumption)
                              have q200 : ((rd_T63 t194 x47_2).f0) < (t189.length : Int) := of_decide_eq_true (by first | (with_reducible assumption) | assumption)
                              obtain ⟨ad200, A200_3, c200_3, e200, hx200_0, hx200_1, hx200_2, hx200_3, hl200_3, hi200_3⟩ := at_T64 (Kd.N_reads' HO_9.out).2.2 ((rd_T63 t194 x47_2).f0) p200 q200
                              cases e200
                              obtain ⟨ce200, hce200, hMe200, hcc200⟩ := Kd.N_get HO_9.out z64 ((rd_T63 t194 x47_2).f0) p200 (by first | exact q200 | exact of_decide_eq_true (by first | (with_reducible assumption) | assumption) | (have e_ := (Kd.N_reads' HO_9.out).1; omega))
                              obtain ⟨ua200_3, uc200_3, rfl, ul200_3, ge200_3⟩ := k64_openF hMe200
                              have hv200_3 := hcc200 3 _ rfl
                              rw [add_field _ _ 3 (by omega)] at hv200_3
                              replace hv200_3 := Option.some.inj (hv200_3.symm.trans hx200_3)
                              injection hv200_3 with hva_ hvn_ hvc_
                              rw [hva_] at ge200_3
                              rw [hvc_] at ul200_3
                              have HL200_3 := Aside0.mk (show Kd.V (Kd.int .i64) 3 _ w.heap.size _ _ ((rd_T64 t189 ((rd_T63 t194 x47_2).f0)).f3) from Kd.V_mk ul200_3 ge200_3)
                              clear hva_ hvn_ hvc_ ge200_3 ul200_3
                              clear hcc200 hce200
                              have HR200_3 := Aside0.mk hi200_3
                              have HC200_3 := Aside0.mk hl200_3
                              clear hi200_3 hl200_3
                              replace p200 := eq_true p200
                              replace q200 := eq_true q200
                              go_wp2
                              go_loopg [14, 86] kj24 (fun kq v14 v86 w' => ∃ (x14_4 : Bool) (x86_4 : Int), v14 = .bool x14_4 ∧ v86 = .int .i64 x86_4 ∧ Aside0 (kissgatelaw19_RelayBounds.l1 kq l0 a1 t189 ((rd_T63 t194 x47_2).f0) x14_4 t194 (t194.length : Int) x47_2 ((rd_T64 t189 ((rd_T63 t194 x47_2).f0)).f3) (((rd_T64 t189 ((rd_T63 t194 x47_2).f0)).f3).length : Int) x86_4 a2_0 a2_1 a2_2 a2_3 a2_4 a2_5 a2_6 ((rd_T63 t194 x47_2).f0) ((rd_T63 t194 x47_2).f1.f0) ((rd_T63 t194 x47_2).f1.f1) ((rd_T63 t194 x47_2).f1.f2) ((rd_T63 t194 x47_2).f1.f3) ((rd_T63 t194 x47_2).f1.f4) ((rd_T63 t194 x47_2).f1.f5) ((rd_T63 t194 x47_2).f1.f6) = some r) ∧ Aside0 (kq ≤ kj24) ∧ Aside0 (Kd.N k64 64 w' w.heap.size (fun k_ => some k_ ≠ ((.slice (some ad197) t194.length co21) : Value).ownBlock ∧ k_ ≠ gb187 ∧ k_ ≠ gb198) (.slice (some ad200) t189.length co50) t189) ∧ Aside0 (Kd.R k63 63 w' w.heap.size (fun k_ => k_ ≠ gb198) (.slice (some ad197) t194.length co21) t194) ∧ Aside0 (w'.heap[gb187]? = some (.cells #[.int .i64 a2_0, .int .i64 a2_1, .bool a2_2, .int .i64 a2_3, .int .i64 a2_4, .int .i64 a2_5, .string a2_6] 49 (0, 0))) ∧ Aside0 (w'.heap[gb198]? = some (.cells #[.int .i64 ((rd_T63 t194 x47_2).f0), .int .i64 ((rd_T63 t194 x47_2).f1.f0), .int .i64 ((rd_T63 t194 x47_2).f1.f1), .bool ((rd_T63 t194 x47_2).f1.f2), .int .i64 ((rd_T63 t194 x47_2).f1.f3), .int .i64 ((rd_T63 t194 x47_2).f1.f4), .int .i64 ((rd_T63 t194 x47_2).f1.f5), .string ((rd_T63 t194 x47_2).f1.f6)] 63 (0, 0))) ∧ Aside0 (Kd.C (Kd.int .i64) w' A200_3 ((rd_T64 t189 ((rd_T63 t194 x47_2).f0)).f3).length ((rd_T64 t189 ((rd_T63 t194 x47_2).f0)).f3)) ∧ Aside0 (Below w.heap.size w w'))
                              case atStart => exact ⟨(false), (0), (by first | rfl | (simp; done) | (simp [*]; done)), (by first | rfl | (simp; done) | (simp [*]; done)), H', ⟨Nat.le_refl _⟩, ⟨by (with_reducible repeat (first | apply Kd.N_alloc | apply Kd.N_drewN | apply Kd.N_drew)); exact HO_9.out⟩, ⟨by (with_reducible repeat (first | apply Kd.R_alloc | apply Kd.R_drewN | apply Kd.R_drew)); exact HO_45.out⟩, ⟨by (with_reducible repeat (first | refine blk_drewN ?_ _ | refine blk_drew ?_ | refine blk_alloc ?_ _)); exact BK187.out⟩, ⟨by (with_reducible repeat (first | refine blk_drewN ?_ _ | refine blk_drew ?_ | refine blk_alloc ?_ _)); exact BK198.out⟩, ⟨by repeat (first | (with_reducible exact HR200_3.out) | (with_reducible refine Kd.C_alloc ?_ _) | (with_reducible refine Kd.C_drewN ?_ _) | (with_reducible refine Kd.C_drew ?_) | exact HR200_3.out)⟩, ⟨by repeat (first | (with_reducible first | exact HB.out | apply below_alloc | apply pw_below_drewN | apply below_drew1 | refine below_set ?_ GE187.out | refine below_set ?_ GE198.out) | exact HB.out)⟩⟩
                              case round =>
                                clear H'
                                try clear c1
                                try clear p1
                                try clear q1
                                try clear hx1
                                try clear c2
                                try clear p2
                                try clear q2
                                try clear hx2
                                try clear c3
                                try clear c4
                                try clear c6
                                try clear c10
                                try clear c12
                                try clear c13
                                try clear c13b0
                                try clear c13b1
                                try clear c15
                                try clear c19
                                try clear p19
                                try clear q19
                                try clear hx19
                                try clear c20
                                try clear p20
                                try clear q20
                                try clear hx20
                                try clear c22
                                try clear c22b0
                                try clear c23
                                try clear c23b0
                                try clear c24
                                try clear c24b0
                                try clear c25
                                try clear c26
                                try clear c27
                                try clear c29
                                try clear c29b0
                                try clear c30
                                try clear c32
                                try clear c32b0
                                try clear c33
                                try clear c36
                                try clear c36b0
                                try clear c36b1
                                try clear c37
                                try clear c40
                                try clear c40b0
                                try clear c41
                                try clear c41b0
                                try clear c42
                                try clear c45
                                try clear c46
                                try clear c46b0
                                try clear c47
                                try clear c47b0
                                try clear c48
                                try clear hcz14_0
                                try clear hcz14_1
                                try clear hcz14_2
                                try clear hcz14_3
                                try clear hcz14_4
                                try clear hcz14_5
                                try clear hcz14_6
                                try clear hcz28_0
                                try clear hcz28_1
                                try clear hcz28_2
                                try clear hcz28_3
                                try clear hcz28_4
                                try clear hcz28_5
                                try clear hcz28_6
                                try clear hcz28_7
                                try clear hcz31_0
                                try clear hcz31_1
                                try clear hcz31_2
                                try clear hcz31_3
                                try clear hcz31_4
                                try clear hcz31_5
                                try clear hcz31_6
                                try clear hcz31_7
                                try clear hcz34_0
                                try clear hcz34_1
                                try clear hcz34_2
                                try clear hcz34_3
                                try clear hcz34_4
                                try clear hcz34_5
                                try clear hcz34_6
                                try clear hcz34_7
                                try clear hcz38_0
                                try clear hcz38_1
                                try clear hcz38_2
                                try clear hcz38_3
                                try clear hcz38_4
                                try clear hcz38_5
                                try clear hcz38_6
                                try clear hcz38_7
                                try clear hcz43_0
                                try clear hcz43_1
                                try clear hcz43_2
                                try clear hcz43_3
                                try clear hcz43_4
                                try clear hcz43_5
                                try clear hcz43_6
                                try clear hcz43_7
                                try clear hcz49_0
                                try clear hcz49_1
                                try clear hcz49_2
                                try clear hcz49_3
                                try clear hcz49_4
                                try clear hcz49_5
                                try clear hcz49_6
                                try clear hcz49_7
                                try clear hfz14_0
                                try clear hfz14_1
                                try clear hfz14_2
                                try clear hfz14_3
                                try clear hfz14_4
                                try clear hfz14_5
                                try clear hfz14_6
                                try clear hfz28_0
                                try clear hfz28_1
                                try clear hfz28_2
                                try clear hfz28_3
                                try clear hfz28_4
                                try clear hfz28_5
                                try clear hfz28_6
                                try clear hfz28_7
                                try clear hfz31_0
                                try clear hfz31_1
                                try clear hfz31_2
                                try clear hfz31_3
                                try clear hfz31_4
                                try clear hfz31_5
                                try clear hfz31_6
                                try clear hfz31_7
                                try clear hfz34_0
                                try clear hfz34_1
                                try clear hfz34_2
                                try clear hfz34_3
                                try clear hfz34_4
                                try clear hfz34_5
                                try clear hfz34_6
                                try clear hfz34_7
                                try clear hfz38_0
                                try clear hfz38_1
                                try clear hfz38_2
                                try clear hfz38_3
                                try clear hfz38_4
                                try clear hfz38_5
                                try clear hfz38_6
                                try clear hfz38_7
                                try clear hfz43_0
                                try clear hfz43_1
                                try clear hfz43_2
                                try clear hfz43_3
                                try clear hfz43_4
                                try clear hfz43_5
                                try clear hfz43_6
                                try clear hfz43_7
                                try clear hfz49_0
                                try clear hfz49_1
                                try clear hfz49_2
                                try clear hfz49_3
                                try clear hfz49_4
                                try clear hfz49_5
                                try clear hfz49_6
                                try clear hfz49_7
                                try clear hx197_0
                                try clear hx197_1
                                try clear hx197_2
                                try clear hx197_3
                                try clear hx197_4
                                try clear hx197_5
                                try clear hx197_6
                                try clear hx197_7
                                try clear hx199_0
                                try clear hx199_1
                                try clear hx199_2
                                try clear hx199_3
                                try clear hx200_0
                                try clear hx200_1
                                try clear hx200_2
                                try clear hx200_3
                                try clear p1
                                try clear p19
                                try clear p197
                                try clear p199
                                try clear p2
                                try clear p200
                                try clear q1
                                try clear q19
                                try clear q197
                                try clear q199
                                try clear q200
                                obtain ⟨x14_4, x86_4, rfl, rfl, HA, HK4, HO_9, HO_45, BK187, BK198, HR200_3, HB⟩ := hrel
                                cases gk with
                                | zero => exact absurd HA.out (by simp [kissgatelaw19_RelayBounds.l1])
                                | succ k4 =>
                                  have H := HA.out
                                  clear HA
                                  simp only [kissgatelaw19_RelayBounds.l1] at H
                                  by_cases c51 : x86_4 < (((rd_T64 t189 ((rd_T63 t194 x47_2).f0)).f3).length : Int)
                                  · rw [if_pos c51] at H
                                    have c51b0 : decide (x86_4 < (((rd_T64 t189 ((rd_T63 t194 x47_2).f0)).f3).length : Int)) = true := decide_eq_true c51
                                    clear c51
                                    by_cases c52 : 0 ≤ x86_4
                                    · rw [if_pos c52] at H
                                      have c52b0 : decide (0 ≤ x86_4) = true := decide_eq_true c52
                                      clear c52
                                      by_cases c53 : x86_4 < (((rd_T64 t189 ((rd_T63 t194 x47_2).f0)).f3).length : Int)
                                      · rw [if_pos c53] at H
                                        have c53b0 : decide (x86_4 < (((rd_T64 t189 ((rd_T63 t194 x47_2).f0)).f3).length : Int)) = true := decide_eq_true c53
                                        clear c53
                                        by_cases c54 : x14_4 = true
                                        · subst c54
                                          have H1 : (kissgatelaw19_RelayBounds.l1 k4 l0 a1 t189 ((rd_T63 t194 x47_2).f0) true t194 (t194.length : Int) x47_2 ((rd_T64 t189 ((rd_T63 t194 x47_2).f0)).f3) (((rd_T64 t189 ((rd_T63 t194 x47_2).f0)).f3).length : Int) (wrap64 (x86_4 + 1)) a2_0 a2_1 a2_2 a2_3 a2_4 a2_5 a2_6 ((rd_T63 t194 x47_2).f0) ((rd_T63 t194 x47_2).f1.f0) ((rd_T63 t194 x47_2).f1.f1) ((rd_T63 t194 x47_2).f1.f2) ((rd_T63 t194 x47_2).f1.f3) ((rd_T63 t194 x47_2).f1.f4) ((rd_T63 t194 x47_2).f1.f5) ((rd_T63 t194 x47_2).f1.f6)) = some r := by rw [if_pos rfl] at H; exact H
                                          clear H
                                          have H := H1
                                          clear H1
                                          have H' := Aside0.mk H
                                          clear H
                                          have p201 : 0 ≤ (x86_4 : Int) := of_decide_eq_true (by first | (with_reducible assumption) | assumption)
                                          have q201 : x86_4 < (((rd_T64 t189 ((rd_T63 t194 x47_2).f0)).f3).length : Int) := of_decide_eq_true (by first | (with_reducible assumption) | assumption)
                                          obtain ⟨ad201, e201, hx201_0⟩ := Kd.at_int HR200_3.out x86_4 p201 q201
                                          cases e201
                                          replace p201 := eq_true p201
                                          replace q201 := eq_true q201
                                          try go_wp2
                                          have n0_ := Aside0.mk (Kd.N_drew HO_9.out)
                                          have n1_ := Aside0.mk (Kd.R_drew HO_45.out)
                                          have n2_ := Aside0.mk (blk_drew BK187.out)
                                          have n3_ := Aside0.mk (blk_drew BK198.out)
                                          have n4_ := Aside0.mk (Kd.C_drew HR200_3.out)
                                          have n5_ := Aside0.mk (below_drew1 HB.out)
                                          clear HO_9
                                          clear HO_45
                                          clear BK187
                                          clear BK198
                                          clear HR200_3
                                          clear HB
                                          have HO_9 := n0_
                                          have HO_45 := n1_
                                          have BK187 := n2_
                                          have BK198 := n3_
                                          have HR200_3 := n4_
                                          have HB := n5_
                                          clear n0_ n1_ n2_ n3_ n4_ n5_
                                          refine start_ (n := 12) (S := fun w' => True) (ds := []) #[false, false, false, false, false, false, false, false, false, false, false, false] (by kernel_rfl) rfl rfl trivial (fun hHeld => ?_); refine with_tabW kissgatelaw19_RelayBounds.tab17 kissgatelaw19_RelayBounds.bits17 (fun HT_ HW_ => ?_)
                                          generalize wr.drew = w55 at HO_9 HO_45 BK187 BK198 HR200_3 HB hHeld ⊢
                                          refine pure_ (i := 0) (N := some 90) (v := ?_) (a' := ?_) #[true, false, false, false, false, false, false, false, false, false, false, false] rfl rfl (any_of HT_.out (by kernel_rfl)) (fun _ _ _ h => h) (Or.inl ⟨by rfl, ?_⟩) ?_ ?_
                                          rotate_left
                                          · intro w'
                                            go_simp
                                            with_reducible rfl
                                          rotate_left
                                          · simp only [Act.put, List.setIfInBounds_toArray, List.set_cons_zero, List.set_cons_succ, i64_w, i32_w]
                                            rfl
                                          refine pure_ (i := 1) (N := some 91) (v := ?_) (a' := ?_) #[true, true, false, false, false, false, false, false, false, false, false, false] rfl rfl (any_of HT_.out (by kernel_rfl)) (fun _ _ _ h => h) (Or.inl ⟨by rfl, ?_⟩) ?_ ?_
                                          rotate_left
                                          · intro w'
                                            go_simp
                                            with_reducible rfl
                                          rotate_left
                                          · simp only [Act.put, List.setIfInBounds_toArray, List.set_cons_zero, List.set_cons_succ, i64_w, i32_w]
                                            rfl
                                          refine pure_ (i := 2) (N := some 92) (v := undef) (a' := ?_) #[true, true, true, false, false, false, false, false, false, false, false, false] rfl rfl (any_of HT_.out (by kernel_rfl)) (fun _ _ _ h => h) (Or.inr ⟨by rfl, rfl⟩) ?_ ?_
                                          rotate_left
                                          · simp only [Act.put, List.setIfInBounds_toArray, List.set_cons_zero, List.set_cons_succ, i64_w, i32_w]
                                            rfl
                                          refine pure_ (i := 3) (N := some 93) (v := undef) (a' := ?_) #[true, true, true, true, false, false, false, false, false, false, false, false] rfl rfl (any_of HT_.out (by kernel_rfl)) (fun _ _ _ h => h) (Or.inr ⟨by rfl, rfl⟩) ?_ ?_
                                          rotate_left
                                          · simp only [Act.put, List.setIfInBounds_toArray, List.set_cons_zero, List.set_cons_succ, i64_w, i32_w]
                                            rfl
                                          refine pure_ (i := 4) (N := some 94) (v := undef) (a' := ?_) #[true, true, true, true, true, false, false, false, false, false, false, false] rfl rfl (any_of HT_.out (by kernel_rfl)) (fun _ _ _ h => h) (Or.inr ⟨by rfl, rfl⟩) ?_ ?_
                                          rotate_left
                                          · simp only [Act.put, List.setIfInBounds_toArray, List.set_cons_zero, List.set_cons_succ, i64_w, i32_w]
                                            rfl
                                          refine pure_ (i := 5) (N := some 95) (v := undef) (a' := ?_) #[true, true, true, true, true, true, false, false, false, false, false, false] rfl rfl (any_of HT_.out (by kernel_rfl)) (fun _ _ _ h => h) (Or.inr ⟨by rfl, rfl⟩) ?_ ?_
                                          rotate_left
                                          · simp only [Act.put, List.setIfInBounds_toArray, List.set_cons_zero, List.set_cons_succ, i64_w, i32_w]
                                            rfl
                                          refine pure_ (i := 6) (N := some 96) (v := undef) (a' := ?_) #[true, true, true, true, true, true, true, false, false, false, false, false] rfl rfl (any_of HT_.out (by kernel_rfl)) (fun _ _ _ h => h) (Or.inr ⟨by rfl, rfl⟩) ?_ ?_
                                          rotate_left
                                          · simp only [Act.put, List.setIfInBounds_toArray, List.set_cons_zero, List.set_cons_succ, i64_w, i32_w]
                                            rfl
                                          refine pure_ (i := 7) (N := some 97) (v := undef) (a' := ?_) #[true, true, true, true, true, true, true, true, false, false, false, false] rfl rfl (any_of HT_.out (by kernel_rfl)) (fun _ _ _ h => h) (Or.inr ⟨by rfl, rfl⟩) ?_ ?_
                                          rotate_left
                                          · simp only [Act.put, List.setIfInBounds_toArray, List.set_cons_zero, List.set_cons_succ, i64_w, i32_w]
                                            rfl
                                          refine pure_ (i := 8) (N := some 98) (v := undef) (a' := ?_) #[true, true, true, true, true, true, true, true, true, false, false, false] rfl rfl (any_of HT_.out (by kernel_rfl)) (fun _ _ _ h => h) (Or.inr ⟨by rfl, rfl⟩) ?_ ?_
                                          rotate_left
                                          · simp only [Act.put, List.setIfInBounds_toArray, List.set_cons_zero, List.set_cons_succ, i64_w, i32_w]
                                            rfl
                                          refine pure_ (i := 9) (N := some 99) (v := undef) (a' := ?_) #[true, true, true, true, true, true, true, true, true, true, false, false] rfl rfl (any_of HT_.out (by kernel_rfl)) (fun _ _ _ h => h) (Or.inr ⟨by rfl, rfl⟩) ?_ ?_
                                          rotate_left
                                          · simp only [Act.put, List.setIfInBounds_toArray, List.set_cons_zero, List.set_cons_succ, i64_w, i32_w]
                                            rfl
                                          refine pure_ (i := 10) (N := some 100) (v := ?_) (a' := ?_) #[true, true, true, true, true, true, true, true, true, true, true, false] rfl rfl (any_of HT_.out (by kernel_rfl)) (fun _ _ _ h => h) (Or.inl ⟨by rfl, ?_⟩) ?_ ?_
                                          rotate_left
                                          · intro w'
                                            go_simp
                                            with_reducible rfl
                                          rotate_left
                                          · simp only [Act.put, List.setIfInBounds_toArray, List.set_cons_zero, List.set_cons_succ, i64_w, i32_w]
                                            rfl
                                          refine pure_ (i := 11) (N := some 14) (v := ?_) (a' := ?_) #[true, true, true, true, true, true, true, true, true, true, true, true] rfl rfl (any_of HT_.out (by kernel_rfl)) (fun _ _ _ h => h) (Or.inl ⟨by rfl, ?_⟩) ?_ ?_
                                          rotate_left
                                          · intro w'
                                            go_simp
                                            with_reducible rfl
                                          rotate_left
                                          · simp only [Act.put, List.setIfInBounds_toArray, List.set_cons_zero, List.set_cons_succ, i64_w, i32_w]
                                            rfl
                                          refine done_ (done_of HT_.out (by kernel_rfl)) ?_
                                          try go_wp2
                                          go_roundg k4
                                          case measure => have := HJ7.out; have := HK2.out; have := HJ24.out; have := HK4.out; omega
                                          case rel => exact ⟨(true), (wrap64 (x86_4 + 1)), (by first | rfl | (simp; done) | (simp [*]; done)), (by first | rfl | (simp; done) | (simp [*]; done)), H', ⟨by have := HJ7.out; have := HK2.out; have := HJ24.out; have := HK4.out; omega⟩, ⟨by (with_reducible repeat (first | apply Kd.N_alloc | apply Kd.N_drewN | apply Kd.N_drew)); exact HO_9.out⟩, ⟨by (with_reducible repeat (first | apply Kd.R_alloc | apply Kd.R_drewN | apply Kd.R_drew)); exact HO_45.out⟩, ⟨by (with_reducible repeat (first | refine blk_drewN ?_ _ | refine blk_drew ?_ | refine blk_alloc ?_ _)); exact BK187.out⟩, ⟨by (with_reducible repeat (first | refine blk_drewN ?_ _ | refine blk_drew ?_ | refine blk_alloc ?_ _)); exact BK198.out⟩, ⟨by repeat (first | (with_reducible exact HR200_3.out) | (with_reducible refine Kd.C_alloc ?_ _) | (with_reducible refine Kd.C_drewN ?_ _) | (with_reducible refine Kd.C_drew ?_) | exact HR200_3.out)⟩, ⟨by repeat (first | (with_reducible first | exact HB.out | apply below_alloc | apply pw_below_drewN | apply below_drew1 | refine below_set ?_ GE187.out | refine below_set ?_ GE198.out) | exact HB.out)⟩⟩
                                        · replace c54 := Bool.eq_false_iff.mpr c54
                                          subst c54
                                          have H1 : (if 0 ≤ a1 then (if a1 < (t189.length : Int) then ((kissgateref19_Class.f k4 ((rd_T64 t189 a1).f0) ((rd_T64 t189 a1).f1) ((rd_T64 t189 a1).f2) ((rd_T64 t189 a1).f3) a2_0 a2_1 a2_2 a2_3 a2_4 a2_5 a2_6).bind fun t203 => (kissgatelaw19_RelayBounds.l1 k4 l0 a1 t189 ((rd_T63 t194 x47_2).f0) ((rd ((rd_T64 t189 ((rd_T63 t194 x47_2).f0)).f3) x86_4) == t203) t194 (t194.length : Int) x47_2 ((rd_T64 t189 ((rd_T63 t194 x47_2).f0)).f3) (((rd_T64 t189 ((rd_T63 t194 x47_2).f0)).f3).length : Int) (wrap64 (x86_4 + 1)) a2_0 a2_1 a2_2 a2_3 a2_4 a2_5 a2_6 ((rd_T63 t194 x47_2).f0) ((rd_T63 t194 x47_2).f1.f0) ((rd_T63 t194 x47_2).f1.f1) ((rd_T63 t194 x47_2).f1.f2) ((rd_T63 t194 x47_2).f1.f3) ((rd_T63 t194 x47_2).f1.f4) ((rd_T63 t194 x47_2).f1.f5) ((rd_T63 t194 x47_2).f1.f6))) else (none)) else (none)) = some r := by rw [if_neg (show ¬ (false = true) by decide)] at H; exact H
                                          clear H
                                          have H := H1
                                          clear H1
                                          by_cases c56 : 0 ≤ a1
                                          · rw [if_pos c56] at H
                                            have c56b0 : decide (0 ≤ a1) = true := decide_eq_true c56
                                            clear c56
                                            by_cases c57 : a1 < (t189.length : Int)
                                            · rw [if_pos c57] at H
                                              have c57b0 : decide (a1 < (t189.length : Int)) = true := decide_eq_true c57
                                              clear c57
                                              replace H := Option.bind_eq_some_iff.mp H
                                              obtain ⟨t203, A580, H⟩ := H
                                              replace H : (kissgatelaw19_RelayBounds.l1 k4 l0 a1 t189 ((rd_T63 t194 x47_2).f0) ((rd ((rd_T64 t189 ((rd_T63 t194 x47_2).f0)).f3) x86_4) == t203) t194 (t194.length : Int) x47_2 ((rd_T64 t189 ((rd_T63 t194 x47_2).f0)).f3) (((rd_T64 t189 ((rd_T63 t194 x47_2).f0)).f3).length : Int) (wrap64 (x86_4 + 1)) a2_0 a2_1 a2_2 a2_3 a2_4 a2_5 a2_6 ((rd_T63 t194 x47_2).f0) ((rd_T63 t194 x47_2).f1.f0) ((rd_T63 t194 x47_2).f1.f1) ((rd_T63 t194 x47_2).f1.f2) ((rd_T63 t194 x47_2).f1.f3) ((rd_T63 t194 x47_2).f1.f4) ((rd_T63 t194 x47_2).f1.f5) ((rd_T63 t194 x47_2).f1.f6)) = some r := H
                                              have A58 := Aside0.mk A580
                                              clear A580
                                              have H' := Aside0.mk H
                                              clear H
                                              have p201 : 0 ≤ (x86_4 : Int) := of_decide_eq_true (by first | (with_reducible assumption) | assumption)
                                              have q201 : x86_4 < (((rd_T64 t189 ((rd_T63 t194 x47_2).f0)).f3).length : Int) := of_decide_eq_true (by first | (with_reducible assumption) | assumption)
                                              obtain ⟨ad201, e201, hx201_0⟩ := Kd.at_int HR200_3.out x86_4 p201 q201
                                              cases e201
                                              replace p201 := eq_true p201
                                              replace q201 := eq_true q201
                                              try go_wp2
                                              have n0_ := Aside0.mk (Kd.N_drew HO_9.out)
                                              have n1_ := Aside0.mk (Kd.R_drew HO_45.out)
                                              have n2_ := Aside0.mk (blk_drew BK187.out)
                                              have n3_ := Aside0.mk (blk_drew BK198.out)
                                              have n4_ := Aside0.mk (Kd.C_drew HR200_3.out)
                                              have n5_ := Aside0.mk (below_drew1 HB.out)
                                              clear HO_9
                                              clear HO_45
                                              clear BK187
                                              clear BK198
                                              clear HR200_3
                                              clear HB
                                              have HO_9 := n0_
                                              have HO_45 := n1_
                                              have BK187 := n2_
                                              have BK198 := n3_
                                              have HR200_3 := n4_
                                              have HB := n5_
                                              clear n0_ n1_ n2_ n3_ n4_ n5_
                                              have p202 : 0 ≤ (a1 : Int) := of_decide_eq_true (by first | (with_reducible assumption) | assumption)
                                              have q202 : a1 < (t189.length : Int) := of_decide_eq_true (by first | (with_reducible assumption) | assumption)
                                              obtain ⟨ad202, A202_3, c202_3, e202, hx202_0, hx202_1, hx202_2, hx202_3, hl202_3, hi202_3⟩ := at_T64 (Kd.N_reads' HO_9.out).2.2 a1 p202 q202
                                              obtain rfl : ad200 = ad202 := (by injection e202)
                                              obtain ⟨ce202, hce202, hMe202, hcc202⟩ := Kd.N_get HO_9.out z64 a1 p202 (by first | exact q202 | exact of_decide_eq_true (by first | (with_reducible assumption) | assumption) | (have e_ := (Kd.N_reads' HO_9.out).1; omega))
                                              obtain ⟨ua202_3, uc202_3, rfl, ul202_3, ge202_3⟩ := k64_openF hMe202
                                              have hv202_3 := hcc202 3 _ rfl
                                              rw [add_field _ _ 3 (by omega)] at hv202_3
                                              replace hv202_3 := Option.some.inj (hv202_3.symm.trans hx202_3)
                                              injection hv202_3 with hva_ hvn_ hvc_
                                              rw [hva_] at ge202_3
                                              rw [hvc_] at ul202_3
                                              have HL202_3 := Aside0.mk (show Kd.V (Kd.int .i64) 3 _ w.heap.size _ _ ((rd_T64 t189 a1).f3) from Kd.V_mk ul202_3 ge202_3)
                                              clear hva_ hvn_ hvc_ ge202_3 ul202_3
                                              clear hcc202 hce202
                                              have HR202_3 := Aside0.mk hi202_3
                                              have HC202_3 := Aside0.mk hl202_3
                                              clear hi202_3 hl202_3
                                              replace p202 := eq_true p202
                                              replace q202 := eq_true q202
                                              refine start_ (n := 12) (S := fun w' => w'.cell? ⟨gb187, 0, none⟩ = some (.int .i64 a2_0) ∧ w'.cell? ⟨gb187, 1, none⟩ = some (.int .i64 a2_1) ∧ w'.cell? ⟨gb187, 2, none⟩ = some (.bool a2_2) ∧ w'.cell? ⟨gb187, 3, none⟩ = some (.int .i64 a2_3) ∧ w'.cell? ⟨gb187, 4, none⟩ = some (.int .i64 a2_4) ∧ w'.cell? ⟨gb187, 5, none⟩ = some (.int .i64 a2_5) ∧ w'.cell? ⟨gb187, 6, none⟩ = some (.string a2_6) ∧ w'.cell? (ad200.add ((a1).toNat * 4)) = some (.int .i64 ((rd_T64 t189 a1).f0)) ∧ w'.cell? ⟨(ad200.add ((a1).toNat * 4)).block, (ad200.add ((a1).toNat * 4)).off + 1, none⟩ = some (.int .i64 ((rd_T64 t189 a1).f1)) ∧ w'.cell? ⟨(ad200.add ((a1).toNat * 4)).block, (ad200.add ((a1).toNat * 4)).off + 2, none⟩ = some (.bool ((rd_T64 t189 a1).f2)) ∧ w'.cell? ⟨(ad200.add ((a1).toNat * 4)).block, (ad200.add ((a1).toNat * 4)).off + 3, none⟩ = some (.slice A202_3 ((rd_T64 t189 a1).f3).length c202_3)) (ds := []) #[false, false, false, false, false, false, false, false, false, false, false, false] (by kernel_rfl) rfl rfl ⟨(blk_cell BK187.out 0).trans rfl, (blk_cell BK187.out 1).trans rfl, (blk_cell BK187.out 2).trans rfl, (blk_cell BK187.out 3).trans rfl, (blk_cell BK187.out 4).trans rfl, (blk_cell BK187.out 5).trans rfl, (blk_cell BK187.out 6).trans rfl, hx202_0, hx202_1, hx202_2, hx202_3⟩ (fun hHeld => ?_); refine with_tabW kissgatelaw19_RelayBounds.tab17 kissgatelaw19_RelayBounds.bits17 (fun HT_ HW_ => ?_)
                                              generalize wr.drew = w59 at HO_9 HO_45 BK187 BK198 HR200_3 HB HL202_3 HR202_3 hx202_0 hx202_1 hx202_2 hx202_3 hHeld ⊢
                                              refine pure_ (i := 0) (N := some 90) (v := ?_) (a' := ?_) #[true, false, false, false, false, false, false, false, false, false, false, false] rfl rfl (any_of HT_.out (by kernel_rfl)) (fun _ _ _ h => h) (Or.inl ⟨by rfl, ?_⟩) ?_ ?_
                                              rotate_left
                                              · intro w'
                                                go_simp
                                                with_reducible rfl
                                              rotate_left
                                              · simp only [Act.put, List.setIfInBounds_toArray, List.set_cons_zero, List.set_cons_succ, i64_w, i32_w]
                                                rfl
                                              refine pure_ (i := 1) (N := some 91) (v := ?_) (a' := ?_) #[true, true, false, false, false, false, false, false, false, false, false, false] rfl rfl (any_of HT_.out (by kernel_rfl)) (fun _ _ _ h => h) (Or.inl ⟨by rfl, ?_⟩) ?_ ?_
                                              rotate_left
                                              · intro w'
                                                go_simp
                                                with_reducible rfl
                                              rotate_left
                                              · simp only [Act.put, List.setIfInBounds_toArray, List.set_cons_zero, List.set_cons_succ, i64_w, i32_w]
                                                rfl
                                              refine pure_ (i := 2) (N := some 92) (v := ?_) (a' := ?_) #[true, true, true, false, false, false, false, false, false, false, false, false] rfl rfl (any_of HT_.out (by kernel_rfl)) (fun _ _ _ h => h) (Or.inl ⟨by rfl, ?_⟩) ?_ ?_
                                              rotate_left
                                              · intro w'
                                                go_simp
                                                with_reducible rfl
                                              rotate_left
                                              · simp only [Act.put, List.setIfInBounds_toArray, List.set_cons_zero, List.set_cons_succ, i64_w, i32_w]
                                                rfl
                                              refine pure_ (i := 3) (N := some 93) (v := ?_) (a' := ?_) #[true, true, true, true, false, false, false, false, false, false, false, false] rfl rfl (any_of HT_.out (by kernel_rfl)) (fun _ _ _ h => h) (Or.inl ⟨by rfl, ?_⟩) ?_ ?_
                                              rotate_left
                                              · intro w'
                                                go_simp
                                                with_reducible rfl
                                              rotate_left
                                              · simp only [Act.put, List.setIfInBounds_toArray, List.set_cons_zero, List.set_cons_succ, i64_w, i32_w]
                                                rfl
                                              refine pure_ (i := 4) (N := some 94) (v := ?_) (a' := ?_) #[true, true, true, true, true, false, false, false, false, false, false, false] rfl rfl (any_of HT_.out (by kernel_rfl)) (fun _ _ _ h => h) (Or.inl ⟨by rfl, ?_⟩) ?_ ?_
                                              rotate_left
                                              · intro w'
                                                go_simp
                                                with_reducible rfl
                                              rotate_left
                                              · simp only [Act.put, List.setIfInBounds_toArray, List.set_cons_zero, List.set_cons_succ, i64_w, i32_w]
                                                rfl
                                              refine pure_ (i := 5) (N := some 95) (v := ?_) (a' := ?_) #[true, true, true, true, true, true, false, false, false, false, false, false] rfl rfl (any_of HT_.out (by kernel_rfl)) (fun _ _ _ h => h) (Or.inl ⟨by rfl, ?_⟩) ?_ ?_
                                              rotate_left
                                              · intro w'
                                                go_simp
                                                with_reducible rfl
                                              rotate_left
                                              · simp only [Act.put, List.setIfInBounds_toArray, List.set_cons_zero, List.set_cons_succ, i64_w, i32_w]
                                                rfl
                                              refine take_ (i := 6) (N := some 96) (v := ?_) (a' := ?_) #[true, true, true, true, true, true, true, false, false, false, false, false] rfl rfl (take_ofW HT_.out HW_.out (by kernel_rfl)) (fun _ _ _ h => h) (Or.inl ⟨by rfl, ?_⟩) hHeld ?_ ?_
                                              rotate_left
                                              · rintro w' ⟨s0, s1, s2, s3, s4, s5, s6, s7, s8, s9, s10⟩
                                                go_simp
                                                with_reducible rfl
                                              rotate_left
                                              · simp only [Act.put, List.setIfInBounds_toArray, List.set_cons_zero, List.set_cons_succ, i64_w, i32_w]
                                                rfl
                                              refine take_ (i := 7) (N := some 97) (v := ?_) (a' := ?_) #[true, true, true, true, true, true, true, true, false, false, false, false] rfl rfl (take_ofW HT_.out HW_.out (by kernel_rfl)) (fun _ _ _ h => h) (Or.inl ⟨by rfl, ?_⟩) hHeld ?_ ?_
                                              rotate_left
                                              · rintro w' ⟨s0, s1, s2, s3, s4, s5, s6, s7, s8, s9, s10⟩
                                                go_simp
                                                with_reducible rfl
                                              rotate_left
                                              · simp only [Act.put, List.setIfInBounds_toArray, List.set_cons_zero, List.set_cons_succ, i64_w, i32_w]
                                                rfl
                                              refine one_ (i := 8) (N := some 98) #[true, true, true, true, true, true, true, true, true, false, false, false] rfl rfl (one_of HT_.out (by kernel_rfl)) (by decide) (fun K hK => ?_)
                                              refine goes_ Try.func30 (by kernel_rfl) rfl #[.agg #[.int .i64 ((rd_T64 t189 a1).f0), .int .i64 ((rd_T64 t189 a1).f1), .bool ((rd_T64 t189 a1).f2), .slice A202_3 ((rd_T64 t189 a1).f3).length c202_3], .agg #[.int .i64 a2_0, .int .i64 a2_1, .bool a2_2, .int .i64 a2_3, .int .i64 a2_4, .int .i64 a2_5, .string a2_6]] (by rfl) rfl rfl (by (try simp only [List.map_toArray, List.map_cons, List.map_nil]); first | done | rfl | (simp only [List.length_drop, List.length_take]; rfl)) ?_
                                              with_reducible refine (kissgateref19_Class.calls k4 ((rd_T64 t189 a1).f0) ((rd_T64 t189 a1).f1) ((rd_T64 t189 a1).f2) _ _ ((rd_T64 t189 a1).f3) a2_0 a2_1 a2_2 a2_3 a2_4 a2_5 a2_6 t203 _ ?side1 ?side2 A58.out).mono ?_
                                              (case side1 => repeat (first | exact (by repeat (first | (with_reducible exact HR202_3.out) | (with_reducible refine Kd.C_alloc ?_ _) | (with_reducible refine Kd.C_drewN ?_ _) | (with_reducible refine Kd.C_drew ?_) | exact HR202_3.out)) | (with_reducible refine Kd.C_alloc ?_ _) | (with_reducible refine Kd.C_drewN ?_ _) | (with_reducible refine Kd.C_drew ?_)))
                                              (case side2 => exact HC202_3.out)
                                              rintro e w60 ⟨rfl, hb⟩
                                              have HS7_ := (hb.cell (World.block_lt_of_cell? _ _ (hHeld.2.2.2.2.2.2.2.1))).trans (hHeld.2.2.2.2.2.2.2.1)
                                              have HS8_ := (hb.cell (World.block_lt_of_cell? _ _ (hHeld.2.2.2.2.2.2.2.2.1))).trans (hHeld.2.2.2.2.2.2.2.2.1)
                                              have HS9_ := (hb.cell (World.block_lt_of_cell? _ _ (hHeld.2.2.2.2.2.2.2.2.2.1))).trans (hHeld.2.2.2.2.2.2.2.2.2.1)
                                              have HS10_ := (hb.cell (World.block_lt_of_cell? _ _ (hHeld.2.2.2.2.2.2.2.2.2.2))).trans (hHeld.2.2.2.2.2.2.2.2.2.2)
                                              refine ⟨_, rfl, ?_⟩
                                              have n0_ := Aside0.mk (Kd.N_below (by (with_reducible repeat (first | apply Kd.N_alloc | apply Kd.N_drewN | apply Kd.N_drew)); exact HO_9.out) hb)
                                              have n1_ := Aside0.mk (Kd.R_below (by (with_reducible repeat (first | apply Kd.R_alloc | apply Kd.R_drewN | apply Kd.R_drew)); exact HO_45.out) hb)
                                              have n2_ := Aside0.mk (Kd.V_below (by (with_reducible repeat (first | apply Kd.V_alloc | apply Kd.V_drewN | apply Kd.V_drew)); exact HL202_3.out) hb)
                                              have n3_ := Aside0.mk (blk_below (g := gb187) (o := .cells #[.int .i64 a2_0, .int .i64 a2_1, .bool a2_2, .int .i64 a2_3, .int .i64 a2_4, .int .i64 a2_5, .string a2_6] 49 (0, 0)) (by (with_reducible repeat (first | refine blk_drewN ?_ _ | refine blk_drew ?_ | refine blk_alloc ?_ _)); exact BK187.out) hb)
                                              have n4_ := Aside0.mk (blk_below (g := gb198) (o := .cells #[.int .i64 ((rd_T63 t194 x47_2).f0), .int .i64 ((rd_T63 t194 x47_2).f1.f0), .int .i64 ((rd_T63 t194 x47_2).f1.f1), .bool ((rd_T63 t194 x47_2).f1.f2), .int .i64 ((rd_T63 t194 x47_2).f1.f3), .int .i64 ((rd_T63 t194 x47_2).f1.f4), .int .i64 ((rd_T63 t194 x47_2).f1.f5), .string ((rd_T63 t194 x47_2).f1.f6)] 63 (0, 0)) (by (with_reducible repeat (first | refine blk_drewN ?_ _ | refine blk_drew ?_ | refine blk_alloc ?_ _)); exact BK198.out) hb)
                                              have n5_ := Aside0.mk (Kd.C_below (by repeat (first | (with_reducible exact HR200_3.out) | (with_reducible refine Kd.C_alloc ?_ _) | (with_reducible refine Kd.C_drewN ?_ _) | (with_reducible refine Kd.C_drew ?_) | exact HR200_3.out)) hb)
                                              have n6_ := Aside0.mk (Kd.C_below (by repeat (first | (with_reducible exact HR202_3.out) | (with_reducible refine Kd.C_alloc ?_ _) | (with_reducible refine Kd.C_drewN ?_ _) | (with_reducible refine Kd.C_drew ?_) | exact HR202_3.out)) hb)
                                              have n7_ := Aside0.mk (below_step (by repeat (first | (with_reducible first | exact HB.out | apply below_alloc | apply pw_below_drewN | apply below_drew1 | refine below_set ?_ GE187.out | refine below_set ?_ GE198.out) | exact HB.out)) hb)
                                              clear HO_9
                                              clear HO_45
                                              clear HL202_3
                                              clear BK187
                                              clear BK198
                                              clear HR200_3
                                              clear HR202_3
                                              clear HB
                                              have HO_9 := n0_
                                              have HO_45 := n1_
                                              have HL202_3 := n2_
                                              have BK187 := n3_
                                              have BK198 := n4_
                                              have HR200_3 := n5_
                                              have HR202_3 := n6_
                                              have HB := n7_
                                              clear n0_ n1_ n2_ n3_ n4_ n5_ n6_ n7_
                                              (try clear hb)
                                              (try clear hb2)
                                              (try clear hk)
                                              (try clear hi)
                                              refine hK.out _ _ ⟨(blk_cell BK187.out 0).trans rfl, (blk_cell BK187.out 1).trans rfl, (blk_cell BK187.out 2).trans rfl, (blk_cell BK187.out 3).trans rfl, (blk_cell BK187.out 4).trans rfl, (blk_cell BK187.out 5).trans rfl, (blk_cell BK187.out 6).trans rfl, HS7_, HS8_, HS9_, HS10_⟩ (fun hHeld => ?_)
                                              clear hK K
                                              refine norm_ (a' := ?_) ?_ ?_
                                              rotate_left
                                              · show Act.put _ (some 98) _ = _
                                                simp only [Act.put, List.setIfInBounds_toArray, List.set_cons_zero, List.set_cons_succ, i64_w, i32_w]
                                                rfl
                                              refine pure_ (i := 9) (N := some 99) (v := ?_) (a' := ?_) #[true, true, true, true, true, true, true, true, true, true, false, false] rfl rfl (any_of HT_.out (by kernel_rfl)) (fun _ _ _ h => h) (Or.inl ⟨by rfl, ?_⟩) ?_ ?_
                                              rotate_left
                                              · intro w'
                                                go_simp
                                                with_reducible rfl
                                              rotate_left
                                              · simp only [Act.put, List.setIfInBounds_toArray, List.set_cons_zero, List.set_cons_succ, i64_w, i32_w]
                                                rfl
                                              refine pure_ (i := 10) (N := some 100) (v := ?_) (a' := ?_) #[true, true, true, true, true, true, true, true, true, true, true, false] rfl rfl (any_of HT_.out (by kernel_rfl)) (fun _ _ _ h => h) (Or.inl ⟨by rfl, ?_⟩) ?_ ?_
                                              rotate_left
                                              · intro w'
                                                go_simp
                                                with_reducible rfl
                                              rotate_left
                                              · simp only [Act.put, List.setIfInBounds_toArray, List.set_cons_zero, List.set_cons_succ, i64_w, i32_w]
                                                rfl
                                              refine pure_ (i := 11) (N := some 14) (v := ?_) (a' := ?_) #[true, true, true, true, true, true, true, true, true, true, true, true] rfl rfl (any_of HT_.out (by kernel_rfl)) (fun _ _ _ h => h) (Or.inl ⟨by rfl, ?_⟩) ?_ ?_
                                              rotate_left
                                              · intro w'
                                                go_simp
                                                with_reducible rfl
                                              rotate_left
                                              · simp only [Act.put, List.setIfInBounds_toArray, List.set_cons_zero, List.set_cons_succ, i64_w, i32_w]
                                                rfl
                                              refine done_ (done_of HT_.out (by kernel_rfl)) ?_
                                              try go_wp2
                                              go_roundg k4
                                              case measure => have := HJ7.out; have := HK2.out; have := HJ24.out; have := HK4.out; omega
                                              case rel => exact ⟨(((rd ((rd_T64 t189 ((rd_T63 t194 x47_2).f0)).f3) x86_4) == t203)), (wrap64 (x86_4 + 1)), (by first | rfl | (simp; done) | (simp [*]; done)), (by first | rfl | (simp; done) | (simp [*]; done)), H', ⟨by have := HJ7.out; have := HK2.out; have := HJ24.out; have := HK4.out; omega⟩, ⟨by (with_reducible repeat (first | apply Kd.N_alloc | apply Kd.N_drewN | apply Kd.N_drew)); exact HO_9.out⟩, ⟨by (with_reducible repeat (first | apply Kd.R_alloc | apply Kd.R_drewN | apply Kd.R_drew)); exact HO_45.out⟩, ⟨by (with_reducible repeat (first | refine blk_drewN ?_ _ | refine blk_drew ?_ | refine blk_alloc ?_ _)); exact BK187.out⟩, ⟨by (with_reducible repeat (first | refine blk_drewN ?_ _ | refine blk_drew ?_ | refine blk_alloc ?_ _)); exact BK198.out⟩, ⟨by repeat (first | (with_reducible exact HR200_3.out) | (with_reducible refine Kd.C_alloc ?_ _) | (with_reducible refine Kd.C_drewN ?_ _) | (with_reducible refine Kd.C_drew ?_) | exact HR200_3.out)⟩, ⟨by repeat (first | (with_reducible first | exact HB.out | apply below_alloc | apply pw_below_drewN | apply below_drew1 | refine below_set ?_ GE187.out | refine below_set ?_ GE198.out) | exact HB.out)⟩⟩
                                            · rw [if_neg c57] at H
                                              exact absurd H (by simp)
                                          · rw [if_neg c56] at H
                                            exact absurd H (by simp)
                                      · rw [if_neg c53] at H
                                        exact absurd H (by simp)
                                    · rw [if_neg c52] at H
                                      exact absurd H (by simp)
                                  · rw [if_neg c51] at H
                                    have c51b0 : decide (x86_4 < (((rd_T64 t189 ((rd_T63 t194 x47_2).f0)).f3).length : Int)) = false := decide_eq_false c51
                                    clear c51
                                    by_cases c61 : x14_4 = true
                                    · subst c61
                                      have H1 : (if ((rd_T63 t194 x47_2).f1.f6).toList = a2_6.toList then (if ((rd_T63 t194 x47_2).f1.f0) = a2_0 then (if ((rd_T63 t194 x47_2).f1.f1) = a2_1 then (kissgatelaw19_RelayBounds.l0 k4 l0 a1 t189 ((rd_T63 t194 x47_2).f0) t194 (t194.length : Int) (wrap64 (x47_2 + 1)) a2_0 a2_1 a2_2 a2_3 a2_4 a2_5 a2_6) else (some false)) else (some false)) else (some false)) = some r := by rw [if_pos rfl] at H; exact H
                                      clear H
                                      have H := H1
                                      clear H1
                                      by_cases c62 : ((rd_T63 t194 x47_2).f1.f6).toList = a2_6.toList
                                      · rw [if_pos c62] at H
                                        have c62b0 : (((rd_T63 t194 x47_2).f1.f6).toList == a2_6.toList) = true := beq_iff_eq.mpr c62
                                        have c62b1 : (((rd_T63 t194 x47_2).f1.f6).toList != a2_6.toList) = false := bne_eq_false_iff_eq.mpr c62
                                        clear c62
                                        by_cases c63 : ((rd_T63 t194 x47_2).f1.f0) = a2_0
                                        · rw [if_pos c63] at H
                                          have c63b0 : (((rd_T63 t194 x47_2).f1.f0) == a2_0) = true := beq_iff_eq.mpr c63
                                          have c63b1 : (((rd_T63 t194 x47_2).f1.f0) != a2_0) = false := bne_eq_false_iff_eq.mpr c63
                                          clear c63
                                          by_cases c64 : ((rd_T63 t194 x47_2).f1.f1) = a2_1
                                          · rw [if_pos c64] at H
                                            have c64b0 : (((rd_T63 t194 x47_2).f1.f1) == a2_1) = true := beq_iff_eq.mpr c64
                                            have c64b1 : (((rd_T63 t194 x47_2).f1.f1) != a2_1) = false := bne_eq_false_iff_eq.mpr c64
                                            clear c64
                                            have H' := Aside0.mk H
                                            clear H
                                            have hnb65 := NB198_187.out
                                            have hnc65 := NB187_198.out
                                            have hcz66_0 : wr.cell? ⟨gb198, 0, none⟩ = some (.int .i64 ((rd_T63 t194 x47_2).f0)) := (blk_cell BK198.out 0).trans rfl
                                            have hcz66_1 : wr.cell? ⟨gb198, 1, none⟩ = some (.int .i64 ((rd_T63 t194 x47_2).f1.f0)) := (blk_cell BK198.out 1).trans rfl
                                            have hcz66_2 : wr.cell? ⟨gb198, 2, none⟩ = some (.int .i64 ((rd_T63 t194 x47_2).f1.f1)) := (blk_cell BK198.out 2).trans rfl
                                            have hcz66_3 : wr.cell? ⟨gb198, 3, none⟩ = some (.bool ((rd_T63 t194 x47_2).f1.f2)) := (blk_cell BK198.out 3).trans rfl
                                            have hcz66_4 : wr.cell? ⟨gb198, 4, none⟩ = some (.int .i64 ((rd_T63 t194 x47_2).f1.f3)) := (blk_cell BK198.out 4).trans rfl
                                            have hcz66_5 : wr.cell? ⟨gb198, 5, none⟩ = some (.int .i64 ((rd_T63 t194 x47_2).f1.f4)) := (blk_cell BK198.out 5).trans rfl
                                            have hcz66_6 : wr.cell? ⟨gb198, 6, none⟩ = some (.int .i64 ((rd_T63 t194 x47_2).f1.f5)) := (blk_cell BK198.out 6).trans rfl
                                            have hcz66_7 : wr.cell? ⟨gb198, 7, none⟩ = some (.string ((rd_T63 t194 x47_2).f1.f6)) := (blk_cell BK198.out 7).trans rfl
                                            have hfz66_0 := blk_frozen BK198.out 0
                                            have hfz66_1 := blk_frozen BK198.out 1
                                            have hfz66_2 := blk_frozen BK198.out 2
                                            have hfz66_3 := blk_frozen BK198.out 3
                                            have hfz66_4 := blk_frozen BK198.out 4
                                            have hfz66_5 := blk_frozen BK198.out 5
                                            have hfz66_6 := blk_frozen BK198.out 6
                                            have hfz66_7 := blk_frozen BK198.out 7
                                            have hcz67_0 : wr.cell? ⟨gb187, 0, none⟩ = some (.int .i64 a2_0) := (blk_cell BK187.out 0).trans rfl
                                            have hcz67_1 : wr.cell? ⟨gb187, 1, none⟩ = some (.int .i64 a2_1) := (blk_cell BK187.out 1).trans rfl
                                            have hcz67_2 : wr.cell? ⟨gb187, 2, none⟩ = some (.bool a2_2) := (blk_cell BK187.out 2).trans rfl
                                            have hcz67_3 : wr.cell? ⟨gb187, 3, none⟩ = some (.int .i64 a2_3) := (blk_cell BK187.out 3).trans rfl
                                            have hcz67_4 : wr.cell? ⟨gb187, 4, none⟩ = some (.int .i64 a2_4) := (blk_cell BK187.out 4).trans rfl
                                            have hcz67_5 : wr.cell? ⟨gb187, 5, none⟩ = some (.int .i64 a2_5) := (blk_cell BK187.out 5).trans rfl
                                            have hcz67_6 : wr.cell? ⟨gb187, 6, none⟩ = some (.string a2_6) := (blk_cell BK187.out 6).trans rfl
                                            have hfz67_0 := blk_frozen BK187.out 0
                                            have hfz67_1 := blk_frozen BK187.out 1
                                            have hfz67_2 := blk_frozen BK187.out 2
                                            have hfz67_3 := blk_frozen BK187.out 3
                                            have hfz67_4 := blk_frozen BK187.out 4
                                            have hfz67_5 := blk_frozen BK187.out 5
                                            have hfz67_6 := blk_frozen BK187.out 6
                                            go_wp2
                                            go_roundg k4
                                            case measure => have := HJ7.out; have := HK2.out; have := HJ24.out; have := HK4.out; omega
                                            case rel => exact ⟨(((rd_T63 t194 x47_2).f0)), (wrap64 (x47_2 + 1)), (by first | rfl | (simp; done) | (simp [*]; done)), (by first | rfl | (simp; done) | (simp [*]; done)), H', ⟨by have := HJ7.out; have := HK2.out; have := HJ24.out; have := HK4.out; omega⟩, ⟨by (with_reducible repeat (first | apply Kd.N_alloc | apply Kd.N_drewN | apply Kd.N_drew)); exact Kd.N_mono HO_9.out (fun _ hk => ⟨hk.1, hk.2.1⟩)⟩, ⟨by (with_reducible repeat (first | apply Kd.R_alloc | apply Kd.R_drewN | apply Kd.R_drew)); exact Kd.R_mono HO_45.out (fun _ hk => trivial)⟩, ⟨by (with_reducible repeat (first | refine blk_drewN ?_ _ | refine blk_drew ?_ | refine blk_alloc ?_ _)); exact BK187.out⟩, ⟨by repeat (first | (with_reducible first | exact HB.out | apply below_alloc | apply pw_below_drewN | apply below_drew1 | refine below_set ?_ GE187.out | refine below_set ?_ GE198.out) | exact HB.out)⟩⟩
                                          · rw [if_neg c64] at H
                                            have c64b0 : (((rd_T63 t194 x47_2).f1.f1) == a2_1) = false := beq_eq_false_iff_ne.mpr c64
                                            have c64b1 : (((rd_T63 t194 x47_2).f1.f1) != a2_1) = true := bne_iff_ne.mpr c64
                                            exact absurd (Option.some.inj H) (by rw [HRT.out]; decide)
                                        · rw [if_neg c63] at H
                                          have c63b0 : (((rd_T63 t194 x47_2).f1.f0) == a2_0) = false := beq_eq_false_iff_ne.mpr c63
                                          have c63b1 : (((rd_T63 t194 x47_2).f1.f0) != a2_0) = true := bne_iff_ne.mpr c63
                                          exact absurd (Option.some.inj H) (by rw [HRT.out]; decide)
                                      · rw [if_neg c62] at H
                                        have c62b0 : (((rd_T63 t194 x47_2).f1.f6).toList == a2_6.toList) = false := beq_eq_false_iff_ne.mpr c62
                                        have c62b1 : (((rd_T63 t194 x47_2).f1.f6).toList != a2_6.toList) = true := bne_iff_ne.mpr c62
                                        exact absurd (Option.some.inj H) (by rw [HRT.out]; decide)
                                    · replace c61 := Bool.eq_false_iff.mpr c61
                                      subst c61
                                      have H1 : (some false) = some r := by rw [if_neg (show ¬ (false = true) by decide)] at H; exact H
                                      clear H
                                      have H := H1
                                      clear H1
                                      exact absurd (Option.some.inj H) (by rw [HRT.out]; decide)
                            · rw [if_neg c47] at H
                              exact absurd H (by simp)
                          · rw [if_neg c46] at H
                            exact absurd H (by simp)
                  · rw [if_neg c24] at H
                    exact absurd H (by simp)
                · rw [if_neg c23] at H
                  exact absurd H (by simp)
              · rw [if_neg c22] at H
                have c22b0 : decide (x47_2 < (t194.length : Int)) = false := decide_eq_false c22
                clear c22
                replace H := Option.bind_eq_some_iff.mp H
                obtain ⟨t204, A770, H⟩ := H
                replace H : ((fdb_New.f).bind fun t207 => ((relay_Relay.f k2 l0 a1 a2_0 a2_1 a2_2 a2_3 a2_4 a2_5 a2_6 t207).bind fun t208 => (if (t204.length : Int) = (t208.length : Int) then (kissgatelaw19_RelayBounds.l2 k2 t204 t208 (t204.length : Int) 0) else (some false)))) = some r := H
                have A77 := Aside0.mk A770
                clear A770
                replace H := Option.bind_eq_some_iff.mp H
                obtain ⟨t207, A780, H⟩ := H
                replace H : ((relay_Relay.f k2 l0 a1 a2_0 a2_1 a2_2 a2_3 a2_4 a2_5 a2_6 t207).bind fun t208 => (if (t204.length : Int) = (t208.length : Int) then (kissgatelaw19_RelayBounds.l2 k2 t204 t208 (t204.length : Int) 0) else (some false))) = some r := H
                have A78 := Aside0.mk A780
                clear A780
                replace H := Option.bind_eq_some_iff.mp H
                obtain ⟨t208, A790, H⟩ := H
                replace H : (if (t204.length : Int) = (t208.length : Int) then (kissgatelaw19_RelayBounds.l2 k2 t204 t208 (t204.length : Int) 0) else (some false)) = some r := H
                have A79 := Aside0.mk A790
                clear A790
                by_cases c80 : (t204.length : Int) = (t208.length : Int)
                · rw [if_pos c80] at H
                  have c80b0 : ((t204.length : Int) == (t208.length : Int)) = true := beq_iff_eq.mpr c80
                  have c80b1 : ((t204.length : Int) != (t208.length : Int)) = false := bne_eq_false_iff_eq.mpr c80
                  have c80b2 : (t204.length == t208.length) = true := by first | simpa using c80 | (simp at c80 ⊢; omega)
                  clear c80
                  have H' := Aside0.mk H
                  clear H
                  try go_wp2
                  have n0_ := Aside0.mk (Kd.N_drew HO_9.out)
                  have n1_ := Aside0.mk (Kd.R_drew HO_45.out)
                  have n2_ := Aside0.mk (blk_drew BK187.out)
                  have n3_ := Aside0.mk (below_drew1 HB.out)
                  clear HO_9
                  clear HO_45
                  clear BK187
                  clear HB
                  have HO_9 := n0_
                  have HO_45 := n1_
                  have BK187 := n2_
                  have HB := n3_
                  clear n0_ n1_ n2_ n3_
                  refine start_ (n := 11) (S := fun w' => w'.cell? ⟨gb187, 0, none⟩ = some (.int .i64 a2_0) ∧ w'.cell? ⟨gb187, 1, none⟩ = some (.int .i64 a2_1) ∧ w'.cell? ⟨gb187, 2, none⟩ = some (.bool a2_2) ∧ w'.cell? ⟨gb187, 3, none⟩ = some (.int .i64 a2_3) ∧ w'.cell? ⟨gb187, 4, none⟩ = some (.int .i64 a2_4) ∧ w'.cell? ⟨gb187, 5, none⟩ = some (.int .i64 a2_5) ∧ w'.cell? ⟨gb187, 6, none⟩ = some (.string a2_6)) (ds := []) #[false, false, false, false, false, false, false, false, false, false, false] (by kernel_rfl) rfl rfl ⟨(blk_cell BK187.out 0).trans rfl, (blk_cell BK187.out 1).trans rfl, (blk_cell BK187.out 2).trans rfl, (blk_cell BK187.out 3).trans rfl, (blk_cell BK187.out 4).trans rfl, (blk_cell BK187.out 5).trans rfl, (blk_cell BK187.out 6).trans rfl⟩ (fun hHeld => ?_); refine with_tabW kissgatelaw19_RelayBounds.tab22 kissgatelaw19_RelayBounds.bits22 (fun HT_ HW_ => ?_)
                  generalize wr.drew = w81 at HO_9 HO_45 BK187 HB hHeld ⊢
                  refine pure_ (i := 0) (N := some 129) (v := ?_) (a' := ?_) #[true, false, false, false, false, false, false, false, false, false, false] rfl rfl (any_of HT_.out (by kernel_rfl)) (fun _ _ _ h => h) (Or.inl ⟨by rfl, ?_⟩) ?_ ?_
                  rotate_left
                  · intro w'
                    go_simp
                    with_reducible rfl
                  rotate_left
                  · simp only [Act.put, List.setIfInBounds_toArray, List.set_cons_zero, List.set_cons_succ, i64_w, i32_w]
                    rfl
                  refine pure_ (i := 1) (N := some 130) (v := ?_) (a' := ?_) #[true, true, false, false, false, false, false, false, false, false, false] rfl rfl (any_of HT_.out (by kernel_rfl)) (fun _ _ _ h => h) (Or.inl ⟨by rfl, ?_⟩) ?_ ?_
                  rotate_left
                  · intro w'
                    go_simp
                    with_reducible rfl
                  rotate_left
                  · simp only [Act.put, List.setIfInBounds_toArray, List.set_cons_zero, List.set_cons_succ, i64_w, i32_w]
                    rfl
                  refine pure_ (i := 4) (N := some 133) (v := ?_) (a' := ?_) #[true, true, false, false, true, false, false, false, false, false, false] rfl rfl (any_of HT_.out (by kernel_rfl)) (fun _ _ _ h => h) (Or.inl ⟨by rfl, ?_⟩) ?_ ?_
                  rotate_left
                  · intro w'
                    go_simp
                    with_reducible rfl
                  rotate_left
                  · simp only [Act.put, List.setIfInBounds_toArray, List.set_cons_zero, List.set_cons_succ, i64_w, i32_w]
                    rfl
                  refine pure_ (i := 5) (N := some 134) (v := ?_) (a' := ?_) #[true, true, false, false, true, true, false, false, false, false, false] rfl rfl (any_of HT_.out (by kernel_rfl)) (fun _ _ _ h => h) (Or.inl ⟨by rfl, ?_⟩) ?_ ?_
                  rotate_left
                  · intro w'
                    go_simp
                    with_reducible rfl
                  rotate_left
                  · simp only [Act.put, List.setIfInBounds_toArray, List.set_cons_zero, List.set_cons_succ, i64_w, i32_w]
                    rfl
                  refine take_ (i := 2) (N := some 131) (v := ?_) (a' := ?_) #[true, true, true, false, true, true, false, false, false, false, false] rfl rfl (take_ofW HT_.out HW_.out (by kernel_rfl)) (fun _ _ _ h => h) (Or.inl ⟨by rfl, ?_⟩) hHeld ?_ ?_
                  rotate_left
                  · rintro w' ⟨s0, s1, s2, s3, s4, s5, s6⟩
                    go_simp
                    with_reducible rfl
                  rotate_left
                  · simp only [Act.put, List.setIfInBounds_toArray, List.set_cons_zero, List.set_cons_succ, i64_w, i32_w]
                    rfl
                  refine take_ (i := 6) (N := some 135) (v := ?_) (a' := ?_) #[true, true, true, false, true, true, true, false, false, false, false] rfl rfl (take_ofW HT_.out HW_.out (by kernel_rfl)) (fun _ _ _ h => h) (Or.inl ⟨by rfl, ?_⟩) hHeld ?_ ?_
                  rotate_left
                  · rintro w' ⟨s0, s1, s2, s3, s4, s5, s6⟩
                    go_simp
                    with_reducible rfl
                  rotate_left
                  · simp only [Act.put, List.setIfInBounds_toArray, List.set_cons_zero, List.set_cons_succ, i64_w, i32_w]
                    rfl
                  refine one_ (i := 3) (N := some 132) #[true, true, true, true, true, true, true, false, false, false, false] rfl rfl (one_of HT_.out (by kernel_rfl)) (by decide) (fun K hK => ?_)
                  refine goes_ Try.func27 (by kernel_rfl) rfl #[.slice A0 l0.length c0, .int .i64 a1, .agg #[.int .i64 a2_0, .int .i64 a2_1, .bool a2_2, .int .i64 a2_3, .int .i64 a2_4, .int .i64 a2_5, .string a2_6], .pointer none] (by rfl) rfl rfl (by (try simp only [List.map_toArray, List.map_cons, List.map_nil]); first | done | rfl | (simp only [List.length_drop, List.length_take]; rfl)) ?_
                  with_reducible refine (relay_Relay.calls k2 _ _ l0 a1 a2_0 a2_1 a2_2 a2_3 a2_4 a2_5 a2_6 _ ([] : List S84) t204 _ ?side1 ?side2 ?side3 A77.out).mono ?_
                  (case side1 => repeat (first | exact (Kd.C_below HR0.out HB.out) | (with_reducible refine Kd.C_alloc ?_ _) | (with_reducible refine Kd.C_drewN ?_ _) | (with_reducible refine Kd.C_drew ?_)))
                  (case side2 => exact HC0.out)
                  (case side3 => exact TabC.nil _)
                  rintro e w82 ⟨v205, rfl, ho0, hb⟩
                  refine ⟨_, rfl, ?_⟩
                  have n0_ := Aside0.mk (Kd.N_elder' (by (with_reducible repeat (first | apply Kd.N_alloc | apply Kd.N_drewN | apply Kd.N_drew)); exact HO_9.out) (Kd.R_base ho0) hb)
                  have n1_ := Aside0.mk (Kd.R_elder' (by (with_reducible repeat (first | apply Kd.R_alloc | apply Kd.R_drewN | apply Kd.R_drew)); exact HO_45.out) (Kd.R_base ho0) hb)
                  have n2_ := Aside0.mk (Kd.R_lower (Kd.R_new' ho0 (Kd.R_lt (by (with_reducible repeat (first | apply Kd.R_alloc | apply Kd.R_drewN | apply Kd.R_drew)); exact HO_45.out))) (below_size (by repeat (first | (with_reducible first | exact HB.out | apply below_alloc | apply pw_below_drewN | apply below_drew1 | refine below_set ?_ GE187.out) | exact HB.out))))
                  have n3_ := Aside0.mk (blk_below (g := gb187) (o := .cells #[.int .i64 a2_0, .int .i64 a2_1, .bool a2_2, .int .i64 a2_3, .int .i64 a2_4, .int .i64 a2_5, .string a2_6] 49 (0, 0)) (by (with_reducible repeat (first | refine blk_drewN ?_ _ | refine blk_drew ?_ | refine blk_alloc ?_ _)); exact BK187.out) hb)
                  have n4_ := Aside0.mk (below_step (by repeat (first | (with_reducible first | exact HB.out | apply below_alloc | apply pw_below_drewN | apply below_drew1 | refine below_set ?_ GE187.out) | exact HB.out)) hb)
                  clear HO_9
                  clear HO_45
                  clear BK187
                  clear HB
                  have HO_9 := n0_
                  have HO_45 := n1_
                  have HO206 := n2_
                  have BK187 := n3_
                  have HB := n4_
                  clear n0_ n1_ n2_ n3_ n4_
                  (try clear hb)
                  (try clear hb2)
                  (try clear hk)
                  (try clear hi)
                  (try clear ho0)
                  refine hK.out _ _ ⟨(blk_cell BK187.out 0).trans rfl, (blk_cell BK187.out 1).trans rfl, (blk_cell BK187.out 2).trans rfl, (blk_cell BK187.out 3).trans rfl, (blk_cell BK187.out 4).trans rfl, (blk_cell BK187.out 5).trans rfl, (blk_cell BK187.out 6).trans rfl⟩ (fun hHeld => ?_)
                  clear hK K
                  refine norm_ (a' := ?_) ?_ ?_
                  rotate_left
                  · show Act.put _ (some 132) _ = _
                    simp only [Act.put, List.setIfInBounds_toArray, List.set_cons_zero, List.set_cons_succ, i64_w, i32_w]
                    rfl
                  refine one_ (i := 7) (N := some 136) #[true, true, true, true, true, true, true, true, false, false, false] rfl rfl (one_of HT_.out (by kernel_rfl)) (by decide) (fun K hK => ?_)
                  refine goes_ Try.func28 (by kernel_rfl) rfl #[] (by rfl) rfl rfl (by (try simp only [List.map_toArray, List.map_cons, List.map_nil]); first | done | rfl | (simp only [List.length_drop, List.length_take]; rfl)) ?_
                  with_reducible refine (fdb_New.calls  t207 _ A78.out).mono ?_
                  rintro e w83 ⟨vt207, rfl, ht207, hb⟩
                  have Ht207 := Aside0.mk ht207
                  clear ht207
                  refine ⟨_, rfl, ?_⟩
                  have n0_ := Aside0.mk (Kd.N_below (by (with_reducible repeat (first | apply Kd.N_alloc | apply Kd.N_drewN | apply Kd.N_drew)); exact HO_9.out) hb)
                  have n1_ := Aside0.mk (Kd.R_below (by (with_reducible repeat (first | apply Kd.R_alloc | apply Kd.R_drewN | apply Kd.R_drew)); exact HO_45.out) hb)
                  have n2_ := Aside0.mk (Kd.R_below (by (with_reducible repeat (first | apply Kd.R_alloc | apply Kd.R_drewN | apply Kd.R_drew)); exact HO206.out) hb)
                  have n3_ := Aside0.mk (blk_below (g := gb187) (o := .cells #[.int .i64 a2_0, .int .i64 a2_1, .bool a2_2, .int .i64 a2_3, .int .i64 a2_4, .int .i64 a2_5, .string a2_6] 49 (0, 0)) (by (with_reducible repeat (first | refine blk_drewN ?_ _ | refine blk_drew ?_ | refine blk_alloc ?_ _)); exact BK187.out) hb)
                  have n4_ := Aside0.mk (below_step (by repeat (first | (with_reducible first | exact HB.out | apply below_alloc | apply pw_below_drewN | apply below_drew1 | refine below_set ?_ GE187.out) | exact HB.out)) hb)
                  clear HO_9
                  clear HO_45
                  clear HO206
                  clear BK187
                  clear HB
                  have HO_9 := n0_
                  have HO_45 := n1_
                  have HO206 := n2_
                  have BK187 := n3_
                  have HB := n4_
                  clear n0_ n1_ n2_ n3_ n4_
                  (try clear hb)
                  (try clear hb2)
                  (try clear hk)
                  (try clear hi)
                  refine hK.out _ _ ⟨(blk_cell BK187.out 0).trans rfl, (blk_cell BK187.out 1).trans rfl, (blk_cell BK187.out 2).trans rfl, (blk_cell BK187.out 3).trans rfl, (blk_cell BK187.out 4).trans rfl, (blk_cell BK187.out 5).trans rfl, (blk_cell BK187.out 6).trans rfl⟩ (fun hHeld => ?_)
                  clear hK K
                  refine norm_ (a' := ?_) ?_ ?_
                  rotate_left
                  · show Act.put _ (some 136) _ = _
                    simp only [Act.put, List.setIfInBounds_toArray, List.set_cons_zero, List.set_cons_succ, i64_w, i32_w]
                    rfl
                  refine one_ (i := 8) (N := some 137) #[true, true, true, true, true, true, true, true, true, false, false] rfl rfl (one_of HT_.out (by kernel_rfl)) (by decide) (fun K hK => ?_)
                  refine goes_ Try.func27 (by kernel_rfl) rfl #[.slice A0 l0.length c0, .int .i64 a1, .agg #[.int .i64 a2_0, .int .i64 a2_1, .bool a2_2, .int .i64 a2_3, .int .i64 a2_4, .int .i64 a2_5, .string a2_6], vt207] (by rfl) rfl rfl (by (try simp only [List.map_toArray, List.map_cons, List.map_nil]); first | done | rfl | (simp only [List.length_drop, List.length_take]; rfl)) ?_
                  with_reducible refine (relay_Relay.calls k2 _ _ l0 a1 a2_0 a2_1 a2_2 a2_3 a2_4 a2_5 a2_6 _ t207 t208 _ ?side1 ?side2 ?side3 A79.out).mono ?_
                  (case side1 => repeat (first | exact (Kd.C_below HR0.out HB.out) | (with_reducible refine Kd.C_alloc ?_ _) | (with_reducible refine Kd.C_drewN ?_ _) | (with_reducible refine Kd.C_drew ?_)))
                  (case side2 => exact HC0.out)
                  (case side3 => repeat (first | exact Ht207.out | exact TabC.below Ht207.out (by assumption) | (with_reducible refine TabC.alloc ?_ _) | (with_reducible refine TabC.drewN ?_ _) | (with_reducible refine TabC.drew ?_)))
                  rintro e w84 ⟨v209, rfl, ho0, hb⟩
                  refine ⟨_, rfl, ?_⟩
                  have n0_ := Aside0.mk (Kd.N_elder' (by (with_reducible repeat (first | apply Kd.N_alloc | apply Kd.N_drewN | apply Kd.N_drew)); exact HO_9.out) (Kd.R_base ho0) hb)
                  have n1_ := Aside0.mk (Kd.R_elder' (by (with_reducible repeat (first | apply Kd.R_alloc | apply Kd.R_drewN | apply Kd.R_drew)); exact HO_45.out) (Kd.R_base ho0) hb)
                  have n2_ := Aside0.mk (Kd.R_elder' (by (with_reducible repeat (first | apply Kd.R_alloc | apply Kd.R_drewN | apply Kd.R_drew)); exact HO206.out) (Kd.R_base ho0) hb)
                  have n3_ := Aside0.mk (Kd.R_lower (Kd.R_new' (Kd.R_new' ho0 (Kd.R_lt (by (with_reducible repeat (first | apply Kd.R_alloc | apply Kd.R_drewN | apply Kd.R_drew)); exact HO_45.out))) (Kd.R_lt (by (with_reducible repeat (first | apply Kd.R_alloc | apply Kd.R_drewN | apply Kd.R_drew)); exact HO206.out))) (below_size (by repeat (first | (with_reducible first | exact HB.out | apply below_alloc | apply pw_below_drewN | apply below_drew1 | refine below_set ?_ GE187.out) | exact HB.out))))
                  have n4_ := Aside0.mk (blk_below (g := gb187) (o := .cells #[.int .i64 a2_0, .int .i64 a2_1, .bool a2_2, .int .i64 a2_3, .int .i64 a2_4, .int .i64 a2_5, .string a2_6] 49 (0, 0)) (by (with_reducible repeat (first | refine blk_drewN ?_ _ | refine blk_drew ?_ | refine blk_alloc ?_ _)); exact BK187.out) hb)
                  have n5_ := Aside0.mk (below_step (by repeat (first | (with_reducible first | exact HB.out | apply below_alloc | apply pw_below_drewN | apply below_drew1 | refine below_set ?_ GE187.out) | exact HB.out)) hb)
                  clear HO_9
                  clear HO_45
                  clear HO206
                  clear BK187
                  clear HB
                  have HO_9 := n0_
                  have HO_45 := n1_
                  have HO206 := n2_
                  have HO210 := n3_
                  have BK187 := n4_
                  have HB := n5_
                  clear n0_ n1_ n2_ n3_ n4_ n5_
                  (try clear hb)
                  (try clear hb2)
                  (try clear hk)
                  (try clear hi)
                  (try clear ho0)
                  refine hK.out _ _ ⟨(blk_cell BK187.out 0).trans rfl, (blk_cell BK187.out 1).trans rfl, (blk_cell BK187.out 2).trans rfl, (blk_cell BK187.out 3).trans rfl, (blk_cell BK187.out 4).trans rfl, (blk_cell BK187.out 5).trans rfl, (blk_cell BK187.out 6).trans rfl⟩ (fun hHeld => ?_)
                  clear hK K
                  refine norm_ (a' := ?_) ?_ ?_
                  rotate_left
                  · show Act.put _ (some 137) _ = _
                    simp only [Act.put, List.setIfInBounds_toArray, List.set_cons_zero, List.set_cons_succ, i64_w, i32_w]
                    rfl
                  refine pure_ (i := 9) (N := some 17) (v := ?_) (a' := ?_) #[true, true, true, true, true, true, true, true, true, true, false] rfl rfl (any_of HT_.out (by kernel_rfl)) (fun _ _ _ h => h) (Or.inl ⟨by rfl, ?_⟩) ?_ ?_
                  rotate_left
                  · intro w'
                    go_simp
                    with_reducible rfl
                  rotate_left
                  · simp only [Act.put, List.setIfInBounds_toArray, List.set_cons_zero, List.set_cons_succ, i64_w, i32_w]
                    rfl
                  refine pure_ (i := 10) (N := some 18) (v := ?_) (a' := ?_) #[true, true, true, true, true, true, true, true, true, true, true] rfl rfl (any_of HT_.out (by kernel_rfl)) (fun _ _ _ h => h) (Or.inl ⟨by rfl, ?_⟩) ?_ ?_
                  rotate_left
                  · intro w'
                    go_simp
                    with_reducible rfl
                  rotate_left
                  · simp only [Act.put, List.setIfInBounds_toArray, List.set_cons_zero, List.set_cons_succ, i64_w, i32_w]
                    rfl
                  refine done_ (done_of HT_.out (by kernel_rfl)) ?_
                  obtain ⟨Ao85, co85, eo85⟩ := Kd.R_slice HO206.out
                  subst eo85
                  obtain ⟨Ao86, co86, eo86⟩ := Kd.R_slice HO210.out
                  subst eo86
                  try go_wp2
                  go_loopg [145] k2 (fun kq v145 w' => ∃ (x145_3 : Int), v145 = .int .i64 x145_3 ∧ Aside0 (kissgatelaw19_RelayBounds.l2 kq t204 t208 (t204.length : Int) x145_3 = some r) ∧ Aside0 (kq ≤ k2) ∧ Aside0 (Kd.R k63 63 w' w.heap.size (fun k_ => some k_ ≠ ((.slice Ao86 t208.length co86) : Value).ownBlock) (.slice Ao85 t204.length co85) t204) ∧ Aside0 (Kd.R k63 63 w' w.heap.size (fun k_ => some k_ ≠ ((.slice Ao85 t204.length co85) : Value).ownBlock) (.slice Ao86 t208.length co86) t208) ∧ Aside0 (w'.heap[gb187]? = some (.cells #[.int .i64 a2_0, .int .i64 a2_1, .bool a2_2, .int .i64 a2_3, .int .i64 a2_4, .int .i64 a2_5, .string a2_6] 49 (0, 0))) ∧ Aside0 (Below w.heap.size w w'))
                  case atStart => exact ⟨(0), (by first | rfl | (simp; done) | (simp [*]; done)), H', ⟨Nat.le_refl _⟩, ⟨by (with_reducible repeat (first | apply Kd.R_alloc | apply Kd.R_drewN | apply Kd.R_drew)); exact Kd.R_mono HO206.out (fun _ hk => hk.2)⟩, ⟨by (with_reducible repeat (first | apply Kd.R_alloc | apply Kd.R_drewN | apply Kd.R_drew)); exact Kd.R_mono HO210.out (fun _ hk => hk.2)⟩, ⟨by (with_reducible repeat (first | refine blk_drewN ?_ _ | refine blk_drew ?_ | refine blk_alloc ?_ _)); exact BK187.out⟩, ⟨by repeat (first | (with_reducible first | exact HB.out | apply below_alloc | apply pw_below_drewN | apply below_drew1 | refine below_set ?_ GE187.out) | exact HB.out)⟩⟩
                  case round =>
                    clear H'
                    try clear c2
                    try clear p2
                    try clear q2
                    try clear hx2
                    try clear c3
                    try clear c4
                    try clear c5
                    try clear c6
                    try clear p6
                    try clear c7
                    try clear c8
                    try clear c20
                    try clear p20
                    try clear q20
                    try clear hx20
                    try clear c22
                    try clear c22b0
                    try clear c23
                    try clear c24
                    try clear c27
                    try clear c28
                    try clear c30
                    try clear c46
                    try clear c47
                    try clear c51
                    try clear c51b0
                    try clear c52
                    try clear c53
                    try clear c56
                    try clear c57
                    try clear c61
                    try clear c62
                    try clear c62b0
                    try clear c62b1
                    try clear c63
                    try clear c63b0
                    try clear c63b1
                    try clear c64
                    try clear c64b0
                    try clear c64b1
                    try clear p64
                    try clear c65
                    try clear c68
                    try clear c71
                    try clear c74
                    try clear c80
                    try clear c80b0
                    try clear c80b1
                    try clear c80b2
                    try clear hcz66_0
                    try clear hcz66_1
                    try clear hcz66_2
                    try clear hcz66_3
                    try clear hcz66_4
                    try clear hcz66_5
                    try clear hcz66_6
                    try clear hcz66_7
                    try clear hcz67_0
                    try clear hcz67_1
                    try clear hcz67_2
                    try clear hcz67_3
                    try clear hcz67_4
                    try clear hcz67_5
                    try clear hcz67_6
                    try clear hcz69_0
                    try clear hcz69_1
                    try clear hcz69_2
                    try clear hcz69_3
                    try clear hcz69_4
                    try clear hcz69_5
                    try clear hcz69_6
                    try clear hcz69_7
                    try clear hcz70_0
                    try clear hcz70_1
                    try clear hcz70_2
                    try clear hcz70_3
                    try clear hcz70_4
                    try clear hcz70_5
                    try clear hcz70_6
                    try clear hcz72_0
                    try clear hcz72_1
                    try clear hcz72_2
                    try clear hcz72_3
                    try clear hcz72_4
                    try clear hcz72_5
                    try clear hcz72_6
                    try clear hcz72_7
                    try clear hcz73_0
                    try clear hcz73_1
                    try clear hcz73_2
                    try clear hcz73_3
                    try clear hcz73_4
                    try clear hcz73_5
                    try clear hcz73_6
                    try clear hcz75_0
                    try clear hcz75_1
                    try clear hcz75_2
                    try clear hcz75_3
                    try clear hcz75_4
                    try clear hcz75_5
                    try clear hcz75_6
                    try clear hcz75_7
                    try clear hcz76_0
                    try clear hcz76_1
                    try clear hcz76_2
                    try clear hcz76_3
                    try clear hcz76_4
                    try clear hcz76_5
                    try clear hcz76_6
                    try clear hfz66_0
                    try clear hfz66_1
                    try clear hfz66_2
                    try clear hfz66_3
                    try clear hfz66_4
                    try clear hfz66_5
                    try clear hfz66_6
                    try clear hfz66_7
                    try clear hfz67_0
                    try clear hfz67_1
                    try clear hfz67_2
                    try clear hfz67_3
                    try clear hfz67_4
                    try clear hfz67_5
                    try clear hfz67_6
                    try clear hfz69_0
                    try clear hfz69_1
                    try clear hfz69_2
                    try clear hfz69_3
                    try clear hfz69_4
                    try clear hfz69_5
                    try clear hfz69_6
                    try clear hfz69_7
                    try clear hfz70_0
                    try clear hfz70_1
                    try clear hfz70_2
                    try clear hfz70_3
                    try clear hfz70_4
                    try clear hfz70_5
                    try clear hfz70_6
                    try clear hfz72_0
                    try clear hfz72_1
                    try clear hfz72_2
                    try clear hfz72_3
                    try clear hfz72_4
                    try clear hfz72_5
                    try clear hfz72_6
                    try clear hfz72_7
                    try clear hfz73_0
                    try clear hfz73_1
                    try clear hfz73_2
                    try clear hfz73_3
                    try clear hfz73_4
                    try clear hfz73_5
                    try clear hfz73_6
                    try clear hfz75_0
                    try clear hfz75_1
                    try clear hfz75_2
                    try clear hfz75_3
                    try clear hfz75_4
                    try clear hfz75_5
                    try clear hfz75_6
                    try clear hfz75_7
                    try clear hfz76_0
                    try clear hfz76_1
                    try clear hfz76_2
                    try clear hfz76_3
                    try clear hfz76_4
                    try clear hfz76_5
                    try clear hfz76_6
                    try clear hx202_0
                    try clear hx202_1
                    try clear hx202_2
                    try clear hx202_3
                    try clear p202
                    try clear q202
                    obtain ⟨x145_3, rfl, HA, HK3, HO_17, HO_18, BK187, HB⟩ := hrel
                    cases gk with
                    | zero => exact absurd HA.out (by simp [kissgatelaw19_RelayBounds.l2])
                    | succ k3 =>
                      have H := HA.out
                      clear HA
                      simp only [kissgatelaw19_RelayBounds.l2] at H
                      by_cases c87 : x145_3 < (t204.length : Int)
                      · rw [if_pos c87] at H
                        have c87b0 : decide (x145_3 < (t204.length : Int)) = true := decide_eq_true c87
                        clear c87
                        by_cases c88 : 0 ≤ x145_3
                        · rw [if_pos c88] at H
                          have c88b0 : decide (0 ≤ x145_3) = true := decide_eq_true c88
                          clear c88
                          by_cases c89 : x145_3 < (t204.length : Int)
                          · rw [if_pos c89] at H
                            have c89b0 : decide (x145_3 < (t204.length : Int)) = true := decide_eq_true c89
                            clear c89
                            by_cases c90 : x145_3 < (t208.length : Int)
                            · rw [if_pos c90] at H
                              have c90b0 : decide (x145_3 < (t208.length : Int)) = true := decide_eq_true c90
                              clear c90
                              by_cases c91 : (!(((rd_T63 t204 x145_3).f0) == ((rd_T63 t208 x145_3).f0)) || ((!(((rd_T63 t204 x145_3).f1.f0) == ((rd_T63 t208 x145_3).f1.f0)) || (!(((rd_T63 t204 x145_3).f1.f1) == ((rd_T63 t208 x145_3).f1.f1)) || (!(((rd_T63 t204 x145_3).f1.f2) == ((rd_T63 t208 x145_3).f1.f2)) || (!(((rd_T63 t204 x145_3).f1.f3) == ((rd_T63 t208 x145_3).f1.f3)) || (!(((rd_T63 t204 x145_3).f1.f4) == ((rd_T63 t208 x145_3).f1.f4)) || (!(((rd_T63 t204 x145_3).f1.f5) == ((rd_T63 t208 x145_3).f1.f5)) || (!((((rd_T63 t204 x145_3).f1.f6).toList) == (((rd_T63 t208 x145_3).f1.f6).toList))))))))))) = true
                              · rw [if_pos c91] at H
                                have c91b0 : (!(((rd_T63 t204 x145_3).f0) == ((rd_T63 t208 x145_3).f0)) || ((!(((rd_T63 t204 x145_3).f1.f0) == ((rd_T63 t208 x145_3).f1.f0)) || (!(((rd_T63 t204 x145_3).f1.f1) == ((rd_T63 t208 x145_3).f1.f1)) || (!(((rd_T63 t204 x145_3).f1.f2) == ((rd_T63 t208 x145_3).f1.f2)) || (!(((rd_T63 t204 x145_3).f1.f3) == ((rd_T63 t208 x145_3).f1.f3)) || (!(((rd_T63 t204 x145_3).f1.f4) == ((rd_T63 t208 x145_3).f1.f4)) || (!(((rd_T63 t204 x145_3).f1.f5) == ((rd_T63 t208 x145_3).f1.f5)) || (!((((rd_T63 t204 x145_3).f1.f6).toList) == (((rd_T63 t208 x145_3).f1.f6).toList))))))))))) = true := c91
                                clear c91
                                exact absurd (Option.some.inj H) (by rw [HRT.out]; decide)
                              · rw [if_neg c91] at H
                                have c91b0 : (!(((rd_T63 t204 x145_3).f0) == ((rd_T63 t208 x145_3).f0)) || ((!(((rd_T63 t204 x145_3).f1.f0) == ((rd_T63 t208 x145_3).f1.f0)) || (!(((rd_T63 t204 x145_3).f1.f1) == ((rd_T63 t208 x145_3).f1.f1)) || (!(((rd_T63 t204 x145_3).f1.f2) == ((rd_T63 t208 x145_3).f1.f2)) || (!(((rd_T63 t204 x145_3).f1.f3) == ((rd_T63 t208 x145_3).f1.f3)) || (!(((rd_T63 t204 x145_3).f1.f4) == ((rd_T63 t208 x145_3).f1.f4)) || (!(((rd_T63 t204 x145_3).f1.f5) == ((rd_T63 t208 x145_3).f1.f5)) || (!((((rd_T63 t204 x145_3).f1.f6).toList) == (((rd_T63 t208 x145_3).f1.f6).toList))))))))))) = false := by simpa using c91
                                clear c91
                                have H' := Aside0.mk H
                                clear H
                                try go_wp2
                                have n0_ := Aside0.mk (Kd.R_drew HO_17.out)
                                have n1_ := Aside0.mk (Kd.R_drew HO_18.out)
                                have n2_ := Aside0.mk (blk_drew BK187.out)
                                have n3_ := Aside0.mk (below_drew1 HB.out)
                                clear HO_17
                                clear HO_18
                                clear BK187
                                clear HB
                                have HO_17 := n0_
                                have HO_18 := n1_
                                have BK187 := n2_
                                have HB := n3_
                                clear n0_ n1_ n2_ n3_
                                have p211 : 0 ≤ (x145_3 : Int) := of_decide_eq_true (by first | (with_reducible assumption) | assumption)
                                have q211 : x145_3 < (t204.length : Int) := of_decide_eq_true (by first | (with_reducible assumption) | assumption)
                                obtain ⟨ad211, e211, hx211_0, hx211_1, hx211_2, hx211_3, hx211_4, hx211_5, hx211_6, hx211_7⟩ := at_T63 (Kd.R_reads' HO_17.out).2.2 x145_3 p211 q211
                                cases e211
                                replace p211 := eq_true p211
                                replace q211 := eq_true q211
                                have p212 : 0 ≤ (x145_3 : Int) := of_decide_eq_true (by first | (with_reducible assumption) | assumption)
                                have q212 : x145_3 < (t208.length : Int) := of_decide_eq_true (by first | (with_reducible assumption) | assumption)
                                obtain ⟨ad212, e212, hx212_0, hx212_1, hx212_2, hx212_3, hx212_4, hx212_5, hx212_6, hx212_7⟩ := at_T63 (Kd.R_reads' HO_18.out).2.2 x145_3 p212 q212
                                cases e212
                                replace p212 := eq_true p212
                                replace q212 := eq_true q212
                                refine start_ (n := 9) (S := fun w' => w'.cell? (ad211.add ((x145_3).toNat * 8)) = some (.int .i64 ((rd_T63 t204 x145_3).f0)) ∧ w'.cell? ⟨(ad211.add ((x145_3).toNat * 8)).block, (ad211.add ((x145_3).toNat * 8)).off + 1, none⟩ = some (.int .i64 ((rd_T63 t204 x145_3).f1.f0)) ∧ w'.cell? ⟨(ad211.add ((x145_3).toNat * 8)).block, (ad211.add ((x145_3).toNat * 8)).off + 2, none⟩ = some (.int .i64 ((rd_T63 t204 x145_3).f1.f1)) ∧ w'.cell? ⟨(ad211.add ((x145_3).toNat * 8)).block, (ad211.add ((x145_3).toNat * 8)).off + 3, none⟩ = some (.bool ((rd_T63 t204 x145_3).f1.f2)) ∧ w'.cell? ⟨(ad211.add ((x145_3).toNat * 8)).block, (ad211.add ((x145_3).toNat * 8)).off + 4, none⟩ = some (.int .i64 ((rd_T63 t204 x145_3).f1.f3)) ∧ w'.cell? ⟨(ad211.add ((x145_3).toNat * 8)).block, (ad211.add ((x145_3).toNat * 8)).off + 5, none⟩ = some (.int .i64 ((rd_T63 t204 x145_3).f1.f4)) ∧ w'.cell? ⟨(ad211.add ((x145_3).toNat * 8)).block, (ad211.add ((x145_3).toNat * 8)).off + 6, none⟩ = some (.int .i64 ((rd_T63 t204 x145_3).f1.f5)) ∧ w'.cell? ⟨(ad211.add ((x145_3).toNat * 8)).block, (ad211.add ((x145_3).toNat * 8)).off + 7, none⟩ = some (.string ((rd_T63 t204 x145_3).f1.f6)) ∧ w'.cell? (ad212.add ((x145_3).toNat * 8)) = some (.int .i64 ((rd_T63 t208 x145_3).f0)) ∧ w'.cell? ⟨(ad212.add ((x145_3).toNat * 8)).block, (ad212.add ((x145_3).toNat * 8)).off + 1, none⟩ = some (.int .i64 ((rd_T63 t208 x145_3).f1.f0)) ∧ w'.cell? ⟨(ad212.add ((x145_3).toNat * 8)).block, (ad212.add ((x145_3).toNat * 8)).off + 2, none⟩ = some (.int .i64 ((rd_T63 t208 x145_3).f1.f1)) ∧ w'.cell? ⟨(ad212.add ((x145_3).toNat * 8)).block, (ad212.add ((x145_3).toNat * 8)).off + 3, none⟩ = some (.bool ((rd_T63 t208 x145_3).f1.f2)) ∧ w'.cell? ⟨(ad212.add ((x145_3).toNat * 8)).block, (ad212.add ((x145_3).toNat * 8)).off + 4, none⟩ = some (.int .i64 ((rd_T63 t208 x145_3).f1.f3)) ∧ w'.cell? ⟨(ad212.add ((x145_3).toNat * 8)).block, (ad212.add ((x145_3).toNat * 8)).off + 5, none⟩ = some (.int .i64 ((rd_T63 t208 x145_3).f1.f4)) ∧ w'.cell? ⟨(ad212.add ((x145_3).toNat * 8)).block, (ad212.add ((x145_3).toNat * 8)).off + 6, none⟩ = some (.int .i64 ((rd_T63 t208 x145_3).f1.f5)) ∧ w'.cell? ⟨(ad212.add ((x145_3).toNat * 8)).block, (ad212.add ((x145_3).toNat * 8)).off + 7, none⟩ = some (.string ((rd_T63 t208 x145_3).f1.f6))) (ds := []) #[false, false, false, false, false, false, false, false, false] (by kernel_rfl) rfl rfl ⟨hx211_0, hx211_1, hx211_2, hx211_3, hx211_4, hx211_5, hx211_6, hx211_7, hx212_0, hx212_1, hx212_2, hx212_3, hx212_4, hx212_5, hx212_6, hx212_7⟩ (fun hHeld => ?_); refine with_tabW kissgatelaw19_RelayBounds.tab28 kissgatelaw19_RelayBounds.bits28 (fun HT_ HW_ => ?_)
                                generalize wr.drew = w93 at HO_17 HO_18 BK187 HB hx211_0 hx211_1 hx211_2 hx211_3 hx211_4 hx211_5 hx211_6 hx211_7 hx212_0 hx212_1 hx212_2 hx212_3 hx212_4 hx212_5 hx212_6 hx212_7 hHeld ⊢
                                refine pure_ (i := 0) (N := some 148) (v := ?_) (a' := ?_) #[true, false, false, false, false, false, false, false, false] rfl rfl (any_of HT_.out (by kernel_rfl)) (fun _ _ _ h => h) (Or.inl ⟨by rfl, ?_⟩) ?_ ?_
                                rotate_left
                                · intro w'
                                  go_simp
                                  with_reducible rfl
                                rotate_left
                                · simp only [Act.put, List.setIfInBounds_toArray, List.set_cons_zero, List.set_cons_succ, i64_w, i32_w]
                                  rfl
                                refine pure_ (i := 1) (N := some 149) (v := ?_) (a' := ?_) #[true, true, false, false, false, false, false, false, false] rfl rfl (any_of HT_.out (by kernel_rfl)) (fun _ _ _ h => h) (Or.inl ⟨by rfl, ?_⟩) ?_ ?_
                                rotate_left
                                · intro w'
                                  go_simp
                                  with_reducible rfl
                                rotate_left
                                · simp only [Act.put, List.setIfInBounds_toArray, List.set_cons_zero, List.set_cons_succ, i64_w, i32_w]
                                  rfl
                                refine pure_ (i := 2) (N := some 150) (v := ?_) (a' := ?_) #[true, true, true, false, false, false, false, false, false] rfl rfl (any_of HT_.out (by kernel_rfl)) (fun _ _ _ h => h) (Or.inl ⟨by rfl, ?_⟩) ?_ ?_
                                rotate_left
                                · intro w'
                                  go_simp
                                  with_reducible rfl
                                rotate_left
                                · simp only [Act.put, List.setIfInBounds_toArray, List.set_cons_zero, List.set_cons_succ, i64_w, i32_w]
                                  rfl
                                refine pure_ (i := 4) (N := some 152) (v := ?_) (a' := ?_) #[true, true, true, false, true, false, false, false, false] rfl rfl (any_of HT_.out (by kernel_rfl)) (fun _ _ _ h => h) (Or.inl ⟨by rfl, ?_⟩) ?_ ?_
                                rotate_left
                                · intro w'
                                  go_simp
                                  with_reducible rfl
                                rotate_left
                                · simp only [Act.put, List.setIfInBounds_toArray, List.set_cons_zero, List.set_cons_succ, i64_w, i32_w]
                                  rfl
                                refine pure_ (i := 5) (N := some 153) (v := ?_) (a' := ?_) #[true, true, true, false, true, true, false, false, false] rfl rfl (any_of HT_.out (by kernel_rfl)) (fun _ _ _ h => h) (Or.inl ⟨by rfl, ?_⟩) ?_ ?_
                                rotate_left
                                · intro w'
                                  go_simp
                                  with_reducible rfl
                                rotate_left
                                · simp only [Act.put, List.setIfInBounds_toArray, List.set_cons_zero, List.set_cons_succ, i64_w, i32_w]
                                  rfl
                                refine pure_ (i := 6) (N := some 154) (v := ?_) (a' := ?_) #[true, true, true, false, true, true, true, false, false] rfl rfl (any_of HT_.out (by kernel_rfl)) (fun _ _ _ h => h) (Or.inl ⟨by rfl, ?_⟩) ?_ ?_
                                rotate_left
                                · intro w'
                                  go_simp
                                  with_reducible rfl
                                rotate_left
                                · simp only [Act.put, List.setIfInBounds_toArray, List.set_cons_zero, List.set_cons_succ, i64_w, i32_w]
                                  rfl
                                refine take_ (i := 3) (N := some 151) (v := ?_) (a' := ?_) #[true, true, true, true, true, true, true, false, false] rfl rfl (take_ofW HT_.out HW_.out (by kernel_rfl)) (fun _ _ _ h => h) (Or.inl ⟨by rfl, ?_⟩) hHeld ?_ ?_
                                rotate_left
                                · rintro w' ⟨s0, s1, s2, s3, s4, s5, s6, s7, s8, s9, s10, s11, s12, s13, s14, s15⟩
                                  go_simp
                                  with_reducible rfl
                                rotate_left
                                · simp only [Act.put, List.setIfInBounds_toArray, List.set_cons_zero, List.set_cons_succ, i64_w, i32_w]
                                  rfl
                                refine take_ (i := 7) (N := some 155) (v := ?_) (a' := ?_) #[true, true, true, true, true, true, true, true, false] rfl rfl (take_ofW HT_.out HW_.out (by kernel_rfl)) (fun _ _ _ h => h) (Or.inl ⟨by rfl, ?_⟩) hHeld ?_ ?_
                                rotate_left
                                · rintro w' ⟨s0, s1, s2, s3, s4, s5, s6, s7, s8, s9, s10, s11, s12, s13, s14, s15⟩
                                  go_simp
                                  with_reducible rfl
                                rotate_left
                                · simp only [Act.put, List.setIfInBounds_toArray, List.set_cons_zero, List.set_cons_succ, i64_w, i32_w]
                                  rfl
                                refine pure_ (i := 8) (N := some 156) (v := ?_) (a' := ?_) #[true, true, true, true, true, true, true, true, true] rfl rfl (any_of HT_.out (by kernel_rfl)) (fun _ _ _ h => h) (Or.inl ⟨by rfl, ?_⟩) ?_ ?_
                                rotate_left
                                · intro w'
                                  go_simp
                                  with_reducible rfl
                                rotate_left
                                · simp only [Act.put, List.setIfInBounds_toArray, List.set_cons_zero, List.set_cons_succ, i64_w, i32_w]
                                  rfl
                                refine done_ (done_of HT_.out (by kernel_rfl)) ?_
                                try go_wp2
                                go_roundg k3
                                case measure => have := HJ7.out; have := HK2.out; have := HK3.out; omega
                                case rel => exact ⟨(wrap64 (x145_3 + 1)), (by first | rfl | (simp; done) | (simp [*]; done)), H', ⟨by have := HJ7.out; have := HK2.out; have := HK3.out; omega⟩, ⟨by (with_reducible repeat (first | apply Kd.R_alloc | apply Kd.R_drewN | apply Kd.R_drew)); exact HO_17.out⟩, ⟨by (with_reducible repeat (first | apply Kd.R_alloc | apply Kd.R_drewN | apply Kd.R_drew)); exact HO_18.out⟩, ⟨by (with_reducible repeat (first | refine blk_drewN ?_ _ | refine blk_drew ?_ | refine blk_alloc ?_ _)); exact BK187.out⟩, ⟨by repeat (first | (with_reducible first | exact HB.out | apply below_alloc | apply pw_below_drewN | apply below_drew1 | refine below_set ?_ GE187.out) | exact HB.out)⟩⟩
                            · rw [if_neg c90] at H
                              exact absurd H (by simp)
                          · rw [if_neg c89] at H
                            exact absurd H (by simp)
                        · rw [if_neg c88] at H
                          exact absurd H (by simp)
                      · rw [if_neg c87] at H
                        have c87b0 : decide (x145_3 < (t204.length : Int)) = false := decide_eq_false c87
                        clear c87
                        obtain rfl := Option.some.inj H
                        go_wp2
                        go_ret
                        exact ⟨by first | rfl | (simp [errW_none, errW_some] <;> rfl) | (simp [*, errW_none, errW_some] <;> rfl), by repeat (first | (with_reducible first | exact HB.out | apply below_alloc | apply pw_below_drewN | apply below_drew1 | refine below_set ?_ GE187.out) | exact HB.out)⟩
                · rw [if_neg c80] at H
                  have c80b0 : ((t204.length : Int) == (t208.length : Int)) = false := beq_eq_false_iff_ne.mpr c80
                  have c80b1 : ((t204.length : Int) != (t208.length : Int)) = true := bne_iff_ne.mpr c80
                  have c80b2 : (t204.length == t208.length) = false := by first | simpa using c80 | (simp at c80 ⊢; omega)
                  exact absurd (Option.some.inj H) (by rw [HRT.out]; decide)
  · replace c6 := Bool.eq_false_iff.mpr c6
    subst c6
    have H1 : (some false) = some r := by rw [if_neg (show ¬ (false = true) by decide)] at H; exact H
    clear H
    have H := H1
    clear H1
    exact absurd (Option.some.inj H) (by rw [HRT.out]; decide)end Go.Proofs.Ytjhkbmdblfdlnaa.QRlb
namespace Go.Proofs.Ytjhkbmdblfdlnaa.Opn
open Go.ChangeShapes Go.WideShapes Go.Proofs.YtjhkbmdblfdlnaaW.PrintWords
variable {P : Program}
def Opens {α : Type} (P : Program) (t : TypeId) (d : Kd α) (good : α → Prop) : Prop :=
  ∀ (H : Type) (enc : TypeId × Value → H) (w : World) (fuel : Nat) (cs : List Value) (x : DataW H × List MemPlace),
    DataW.trod enc P w 0 (fun _ => true) true fuel t cs = some x → (∀ n ∈ x.1.weights P t, n ≤ reachBytes) → ∃ a : α, d.K w a cs ∧ good a
theorem opens_int {t : TypeId} {k : IntKind} (hu : P.underlying t = some (.int k)) : Opens P t (Kd.int k) (fun n => (Lit.int k n).wf = true) := by
  intro H enc w fuel cs x h _
  obtain ⟨n, rfl, _, hw⟩ := DataW.trod_int hu h
  exact ⟨n, rfl, hw⟩
theorem opens_bool {t : TypeId} (hu : P.underlying t = some .bool) : Opens P t Kd.bool (fun _ => True) := by
  intro H enc w fuel cs x h _
  obtain ⟨b, rfl, _⟩ := DataW.trod_bool hu h
  exact ⟨b, rfl, trivial⟩
theorem opens_string {t : TypeId} (hu : P.underlying t = some .string) : Opens P t Kd.string (fun s => s.size ≤ 140737488351232) := by
  intro H enc w fuel cs x h hz
  obtain ⟨s, rfl, rfl, hs⟩ := DataW.trod_string hu h
  refine ⟨s, rfl, ?_⟩
  have := hz s.data.toList.length (by simp [DataW.weights])
  simpa [reachBytes] using this
theorem weightsAll_mem {H : Type} {e : TypeId} : ∀ {l : List (DataW H)} {d : DataW H}, d ∈ l → ∀ n ∈ d.weights P e, n ∈ DataW.weightsAll P e l
  | [], d, h, _, _ => by simp at h
  | d0 :: l, d, h, n, hn => by
    simp only [DataW.weightsAll, List.mem_append]
    rcases List.mem_cons.1 h with rfl | h
    · exact Or.inl hn
    · exact Or.inr (weightsAll_mem h n hn)
theorem add_at_ (a : Addr) (i j : Nat) : (a.add i).add j = a.add (i + j) := by
  unfold Addr.add
  by_cases hi : i = 0
  · subst hi; simp
  · by_cases hj : j = 0
    · subst hj; simp
    · simp [hi, hj, Nat.add_assoc]
theorem choose_list {α : Type} {Q : Nat → α → Prop} : ∀ (n : Nat), (∀ i, i < n → ∃ a, Q i a) → ∃ l : List α, l.length = n ∧ ∀ i a, l[i]? = some a → Q i a
  | 0, _ => ⟨[], rfl, fun i a h => by simp at h⟩
  | n + 1, h => by
    obtain ⟨l, hl, hq⟩ := choose_list n (fun i hi => h i (by omega))
    obtain ⟨a, ha⟩ := h n (by omega)
    refine ⟨l ++ [a], by simp [hl], fun i b hb => ?_⟩
    rcases Nat.lt_or_ge i l.length with hi | hi
    · rw [List.getElem?_append_left hi] at hb
      exact hq i b hb
    · rw [List.getElem?_append_right hi] at hb
      have hlt := (List.getElem?_eq_some_iff.1 hb).1
      simp at hlt
      have e : i = n := by omega
      subst e
      rw [show i - l.length = 0 from by omega] at hb
      have hb' : a = b := by simpa using hb
      subst hb'
      exact ha
theorem opens_slice_row {α : Type} {t e : TypeId} {d : Kd α} {good : α → Prop} (hu : P.underlying t = some (.slice e)) (hC : P.cellsOf e = d.sz) {B : Nat} (hB : P.bytesOf e = B) (ho : Opens P e d good)
    (H : Type) (enc : TypeId × Value → H) (w : World) (fuel : Nat) (A : Option Addr) (len cap : Nat) (x : DataW H × List MemPlace)
    (h : DataW.trod enc P w 0 (fun _ => true) true fuel t [.slice A len cap] = some x) (hz : ∀ n ∈ x.1.weights P t, n ≤ reachBytes) :
    ∃ l : List α, l.length = len ∧ len ≤ cap ∧ d.C w A len l ∧ len ≤ maxLen ∧ len * B ≤ 140737488351232 ∧ ∀ a ∈ l, good a := by
  rcases DataW.trod_slice hu h with ⟨h0, _⟩ | ⟨a, len', cap', elems, rest, n, _, hcs, hx, _, hl, hm, hlen, hel, _, _⟩
  · simp only [List.cons.injEq, Value.slice.injEq, and_true] at h0
    obtain ⟨rfl, rfl, rfl⟩ := h0
    exact ⟨[], rfl, Nat.le_refl _, ⟨rfl, Nat.zero_le _, fun h => absurd h (by omega)⟩, Nat.zero_le _, by simp, fun a ha => by simp at ha⟩
  · simp only [List.cons.injEq, Value.slice.injEq, and_true] at hcs
    obtain ⟨rfl, rfl, rfl⟩ := hcs
    have each : ∀ i, i < len → ∃ b : α, (∃ c, c.length = d.sz ∧ d.K w b c ∧ ∀ j u, c[j]? = some u → w.cell? (a.add (i * d.sz + j)) = some u) ∧ good b := by
      intro i hi
      have h1 := hel i hi
      have hie : i < elems.length := by omega
      rw [List.getElem?_eq_getElem hie, Option.bind_eq_some_iff] at h1
      obtain ⟨cs', hc, ht'⟩ := h1
      have hw' : ∀ n ∈ (elems[i]).1.weights P e, n ≤ reachBytes := by
        intro m hm'
        refine hz m ?_
        rw [hx]
        simp only [DataW.weights, hu]
        refine List.mem_cons_of_mem _ (List.mem_append_left _ ?_)
        exact weightsAll_mem (List.mem_map.2 ⟨elems[i], List.getElem_mem hie, rfl⟩) m hm'
      obtain ⟨b, hb, hg⟩ := ho H enc w _ cs' _ ht' hw'
      obtain ⟨_, hcl, hat⟩ := World.cells?_some hc
      refine ⟨b, ⟨cs', by rw [hcl, hC], hb, fun j u hu' => ?_⟩, hg⟩
      have hj : j < P.cellsOf e := by
        have := (List.getElem?_eq_some_iff.1 hu').1
        omega
      have := hat j hj
      rw [hC] at this
      rw [← add_at_, this, hu']
    obtain ⟨l, hll, hq⟩ := choose_list len each
    refine ⟨l, hll, hl, ⟨hll, by simp only [maxLen] at hm; omega, fun _ => ⟨a, rfl, fun j p hj => (hq j p hj).1⟩⟩, by omega, ?_, fun b hb => ?_⟩
    · have h1 := hz ((elems.length + rest.length) * P.bytesOf e) (by rw [hx]; simp [DataW.weights, hu])
      rw [hB] at h1
      simp only [reachBytes] at h1
      refine Nat.le_trans (Nat.mul_le_mul_right _ ?_) h1
      omega
    · obtain ⟨i, hi⟩ := List.getElem?_of_mem hb
      exact (hq i b hi).2
theorem opens_slice {α : Type} {t e : TypeId} {d : Kd α} {good : α → Prop} (hu : P.underlying t = some (.slice e)) (hC : P.cellsOf e = d.sz) {B : Nat} (hB : P.bytesOf e = B) (ho : Opens P e d good) :
    Opens P t (Kd.slice e d) (fun l => l.length ≤ maxLen ∧ l.length * B ≤ 140737488351232 ∧ ∀ a ∈ l, good a) := by
  intro H enc w fuel cs x h hz
  have hform : ∃ A len cap, cs = [.slice A len cap] := by
    rcases DataW.trod_slice hu h with ⟨h0, _⟩ | ⟨a, len', cap', elems, rest, n, _, hcs, _⟩
    · exact ⟨_, _, _, h0⟩
    · exact ⟨_, _, _, hcs⟩
  obtain ⟨A, len, cap, rfl⟩ := hform
  obtain ⟨l, rfl, hlc, hC', hm, hb, hg⟩ := opens_slice_row hu hC hB ho H enc w fuel A len cap x h hz
  exact ⟨l, ⟨A, cap, rfl, hlc, hC'⟩, hm, hb, hg⟩
def OpensFs {α : Type} (P : Program) (off : Nat) (fs : List Field) (d : Kd α) (good : α → Prop) : Prop :=
  ∀ (H : Type) (enc : TypeId × Value → H) (w : World) (fuel : Nat) (cs : List Value) (ys : List (DataW H × List MemPlace)),
    cs.length = off + d.sz → ys.length = fs.length → (∀ (i : Nat) (f : Field), fs[i]? = some f → DataW.trod enc P w 0 (fun _ => true) true fuel f.type ((cs.drop f.offset).take (P.cellsOf f.type)) = ys[i]?) →
    (∀ n ∈ DataW.weightsEach P (fs.map (·.type)) (ys.map (·.1)), n ≤ reachBytes) → ∃ a : α, d.K w a (cs.drop off) ∧ good a
theorem opensFs_one {α : Type} {off : Nat} {f : Field} {d : Kd α} {good : α → Prop} (ho : f.offset = off) (hC : P.cellsOf f.type = d.sz) (h : Opens P f.type d good) : OpensFs P off [f] d good := by
  intro H enc w fuel cs ys hcs hy hf hz
  match ys, hy with
  | [y], _ =>
    have h1 := hf 0 f rfl
    rw [ho, hC, List.take_of_length_le (by simp [List.length_drop]; omega)] at h1
    exact h H enc w fuel _ y h1 (fun n hn => hz n (by simp only [List.map_cons, DataW.weightsEach, List.mem_append]; exact Or.inl hn))
theorem opensFs_cons {α β : Type} {off : Nat} {f : Field} {fs : List Field} {d : Kd α} {e : Kd β} {g1 : α → Prop} {g2 : β → Prop} (ho : f.offset = off) (hC : P.cellsOf f.type = d.sz) (h : Opens P f.type d g1) (hs : OpensFs P (off + d.sz) fs e g2) :
    OpensFs P off (f :: fs) (Kd.pair d e) (fun p => g1 p.1 ∧ g2 p.2) := by
  intro H enc w fuel cs ys hcs hy hf hz
  match ys, hy with
  | y :: ys, hy =>
    have hsz : (Kd.pair d e).sz = d.sz + e.sz := rfl
    rw [hsz] at hcs
    have h1 := hf 0 f rfl
    rw [ho, hC] at h1
    obtain ⟨a, ha, hga⟩ := h H enc w fuel _ y h1 (fun n hn => hz n (by simp only [List.map_cons, DataW.weightsEach, List.mem_append]; exact Or.inl hn))
    obtain ⟨b, hb, hgb⟩ := hs H enc w fuel cs ys (by omega) (by simpa using hy) (fun i f' hi => by simpa using hf (i + 1) f' (by simpa using hi)) (fun n hn => hz n (by simp only [List.map_cons, DataW.weightsEach, List.mem_append]; exact Or.inr hn))
    refine ⟨(a, b), ⟨(cs.drop off).take d.sz, cs.drop (off + d.sz), ?_, ha, hb⟩, hga, hgb⟩
    rw [← List.drop_drop, List.take_append_drop]
theorem opens_struct {α : Type} {t : TypeId} {fs : Array Field} {d : Kd α} {good : α → Prop} (hu : P.underlying t = some (.struct fs)) (hC : P.cellsOf t = d.sz) (h : OpensFs P 0 fs.toList d good) : Opens P t d good := by
  intro H enc w fuel cs x hx hz
  obtain ⟨ys, n, _, hxe, hlen, hyl, hf⟩ := DataW.trod_struct hu hx
  obtain ⟨a, ha, hg⟩ := h H enc w n cs ys (by omega) (by simpa using hyl) (fun i f hi => hf i f (by simpa using hi)) (fun m hm => hz m (by rw [hxe]; simp only [DataW.weights, hu]; exact hm))
  exact ⟨a, by simpa using ha, hg⟩
theorem opens_iso {α β : Type} {t : TypeId} {d : Kd α} {good : α → Prop} (f : β → α) (g : α → β) (hfg : ∀ a, f (g a) = a) (h : Opens P t d good) : Opens P t (Kd.iso d f) (fun b => good (f b)) := by
  intro H enc w fuel cs x hx hz
  obtain ⟨a, ha, hga⟩ := h H enc w fuel cs x hx hz
  refine ⟨g a, ?_, by show good (f (g a)); rw [hfg]; exact hga⟩
  show d.K w (f (g a)) cs
  rw [hfg]
  exact ha
theorem opens_imp {α : Type} {t : TypeId} {d : Kd α} {g1 g2 : α → Prop} (h : Opens P t d g1) (hg : ∀ a, g1 a → g2 a) : Opens P t d g2 := by
  intro H enc w fuel cs x hx hz
  obtain ⟨a, ha, hga⟩ := h H enc w fuel cs x hx hz
  exact ⟨a, ha, hg a hga⟩
theorem weights_of {H : Type} {ts : List TypeId} {ds : List (DataW H)} (h : (DataW.weightsEach P ts ds).all (· ≤ reachBytes) = true) {j : Nat} {t : TypeId} {d : DataW H} (ht : ts[j]? = some t) (hd : ds[j]? = some d) : ∀ n ∈ d.weights P t, n ≤ reachBytes := by
  intro n hn
  have := List.all_eq_true.1 h _ (DataW.weights_mem_each ht hd n hn)
  simpa using this
theorem arg_slice {α : Type} {t e : TypeId} {d : Kd α} {good : α → Prop} (hu : P.underlying t = some (.slice e)) (hC : P.cellsOf e = d.sz) {B : Nat} (hB : P.bytesOf e = B) (ho : Opens P e d good)
    {H : Type} {enc : TypeId × Value → H} {w : World} {r : Reach} {b0 : Nat} {v : Value} {x : DataW H} {ps : List MemPlace} (hv : Value.okWide P w r b0 t v)
    (h : DataW.Trod enc P w 0 (fun _ => true) true t v x ps) (hz : ∀ n ∈ x.weights P t, n ≤ reachBytes) :
    ∃ (A : Option Addr) (c : Nat) (l : List α), v = .slice A l.length c ∧ l.length ≤ c ∧ d.C w A l.length l ∧ l.length ≤ maxLen ∧ l.length * B ≤ 140737488351232 ∧ ∀ a ∈ l, good a := by
  obtain ⟨A, len, c, rfl⟩ := okWide_slice hu hv
  obtain ⟨fuel, hf⟩ := h
  have hf' : DataW.trod enc P w 0 (fun _ => true) true fuel t [.slice A len c] = some (x, ps) := by simpa [Value.cells] using hf
  obtain ⟨l, rfl, hlc, hC', hm, hb, hg⟩ := opens_slice_row hu hC hB ho H enc w fuel A len c _ hf' hz
  exact ⟨A, c, l, rfl, hlc, hC', hm, hb, hg⟩
theorem arg_struct {α : Type} {t : TypeId} {fs : Array Field} {d : Kd α} {good : α → Prop} (hu : P.underlying t = some (.struct fs)) (ho : Opens P t d good)
    {H : Type} {enc : TypeId × Value → H} {w : World} {r : Reach} {b0 : Nat} {v : Value} {x : DataW H} {ps : List MemPlace} (hv : Value.okWide P w r b0 t v)
    (h : DataW.Trod enc P w 0 (fun _ => true) true t v x ps) (hz : ∀ n ∈ x.weights P t, n ≤ reachBytes) :
    ∃ (a : α) (cs : List Value), v = .agg cs.toArray ∧ d.K w a cs ∧ good a := by
  obtain ⟨cs, rfl, _⟩ := okWide_struct hu hv
  obtain ⟨fuel, hf⟩ := h
  obtain ⟨a, ha, hg⟩ := ho H enc w fuel _ _ hf hz
  exact ⟨a, cs.toList, by simp, by simpa [Value.cells] using ha, hg⟩
theorem arg_int {t : TypeId} {k : IntKind} (hu : P.underlying t = some (.int k))
    {H : Type} {enc : TypeId × Value → H} {w : World} {r : Reach} {b0 : Nat} {v : Value} {x : DataW H} {ps : List MemPlace} (hv : Value.okWide P w r b0 t v)
    (h : DataW.Trod enc P w 0 (fun _ => true) true t v x ps) : ∃ n, v = .int k n ∧ (Lit.int k n).wf = true := by
  obtain ⟨n, rfl⟩ := okWide_int hu hv
  obtain ⟨fuel, hf⟩ := h
  obtain ⟨m, hcs, _, hw⟩ := DataW.trod_int hu hf
  simp only [Value.cells] at hcs
  have e : n = m := by simpa using hcs
  subst e
  exact ⟨n, rfl, hw⟩
end Go.Proofs.Ytjhkbmdblfdlnaa.Opn
namespace Go.Proofs.Ytjhkbmdblfdlnaa.relayBounds
open Go.RowKit Go.Proofs.YtjhkbmdblfdlnaaW.PrintWords Go.Proofs.YtjhkbmdblfdlnaaW.PrintLast Go.Proofs.YtjhkbmdblfdlnaaW.PrintMore Go.Proofs.Ytjhkbmdblfdlnaa.QRlb
set_option linter.unusedVariables false
def G54 (x : S54) : Prop := (Lit.int .i64 x.f0).wf = true ∧ (Lit.int .i64 x.f1).wf = true ∧ True ∧ (x.f3.length ≤ maxLen ∧ x.f3.length * 8 ≤ 140737488351232 ∧ ∀ a ∈ x.f3, (Lit.int .i64 a).wf = true)
def G49 (x : S49) : Prop := (Lit.int .i64 x.f0).wf = true ∧ (Lit.int .i64 x.f1).wf = true ∧ True ∧ (Lit.int .i64 x.f3).wf = true ∧ (Lit.int .i64 x.f4).wf = true ∧ (Lit.int .i64 x.f5).wf = true ∧ x.f6.size ≤ 140737488351232
def G84 (x : S84) : Prop := (Lit.int .i64 x.f0).wf = true ∧ (Lit.int .i64 x.f1).wf = true ∧ (Lit.int .i64 x.f2).wf = true ∧ (Lit.int .i64 x.f3).wf = true ∧ True
def Pure : Prop := ∀ (x0 : (List S54)) (x1 : Int) (x2 : S49) (x3 : (List S84)), (x0.length ≤ maxLen ∧ x0.length * 48 ≤ 140737488351232 ∧ ∀ a ∈ x0, G54 a) → (Lit.int .i64 x1).wf = true → G49 x2 → (x3.length ≤ maxLen ∧ x3.length * 40 ≤ 140737488351232 ∧ ∀ a ∈ x3, G84 a) → ∃ k, kissgatelaw19_RelayBounds.f k x0 x1 x2.f0 x2.f1 x2.f2 x2.f3 x2.f4 x2.f5 x2.f6 x3 = some true
end Go.Proofs.Ytjhkbmdblfdlnaa.relayBounds
namespace Go.Proofs.Ytjhkbmdblfdlnaa.relayBounds
open Go.RowKit Go.Proofs.YtjhkbmdblfdlnaaW.PrintWords Go.Proofs.YtjhkbmdblfdlnaaW.PrintLast Go.Proofs.YtjhkbmdblfdlnaaW.PrintMore Go.Proofs.Ytjhkbmdblfdlnaa.QRlb
theorem tot_bind {α β : Type} {o : Option α} {f : α → Option β} (h : ∃ a, o = some a) (g : ∀ a, ∃ b, f a = some b) : ∃ b, o.bind f = some b := by
  obtain ⟨a, rfl⟩ := h; exact g a
theorem tot_ite {α : Type} {c : Prop} [Decidable c] {x y : Option α} (hx : ∃ b, x = some b) (hy : ∃ b, y = some b) : ∃ b, (if c then x else y) = some b := by
  split <;> assumption
theorem good_tot (a : Int) : ∃ b, addr_Good.f a = some b := by unfold addr_Good.f; repeat' first | exact ⟨_, rfl⟩ | refine tot_ite ?_ ?_
theorem many_tot (a : Int) : ∃ b, addr_Many.f a = some b := by unfold addr_Many.f; repeat' first | exact good_tot _ | exact ⟨_, rfl⟩ | refine tot_ite ?_ ?_ | refine tot_bind ?_ (fun _ => ?_)
theorem kept_tot (a : Int) : ∃ b, addr_Kept.f a = some b := by unfold addr_Kept.f; repeat' first | exact good_tot _ | exact ⟨_, rfl⟩ | refine tot_ite ?_ ?_ | refine tot_bind ?_ (fun _ => ?_)
theorem type_tot (a : Int) : ∃ b, addr_Type.f a = some b := by unfold addr_Type.f; repeat' first | exact ⟨_, rfl⟩ | refine tot_ite ?_ ?_
theorem frame_tot (a0 a1 : Int) (a2 : Bool) (a3 a4 a5 : Int) (a6 : ByteArray) : ∃ b, frame_Good.f 2 a0 a1 a2 a3 a4 a5 a6 = some b := by
  simp only [frame_Good.f, frame_Good.j0, frame_Good.j1]
  repeat' first | exact good_tot _ | exact many_tot _ | exact type_tot _ | exact ⟨_, rfl⟩ | refine tot_ite ?_ ?_ | refine tot_bind ?_ (fun _ => ?_)
theorem frame_ev (a0 a1 : Int) (a2 : Bool) (a3 a4 a5 : Int) (a6 : ByteArray) : ∃ b, Ev (fun k => frame_Good.f k a0 a1 a2 a3 a4 a5 a6) b := by
  obtain ⟨b, h⟩ := frame_tot a0 a1 a2 a3 a4 a5 a6
  exact ⟨b, Ev.of (frame_Good.mono _ _ _ _ _ _ _) h⟩
def inR (v : Int) : Int := if 1 ≤ v then if v ≤ 4094 then v else 0 else 0
def cls (p1 : Int) (tg : Bool) (vid : Int) : Int := if tg = true then if vid = 0 then inR p1 else inR vid else inR p1
theorem vid_in (v : Int) : ((addr_Vid.f v).bind fun t => if t = true then some v else some 0) = some (inR v) := by
  unfold addr_Vid.f inR
  by_cases h : v ≥ 1
  · rw [if_pos h, Option.bind_some, if_pos (show 1 ≤ v from h)]
    by_cases h2 : v ≤ 4094 <;> simp [h2]
  · rw [if_neg h, Option.bind_some, if_neg (show ¬ 1 ≤ v from h)]; rfl
theorem vid_ref (v : Int) : (if v < 1 then (some 0) else (if v > 4094 then (some 0) else (some v)) : Option Int) = some (inR v) := by
  unfold inR
  by_cases h : v < 1
  · rw [if_pos h, if_neg (by omega)]
  · rw [if_neg h, if_pos (show 1 ≤ v by omega)]
    by_cases h2 : v > 4094
    · rw [if_pos h2, if_neg (by omega)]
    · rw [if_neg h2, if_pos (by omega)]
theorem class_ev (p0 p1 : Int) (p2 : Bool) (p3 : List Int) (a0 a1 : Int) (a2 : Bool) (a3 a4 a5 : Int) (a6 : ByteArray) : Ev (fun k => relay_Class.f k p0 p1 p2 p3 a0 a1 a2 a3 a4 a5 a6) (cls p1 a2 a3) := by
  unfold relay_Class.f cls
  by_cases h2 : a2 = true
  · refine Ev.congr (fun k => if_pos h2) ?_
    rw [if_pos h2]
    by_cases h3 : a3 = 0
    · exact Ev.step (fun k => by rw [relay_Class.j0, if_pos (by simpa using h3), vid_in, if_pos h3]) (Ev.now _)
    · exact Ev.step (fun k => by rw [relay_Class.j0, if_neg (by simpa using h3), vid_in, if_neg h3]) (Ev.now _)
  · refine Ev.congr (fun k => if_neg h2) ?_
    rw [if_neg h2]
    exact Ev.step (fun k => by rw [relay_Class.j0, if_pos rfl, vid_in]) (Ev.now _)
theorem ref_ev (p0 p1 : Int) (p2 : Bool) (p3 : List Int) (a0 a1 : Int) (a2 : Bool) (a3 a4 a5 : Int) (a6 : ByteArray) : Ev (fun k => kissgateref19_Class.f k p0 p1 p2 p3 a0 a1 a2 a3 a4 a5 a6) (cls p1 a2 a3) := by
  unfold kissgateref19_Class.f cls
  by_cases h2 : a2 = true
  · refine Ev.congr (fun k => if_pos h2) ?_
    rw [if_pos h2]
    by_cases h3 : a3 = 0
    · exact Ev.step (fun k => by rw [kissgateref19_Class.j0, if_neg (by simpa using h3), vid_ref, if_pos h3]) (Ev.now _)
    · exact Ev.step (fun k => by rw [kissgateref19_Class.j0, if_pos (by simpa using h3), vid_ref, if_neg h3]) (Ev.now _)
  · refine Ev.congr (fun k => if_neg h2) ?_
    rw [if_neg h2]
    exact Ev.step (fun k => by rw [kissgateref19_Class.j0, if_neg (by simp), vid_ref]) (Ev.now _)
theorem rd54 {l : List S54} {i : Nat} (h1 : i < l.length) : rd_T54 l (i : Int) = l[i] := by
  unfold rd_T54
  rw [Int.toNat_natCast, List.getD_eq_getElem?_getD, List.getElem?_eq_getElem h1]; rfl
theorem rd63 {l : List S63} {i : Nat} (h1 : i < l.length) : rd_T63 l (i : Int) = l[i] := by
  unfold rd_T63
  rw [Int.toNat_natCast, List.getD_eq_getElem?_getD, List.getElem?_eq_getElem h1]; rfl
theorem rd64 {l : List S64} {i : Nat} (h1 : i < l.length) : rd_T64 l (i : Int) = l[i] := by
  unfold rd_T64
  rw [Int.toNat_natCast, List.getD_eq_getElem?_getD, List.getElem?_eq_getElem h1]; rfl
theorem rdI {l : List Int} {i : Nat} (h1 : i < l.length) : rd l (i : Int) = l[i] := by
  unfold rd
  rw [Int.toNat_natCast, List.getD_eq_getElem?_getD, List.getElem?_eq_getElem h1]; rfl
theorem nx {i n : Nat} (h : i < n) (hn : n ≤ 1000000000000000) : wrap64 ((i : Int) + 1) = ((i + 1 : Nat) : Int) := by unfold wrap64; omega
theorem member_loop (v : Int) (m : List Int) (hm : m.length ≤ 1000000000000000) (d : Nat) : ∀ i : Nat, i + d = m.length → ∃ b, Ev (fun k => relay_Port_member.l0 k v m m.length i) b ∧ (b = true → v ∈ m) := by
  induction d with
  | zero => intro i hi; exact ⟨false, Ev.step (fun k => by rw [relay_Port_member.l0, if_neg (by omega)]) (Ev.now _), fun h => by cases h⟩
  | succ d ih =>
    intro i hi
    have hlt : (i : Int) < m.length := by omega
    have hl : i < m.length := by omega
    by_cases h : m[i] = v
    · exact ⟨true, Ev.step (fun k => by rw [relay_Port_member.l0, if_pos hlt, if_pos (by omega), if_pos hlt, if_pos (by rw [rdI hl]; exact h)]) (Ev.now _), fun _ => by rw [← h]; exact List.getElem_mem hl⟩
    · obtain ⟨b, hb, hv⟩ := ih (i + 1) (by omega)
      exact ⟨b, Ev.step (fun k => by rw [relay_Port_member.l0, if_pos hlt, if_pos (by omega), if_pos hlt, if_neg (by rw [rdI hl]; exact h), nx hl hm]) hb, hv⟩
def Goes (l : List S54) (a1 v x : Int) : Prop := ∃ j : Nat, x = (j : Int) ∧ ∃ h : j < l.length, x ≠ a1 ∧ l[j].f0 = 2 ∧ v ∈ l[j].f3
def Ups (n : Nat) (t : List Int) : Prop := t.Pairwise (· < ·) ∧ ∀ x ∈ t, x < (n : Int)
theorem targets_loop (l : List S54) (hn : l.length ≤ 1000) (hm : ∀ p ∈ l, p.f3.length ≤ 1000000000000000) (a1 v kn : Int) (d : Nat) : ∀ (i : Nat) (acc : List Int), i + d = l.length → acc.length ≤ i → Ups i acc → (∀ x ∈ acc, Goes l a1 v x) →
    ∃ t, Ev (fun k => relay_targets.l0 k a1 v acc kn l l.length i) t ∧ t.length ≤ l.length ∧ Ups l.length t ∧ ∀ x ∈ t, Goes l a1 v x := by
  induction d with
  | zero => intro i acc hi ha hu hg; have : i = l.length := by omega
            subst this
            exact ⟨acc, Ev.step (fun k => by rw [relay_targets.l0, if_neg (by omega)]) (Ev.now _), ha, hu, hg⟩
  | succ d ih =>
    intro i acc hi ha hu hg
    have hlt : (i : Int) < l.length := by omega
    have hl : i < l.length := by omega
    have hw := nx hl (by omega)
    have hu' : Ups (i + 1) acc := ⟨hu.1, fun x hx => by have := hu.2 x hx; omega⟩
    have skip : ∃ t, Ev (fun k => relay_targets.j2 k a1 v acc kn i l l.length i true) t ∧ t.length ≤ l.length ∧ Ups l.length t ∧ ∀ x ∈ t, Goes l a1 v x := by
      obtain ⟨t, ht, hs⟩ := ih (i + 1) acc (by omega) (by omega) hu' hg
      exact ⟨t, Ev.step (fun k => by rw [relay_targets.j2, if_pos rfl, hw]) ht, hs⟩
    by_cases h0 : (i : Int) = a1
    · obtain ⟨t, ht, hs⟩ := skip
      exact ⟨t, Ev.step (fun k => by rw [relay_targets.l0, if_pos hlt, if_pos (by omega), if_pos hlt, if_pos h0]) ht, hs⟩
    · by_cases h2 : (rd_T54 l i).f0 = 2
      · obtain ⟨b, hb, hv⟩ := member_loop v (rd_T54 l i).f3 (by rw [rd54 hl]; exact hm _ (List.getElem_mem hl)) _ 0 (Nat.zero_add _)
        cases b with
        | false =>
          obtain ⟨t, ht, hs⟩ := skip
          refine ⟨t, Ev.step (fun k => by rw [relay_targets.l0, if_pos hlt, if_pos (by omega), if_pos hlt, if_neg h0, if_pos h2]) ?_, hs⟩
          refine Ev.bind (a := false) ?_ ht
          unfold relay_Port_member.f
          exact hb
        | true =>
          have hgo : Goes l a1 v i := ⟨i, rfl, hl, h0, by rw [← rd54 hl]; exact h2, by rw [← rd54 hl]; exact hv rfl⟩
          have happ : ∃ t, Ev (fun k => relay_targets.l0 k a1 v (acc ++ [(i : Int)]) kn l l.length ((i + 1 : Nat) : Int)) t ∧ t.length ≤ l.length ∧ Ups l.length t ∧ ∀ x ∈ t, Goes l a1 v x := by
            refine ih (i + 1) (acc ++ [(i : Int)]) (by omega) (by rw [List.length_append, List.length_singleton]; omega) ⟨?_, ?_⟩ ?_
            · rw [List.pairwise_append]
              exact ⟨hu.1, List.pairwise_singleton _ _, fun a ha2 b hb2 => by rw [List.mem_singleton] at hb2; subst hb2; exact hu.2 a ha2⟩
            · intro x hx
              rcases List.mem_append.1 hx with hx | hx
              · exact hu'.2 x hx
              · rw [List.mem_singleton] at hx; subst hx; omega
            · intro x hx
              rcases List.mem_append.1 hx with hx | hx
              · exact hg x hx
              · rw [List.mem_singleton] at hx; subst hx; exact hgo
          have hgoes : ∃ t, Ev (fun k => relay_targets.j2 k a1 v acc kn i l l.length i false) t ∧ t.length ≤ l.length ∧ Ups l.length t ∧ ∀ x ∈ t, Goes l a1 v x := by
            obtain ⟨t, ht, hs⟩ := happ
            by_cases hk : kn ≥ 0
            · by_cases hk2 : kn = i
              · exact ⟨t, Ev.step (fun k => by rw [relay_targets.j2, if_neg (by simp), if_pos hk, if_pos hk2, if_pos (by omega), hw]) ht, hs⟩
              · obtain ⟨t, ht, hs⟩ := ih (i + 1) acc (by omega) (by omega) hu' hg
                exact ⟨t, Ev.step (fun k => by rw [relay_targets.j2, if_neg (by simp), if_pos hk, if_neg hk2, hw]) ht, hs⟩
            · exact ⟨t, Ev.step (fun k => by rw [relay_targets.j2, if_neg (by simp), if_neg hk, if_pos (by omega), hw]) ht, hs⟩
          obtain ⟨t, ht, hs⟩ := hgoes
          refine ⟨t, Ev.step (fun k => by rw [relay_targets.l0, if_pos hlt, if_pos (by omega), if_pos hlt, if_neg h0, if_pos h2]) ?_, hs⟩
          refine Ev.bind (a := true) ?_ ht
          unfold relay_Port_member.f
          exact hb
      · obtain ⟨t, ht, hs⟩ := skip
        exact ⟨t, Ev.step (fun k => by rw [relay_targets.l0, if_pos hlt, if_pos (by omega), if_pos hlt, if_neg h0, if_neg h2]) ht, hs⟩
theorem targets_ev (l : List S54) (hn : l.length ≤ 1000) (hm : ∀ p ∈ l, p.f3.length ≤ 1000000000000000) (a1 v dst : Int) (T : List S84) :
    ∃ t, Ev (fun k => relay_targets.f k l a1 v dst T) t ∧ t.length ≤ l.length ∧ Ups l.length t ∧ ∀ x ∈ t, Goes l a1 v x := by
  unfold relay_targets.f
  obtain ⟨b, hb⟩ := many_tot dst
  have hj : ∀ n, ∃ t, Ev (fun k => relay_targets.j0 k l a1 v [] n) t ∧ t.length ≤ l.length ∧ Ups l.length t ∧ ∀ x ∈ t, Goes l a1 v x := fun n => by
    obtain ⟨t, ht, hs⟩ := targets_loop l hn hm a1 v n l.length 0 [] (by omega) (Nat.le_refl _) ⟨List.Pairwise.nil, fun x hx => by cases hx⟩ (fun x hx => by cases hx)
    exact ⟨t, Ev.step (fun k => by rw [relay_targets.j0]; rfl) ht, hs⟩
  cases b with
  | true => obtain ⟨t, ht, hs⟩ := hj (-1); exact ⟨t, Ev.congr (fun k => by rw [hb, Option.bind_some, if_pos rfl]) ht, hs⟩
  | false => obtain ⟨t, ht, hs⟩ := hj (findF T v dst); exact ⟨t, Ev.congr (fun k => by rw [hb, Option.bind_some, if_neg (by simp), fdb_Table_Find.f, Option.bind_some]) ht, hs⟩
structure Outs (l : List S54) (a1 v a0 b1 : Int) (a6 : ByteArray) (out : List S63) : Prop where
  ups : out.Pairwise (fun x y => x.f0 < y.f0)
  goes : ∀ x ∈ out, Goes l a1 v x.f0
  same : ∀ x ∈ out, x.f1.f0 = a0 ∧ x.f1.f1 = b1 ∧ x.f1.f6 = a6
  few : out.length ≤ l.length
theorem relay_loop (l : List S54) (hn : l.length ≤ 1000) (a1 v a0 b1 : Int) (a2 : Bool) (a3 a4 a5 : Int) (a6 : ByteArray) (t : List Int) (hl : t.length ≤ l.length) (hu : Ups l.length t) (hg : ∀ x ∈ t, Goes l a1 v x) (d : Nat) :
    ∀ (i : Nat) (acc : List S63), i + d = t.length → acc.map (·.f0) = t.take i → (∀ x ∈ acc, x.f1.f0 = a0 ∧ x.f1.f1 = b1 ∧ x.f1.f6 = a6) →
    ∃ out, Ev (fun k => relay_Relay.l0 k l v acc t t.length i a0 b1 a2 a3 a4 a5 a6) out ∧ Outs l a1 v a0 b1 a6 out := by
  induction d with
  | zero =>
    intro i acc hi ha hs
    have : i = t.length := by omega
    subst this
    rw [List.take_length] at ha
    refine ⟨acc, Ev.step (fun k => by rw [relay_Relay.l0, if_neg (by omega)]) (Ev.now _), ?_, ?_, hs, ?_⟩
    · have := hu.1
      rw [← ha, List.pairwise_map] at this
      exact this
    · intro x hx
      exact hg _ (by rw [← ha]; exact List.mem_map.2 ⟨x, hx, rfl⟩)
    · have := congrArg List.length ha
      rw [List.length_map] at this
      omega
  | succ d ih =>
    intro i acc hi ha hs
    have hlt : (i : Int) < t.length := by omega
    have hl2 : i < t.length := by omega
    have hw := nx hl2 (by omega)
    obtain ⟨j, ej, hj, _⟩ := hg t[i] (List.getElem_mem hl2)
    have hr : rd t (i : Int) = (j : Int) := by rw [rdI hl2]; exact ej
    have hal : acc.length = i := by have := congrArg List.length ha; rw [List.length_map, List.length_take] at this; omega
    have hnext : ∀ (fr : S49), fr.f0 = a0 → fr.f1 = b1 → fr.f6 = a6 → ∃ out, Ev (fun k => relay_Relay.l0 k l v (acc ++ [(⟨(j : Int), fr⟩ : S63)]) t t.length ((i + 1 : Nat) : Int) a0 b1 a2 a3 a4 a5 a6) out ∧ Outs l a1 v a0 b1 a6 out := by
      intro fr h0 h1 h6
      refine ih (i + 1) _ (by omega) ?_ ?_
      · rw [List.map_append, ha, List.take_succ_eq_append_getElem hl2, ej]; rfl
      · intro x hx
        rcases List.mem_append.1 hx with hx | hx
        · exact hs x hx
        · rw [List.mem_singleton] at hx; subst hx; exact ⟨h0, h1, h6⟩
    have hA : (acc.length : Nat) < 1954687338268 := by omega
    by_cases hst : (rd_T54 l (j : Int)).f2 = true
    · by_cases hpv : (rd_T54 l (j : Int)).f1 = v
      · obtain ⟨out, ho, hs2⟩ := hnext ⟨a0, b1, false, 0, 0, a5, a6⟩ rfl rfl rfl
        exact ⟨out, Ev.step (fun k => by rw [relay_Relay.l0, if_pos hlt, if_pos (by omega), if_pos hlt, frame_Tag.f, Option.bind_some, hr, if_pos (by omega), if_pos (by omega), if_pos hst, if_pos hpv, frame_Untag.f, Option.bind_some, if_pos hA, hw]) ho, hs2⟩
      · obtain ⟨out, ho, hs2⟩ := hnext ⟨a0, b1, true, v, a4, a5, a6⟩ rfl rfl rfl
        exact ⟨out, Ev.step (fun k => by rw [relay_Relay.l0, if_pos hlt, if_pos (by omega), if_pos hlt, frame_Tag.f, Option.bind_some, hr, if_pos (by omega), if_pos (by omega), if_pos hst, if_neg hpv, if_pos hA, hw]) ho, hs2⟩
    · obtain ⟨out, ho, hs2⟩ := hnext ⟨a0, b1, true, v, a4, a5, a6⟩ rfl rfl rfl
      exact ⟨out, Ev.step (fun k => by rw [relay_Relay.l0, if_pos hlt, if_pos (by omega), if_pos hlt, frame_Tag.f, Option.bind_some, hr, if_pos (by omega), if_pos (by omega), if_neg hst, if_pos hA, hw]) ho, hs2⟩
theorem relay_ev (l : List S54) (hn : l.length ≤ 1000) (hm : ∀ p ∈ l, p.f3.length ≤ 1000000000000000) (a1 a0 b1 : Int) (a2 : Bool) (a3 a4 a5 : Int) (a6 : ByteArray) (T : List S84) :
    ∃ out, Ev (fun k => relay_Relay.f k l a1 a0 b1 a2 a3 a4 a5 a6 T) out ∧ (out = [] ∨ ∃ (i : Nat) (h : i < l.length), a1 = (i : Int) ∧ Outs l a1 (cls l[i].f1 a2 a3) a0 b1 a6 out) := by
  have none_ev : Ev (fun k => relay_Relay.j0 k l a1 T true a0 b1 a2 a3 a4 a5 a6) [] := Ev.step (fun k => by rw [relay_Relay.j0, if_pos rfl]) (Ev.now _)
  unfold relay_Relay.f
  by_cases h0 : a1 < 0
  · exact ⟨[], Ev.congr (fun k => if_pos h0) none_ev, .inl rfl⟩
  by_cases h1 : a1 ≥ (l.length : Int)
  · exact ⟨[], Ev.congr (fun k => if_neg h0) (Ev.congr (fun k => if_pos h1) none_ev), .inl rfl⟩
  obtain ⟨i, rfl⟩ := Int.eq_ofNat_of_zero_le (show 0 ≤ a1 by omega)
  have hi : i < l.length := by omega
  by_cases h2 : (rd_T54 l (i : Int)).f0 = 2
  case neg => exact ⟨[], Ev.congr (fun k => if_neg h0) (Ev.congr (fun k => if_neg h1) (Ev.congr (fun k => if_pos (by omega)) (Ev.congr (fun k => if_pos (by omega)) (Ev.congr (fun k => if_neg h2) none_ev)))), .inl rfl⟩
  suffices hS : ∃ out, Ev (fun k => (addr_Kept.f a0).bind fun t132 => if t132 = true then relay_Relay.j0 k l i T true a0 b1 a2 a3 a4 a5 a6 else (frame_Good.f k a0 b1 a2 a3 a4 a5 a6).bind fun t133 => relay_Relay.j0 k l i T (!t133) a0 b1 a2 a3 a4 a5 a6) out ∧ (out = [] ∨ ∃ (j : Nat) (h : j < l.length), (i : Int) = (j : Int) ∧ Outs l i (cls l[j].f1 a2 a3) a0 b1 a6 out) by
    obtain ⟨out, ho, hs⟩ := hS
    exact ⟨out, Ev.congr (fun k => if_neg h0) (Ev.congr (fun k => if_neg h1) (Ev.congr (fun k => if_pos (by omega)) (Ev.congr (fun k => if_pos (by omega)) (Ev.congr (fun k => if_pos h2) ho)))), hs⟩
  obtain ⟨b, hb⟩ := kept_tot a0
  rw [hb]
  cases b with
  | true => exact ⟨[], Ev.congr (fun k => by rw [Option.bind_some, if_pos rfl]) none_ev, .inl rfl⟩
  | false =>
    obtain ⟨g, hg⟩ := frame_ev a0 b1 a2 a3 a4 a5 a6
    cases g with
    | false => exact ⟨[], Ev.congr (fun k => by rw [Option.bind_some, if_neg (by simp)]) (Ev.bind (a := false) hg none_ev), .inl rfl⟩
    | true =>
      have hc := class_ev (rd_T54 l (i : Int)).f0 (rd_T54 l (i : Int)).f1 (rd_T54 l (i : Int)).f2 (rd_T54 l (i : Int)).f3 a0 b1 a2 a3 a4 a5 a6
      have hcv : cls (rd_T54 l (i : Int)).f1 a2 a3 = cls l[i].f1 a2 a3 := by rw [rd54 hi]
      rw [hcv] at hc
      by_cases hz : cls l[i].f1 a2 a3 = 0
      · refine ⟨[], Ev.congr (fun k => by rw [Option.bind_some, if_neg (by simp)]) (Ev.bind (a := true) hg ?_), .inl rfl⟩
        refine Ev.step (fun k => by rw [relay_Relay.j0, if_neg (by simp), if_pos (by omega), if_pos (by omega)]) (Ev.bind hc ?_)
        exact Ev.congr (fun k => if_pos hz) (Ev.now _)
      · obtain ⟨t, ht, hl, hu, hgo⟩ := targets_ev l hn hm (i : Int) (cls l[i].f1 a2 a3) a0 T
        obtain ⟨out, ho, hs⟩ := relay_loop l hn (i : Int) (cls l[i].f1 a2 a3) a0 b1 a2 a3 a4 a5 a6 t hl hu hgo t.length 0 [] (by omega) rfl (fun x hx => by cases hx)
        refine ⟨out, Ev.congr (fun k => by rw [Option.bind_some, if_neg (by simp)]) (Ev.bind (a := true) hg ?_), .inr ⟨i, hi, rfl, hs⟩⟩
        refine Ev.step (fun k => by rw [relay_Relay.j0, if_neg (by simp), if_pos (by omega), if_pos (by omega)]) (Ev.bind hc ?_)
        exact Ev.congr (fun k => if_neg hz) (Ev.bind ht ho)
def conv (p : S54) : S64 := ⟨p.f0, p.f1, p.f2, p.f3⟩
theorem plain_loop (l : List S54) (hl : l.length * 48 ≤ 140737488351232) (d : Nat) : ∀ (i : Nat) (acc : List S64), i + d = l.length → acc = (l.take i).map conv → ∃ r, Ev (fun k => kissgatelaw19_plain.l0 k l acc l l.length i) r ∧ (r.2 = true → l.length ≤ 10 ∧ r.1 = l.map conv) := by
  induction d with
  | zero => intro i acc hi ha; have : i = l.length := by omega
            subst this
            exact ⟨_, Ev.step (fun k => by rw [kissgatelaw19_plain.l0, if_neg (by omega)]) (Ev.now _), fun h => ⟨by simp at h; omega, by rw [ha, List.take_length]⟩⟩
  | succ d ih =>
    intro i acc hi ha
    have hlt : (i : Int) < l.length := by omega
    have hl2 : i < l.length := by omega
    have hw := nx hl2 (by omega)
    have hal : acc.length = i := by rw [ha, List.length_map, List.length_take]; omega
    by_cases h40 : (((rd_T54 l i).f3).length : Int) > 40
    · exact ⟨_, Ev.step (fun k => by rw [kissgatelaw19_plain.l0, if_pos hlt, if_pos (by omega), if_pos hlt, if_pos h40]) (Ev.now _), fun h => by simp at h⟩
    · obtain ⟨r, hr, h10⟩ := ih (i + 1) (acc ++ [⟨(rd_T54 l i).f0, (rd_T54 l i).f1, (rd_T54 l i).f2, (rd_T54 l i).f3⟩]) (by omega) (by rw [rd54 hl2, List.take_succ_eq_append_getElem hl2, List.map_append, ha]; rfl)
      exact ⟨r, Ev.step (fun k => by rw [kissgatelaw19_plain.l0, if_pos hlt, if_pos (by omega), if_pos hlt, if_neg h40, if_pos (by omega), hw]) hr, h10⟩
theorem alive : Ev (fun k => kissgatelaw19_alive.f k) true := Ev.of kissgatelaw19_alive.mono (k := 12) (by decide +kernel)
theorem new_eq : fdb_New.f = some ([] : List S84) := rfl
theorem same_loop (out : List S63) (hn : out.length ≤ 1000) (d : Nat) : ∀ i : Nat, i + d = out.length → Ev (fun k => kissgatelaw19_RelayBounds.l2 k out out out.length i) true := by
  induction d with
  | zero => intro i hi; exact Ev.step (fun k => by rw [kissgatelaw19_RelayBounds.l2, if_neg (by omega)]) (Ev.now _)
  | succ d ih =>
    intro i hi
    have hlt : (i : Int) < out.length := by omega
    have hl2 : i < out.length := by omega
    exact Ev.step (fun k => by rw [kissgatelaw19_RelayBounds.l2, if_pos hlt, if_pos (by omega), if_pos hlt, if_pos hlt, if_neg (by simp), nx hl2 (by omega)]) (ih (i + 1) (by omega))
theorem in_loop (l : List S54) (i0 : Nat) (hi0 : i0 < l.length) (M : List S64) (hM : M = l.map conv) (q : Int) (out : List S63) (n ix : Int) (a0 b1 : Int) (a2 : Bool) (a3 a4 a5 : Int) (a6 : ByteArray) (y0 y1 y2 : Int) (y3 : Bool) (y4 y5 y6 : Int) (y7 : ByteArray)
    (m : List Int) (hm : m.length ≤ 1000000000000000) (h7 : y7 = a6) (h1 : y1 = a0) (h2 : y2 = b1)
    (hk : Ev (fun k => kissgatelaw19_RelayBounds.l0 k l i0 M q out n (wrap64 (ix + 1)) a0 b1 a2 a3 a4 a5 a6) true) (d : Nat) :
    ∀ (i : Nat) (b : Bool), i + d = m.length → (b = true ∨ cls l[i0].f1 a2 a3 ∈ m.drop i) →
    Ev (fun k => kissgatelaw19_RelayBounds.l1 k l i0 M q b out n ix m m.length i a0 b1 a2 a3 a4 a5 a6 y0 y1 y2 y3 y4 y5 y6 y7) true := by
  subst h7 h1 h2
  induction d with
  | zero =>
    intro i b hi hb
    have : i = m.length := by omega
    subst this
    have hbt : b = true := by
      rcases hb with h | h
      · exact h
      · rw [List.drop_length] at h; cases h
    subst hbt
    exact Ev.step (fun k => by rw [kissgatelaw19_RelayBounds.l1, if_neg (by omega), if_pos rfl, if_pos rfl, if_pos rfl, if_pos rfl]) hk
  | succ d ih =>
    intro i b hi hb
    have hlt : (i : Int) < m.length := by omega
    have hl2 : i < m.length := by omega
    cases b with
    | true => exact Ev.step (fun k => by rw [kissgatelaw19_RelayBounds.l1, if_pos hlt, if_pos (by omega), if_pos hlt, if_pos rfl, nx hl2 hm]) (ih (i + 1) true (by omega) (.inl rfl))
    | false =>
      have hML : M.length = l.length := by rw [hM, List.length_map]
      have hMi : rd_T64 M (i0 : Int) = conv l[i0] := by rw [rd64 (by omega)]; subst hM; rw [List.getElem_map]
      have hc := ref_ev (rd_T64 M (i0 : Int)).f0 (rd_T64 M (i0 : Int)).f1 (rd_T64 M (i0 : Int)).f2 (rd_T64 M (i0 : Int)).f3 y1 y2 a2 a3 a4 a5 y7
      refine Ev.step (fun k => by rw [kissgatelaw19_RelayBounds.l1, if_pos hlt, if_pos (by omega), if_pos hlt, if_neg (by simp), if_pos (by omega), if_pos (by omega)]) (Ev.bind hc ?_)
      have hcv : cls (rd_T64 M (i0 : Int)).f1 a2 a3 = cls l[i0].f1 a2 a3 := by rw [hMi]; rfl
      rw [nx hl2 hm]
      refine ih (i + 1) _ (by omega) ?_
      rw [hcv, rdI hl2]
      rcases hb with h | h
      · cases h
      · rw [List.drop_eq_getElem_cons hl2] at h
        rcases List.mem_cons.1 h with h | h
        · left; rw [h]; simp
        · exact .inr h
theorem law_loop (l : List S54) (hl : l.length ≤ 10) (hm : ∀ p ∈ l, p.f3.length ≤ 1000000000000000) (M : List S64) (hM : M = l.map conv) (a1 a0 b1 : Int) (a2 : Bool) (a3 a4 a5 : Int) (a6 : ByteArray) (out : List S63)
    (ho : out = [] ∨ ∃ (i : Nat) (h : i < l.length), a1 = (i : Int) ∧ Outs l a1 (cls l[i].f1 a2 a3) a0 b1 a6 out) (hol : out.length ≤ 1000) (d : Nat) :
    ∀ (i : Nat) (last : Int), i + d = out.length → (∀ h : i < out.length, last < out[i].f0) → Ev (fun k => kissgatelaw19_RelayBounds.l0 k l a1 M last out out.length i a0 b1 a2 a3 a4 a5 a6) true := by
  induction d with
  | zero =>
    intro i last hi _
    obtain ⟨o, hev, hs⟩ := relay_ev l (by omega) hm a1 a0 b1 a2 a3 a4 a5 a6 []
    have hlo : o.length ≤ 1000 := by
      rcases hs with rfl | ⟨_, _, _, hs⟩
      · exact Nat.zero_le _
      · have := hs.few; omega
    refine Ev.step (fun k => by rw [kissgatelaw19_RelayBounds.l0, if_neg (by omega)]) (Ev.bind hev ?_)
    refine Ev.congr (fun k => by rw [new_eq, Option.bind_some]) (Ev.bind hev ?_)
    exact Ev.congr (fun k => if_pos rfl) (same_loop o hlo o.length 0 (by omega))
  | succ d ih =>
    intro i last hi hlast
    have hlt : (i : Int) < out.length := by omega
    have hl2 : i < out.length := by omega
    rcases ho with rfl | ⟨i0, hi0, rfl, hs⟩
    · simp at hl2
    obtain ⟨j, ej, hj, hne, hf, hv⟩ := hs.goes out[i] (List.getElem_mem hl2)
    obtain ⟨s0, s1, s6⟩ := hs.same out[i] (List.getElem_mem hl2)
    have hML : M.length = l.length := by rw [hM, List.length_map]
    have hMj : rd_T64 M (out[i].f0) = conv l[j] := by rw [ej, rd64 (by omega)]; subst hM; rw [List.getElem_map]
    have hlast' := hlast hl2
    refine Ev.step (fun k => by rw [kissgatelaw19_RelayBounds.l0, if_pos hlt, if_pos (by omega), if_pos hlt, rd63 hl2, if_neg (by omega), if_neg (by omega), if_neg hne, if_pos (by omega), if_pos (by omega)]) ?_
    have hfb : ((rd_T64 M (out[i].f0)).f0 != 2) = false := by rw [hMj]; simp [conv, hf]
    rw [hfb]
    refine Ev.step (fun k => by rw [kissgatelaw19_RelayBounds.j2, if_neg (by simp), if_pos (by omega), if_pos (by omega)]) ?_
    have h3 : (rd_T64 M (out[i].f0)).f3 = l[j].f3 := by rw [hMj]; rfl
    rw [h3]
    refine in_loop l i0 hi0 M hM _ out _ _ a0 b1 a2 a3 a4 a5 a6 _ _ _ _ _ _ _ _ l[j].f3 (hm _ (List.getElem_mem hj)) s6 s0 s1 ?_ l[j].f3.length 0 false (by omega) (.inr (by rw [List.drop_zero]; exact hv))
    rw [nx hl2 (by omega)]
    refine ih (i + 1) _ (by omega) (fun h => ?_)
    exact List.pairwise_iff_getElem.1 hs.ups i (i + 1) hl2 h (by omega)
theorem pure : Pure := by
  intro l a1 f T hl ha hf hT
  refine Ev.rounds ?_
  unfold kissgatelaw19_RelayBounds.f
  refine Ev.bind alive ?_
  simp only [if_true]
  obtain ⟨r, hr, h10⟩ := plain_loop l hl.2.1 l.length 0 [] (by omega) rfl
  refine Ev.bind (a := r) hr ?_
  have hm : ∀ p ∈ l, p.f3.length ≤ 1000000000000000 := fun p hp => by have := (hl.2.2 p hp).2.2.2.2.1; omega
  have ht : ∀ b, (b = false → (l.length ≤ 10 ∧ r.1 = l.map conv) ∧ T.length ≤ 1000) → Ev (fun k => kissgatelaw19_RelayBounds.j0 k l a1 T r.1 b f.f0 f.f1 f.f2 f.f3 f.f4 f.f5 f.f6) true := fun b hb => by
    cases b with
    | true => exact Ev.step (fun k => by rw [kissgatelaw19_RelayBounds.j0, if_pos rfl]) (Ev.now _)
    | false =>
      obtain ⟨⟨hl10, hM⟩, hTl⟩ := hb rfl
      obtain ⟨o, hev, hs⟩ := relay_ev l (by omega) hm a1 f.f0 f.f1 f.f2 f.f3 f.f4 f.f5 f.f6 (tableL T T.length).1
      have hlo : o.length ≤ 1000 := by
        rcases hs with rfl | ⟨_, _, _, hs⟩
        · exact Nat.zero_le _
        · have := hs.few; omega
      refine Ev.step (fun k => by rw [kissgatelaw19_RelayBounds.j0, if_neg (by simp), kissgatelaw19_table.f, if_pos hTl, Option.bind_some]) (Ev.bind hev ?_)
      refine law_loop l hl10 hm r.1 hM a1 f.f0 f.f1 f.f2 f.f3 f.f4 f.f5 f.f6 o hs hlo o.length 0 (-1) (by omega) (fun h => ?_)
      rcases hs with rfl | ⟨_, _, _, hs⟩
      · simp at h
      · obtain ⟨j, ej, _⟩ := hs.goes o[0] (List.getElem_mem h)
        rw [ej]; omega
  by_cases h2 : r.2 = true
  · refine Ev.congr (fun k => if_pos h2) ?_
    by_cases h3 : (T.length : Int) > 40
    · exact Ev.congr (fun k => if_pos h3) (ht true (by simp))
    · exact Ev.congr (fun k => if_neg h3) (ht _ fun _ => ⟨h10 h2, by omega⟩)
  · exact Ev.congr (fun k => if_neg h2) (ht true (by simp))
end Go.Proofs.Ytjhkbmdblfdlnaa.relayBounds
