/- Functions of the program as plain Lean functions, what their calls do, and what follows of it. Conditions: each theorem's own. -/
import Derived.Test.YtbcngajkokjfjaaCTableIsV
namespace Go.Proofs.Ytbcngajkokjfjaa.QTabI
open Go.RowKit Go.Proofs.YtbcngajkokjfjaaW.PrintWords Go.Proofs.YtbcngajkokjfjaaW.PrintLast Go.Proofs.YtbcngajkokjfjaaW.PrintMore
attribute [local go_sem] max2_int min2_int max_two min_two max_three min_three max_four min_four
set_option linter.unusedVariables false
set_option linter.unusedSimpArgs false
def errW : Option Int → Value
  | none => .nilIface
  | some c => .iface 0 (.int .i64 c)
theorem errW_none : errW none = .nilIface := rfl
theorem errW_some (c : Int) : errW (some c) = .iface 0 (.int .i64 c) := rfl
theorem info30 : (Try.prog.info? 30).map (fun i => (i.zero, i.size, i.bytes)) = some (some (.agg #[(.int .i64 0), (.int .i64 0)]), 2, 16) := by kernel_rfl
structure S30 where
  f0 : Int
  f1 : Int
def z30 : S30 := ⟨(0 : Int), (0 : Int)⟩
def k30 : Kd S30 := Kd.iso (Kd.pair (Kd.int .i64) (Kd.int .i64)) (fun x : S30 => (x.f0, x.f1))
theorem k30_open {w : World} {x : S30} {cs : List Value} (h : k30.K w x cs) : cs = [.int .i64 x.f0, .int .i64 x.f1] := by
  obtain ⟨_, _, rfl, rfl, rfl⟩ := h
  exact rfl
theorem k30_mkM (w : World) (base : Nat) (ok : Nat → Prop) (x : S30)  : k30.M w base ok x [.int .i64 x.f0, .int .i64 x.f1] := ⟨[.int .i64 x.f0], [.int .i64 x.f1], rfl, rfl, rfl⟩
def rd_T30 (xs : List S30) (i : Int) : S30 := xs.getD i.toNat z30
theorem at_T30 {w : World} {A : Option Addr} {n : Nat} {xs : List S30} (h : Kd.C k30 w A n xs) (i : Int) (h0 : 0 ≤ i) (h1 : i < n) : ∃ ad , A = some ad ∧ w.cell? (ad.add (i.toNat * 2)) = some (.int .i64 (rd_T30 xs i).f0) ∧ w.cell? ⟨(ad.add (i.toNat * 2)).block, (ad.add (i.toNat * 2)).off + 1, none⟩ = some (.int .i64 (rd_T30 xs i).f1) := by
  obtain ⟨ad, c, e, _, hK, hc0⟩ := Kd.C_get h z30 i h0 h1
  have hc : ∀ j u, c[j]? = some u → w.cell? (ad.add (i.toNat * 2 + j)) = some u := hc0
  obtain rfl := k30_open hK
  exact ⟨ad, e, hc 0 _ rfl, by rw [← add_field _ _ 1 (by omega)]; exact hc 1 _ rfl⟩
def rd_L2 (xs : List (List S30)) (i : Int) : (List S30) := xs.getD i.toNat ([] : List S30)
theorem at_L2 {w : World} {A : Option Addr} {n : Nat} {xs : List (List S30)} (h : Kd.C (Kd.slice 30 k30) w A n xs) (i : Int) (h0 : 0 ≤ i) (h1 : i < n) : ∃ ad A0 c0, A = some ad ∧ w.cell? (ad.add i.toNat) = some (.slice A0 (rd_L2 xs i).length c0) ∧ (rd_L2 xs i).length ≤ c0 ∧ k30.C w A0 (rd_L2 xs i).length (rd_L2 xs i) := by
  obtain ⟨ad, c, e, _, hK, hc0⟩ := Kd.C_get h ([] : List S30) i h0 h1
  have hc : ∀ j u, c[j]? = some u → w.cell? (ad.add (i.toNat * 1 + j)) = some u := hc0
  obtain ⟨A0, c0, rfl, l0, g0⟩ := hK
  exact ⟨ad, A0, c0, e, by have hq := hc 0 _ rfl; rwa [Nat.mul_one, Nat.add_zero] at hq, l0, g0⟩
end Go.Proofs.Ytbcngajkokjfjaa.QTabI
namespace Go.Proofs.Ytbcngajkokjfjaa.QTabI
open Go.RowKit Go.Proofs.YtbcngajkokjfjaaW.PrintWords Go.Proofs.YtbcngajkokjfjaaW.PrintLast Go.Proofs.YtbcngajkokjfjaaW.PrintMore
set_option linter.unusedVariables false
set_option linter.unusedSimpArgs false
def tabNextR : List (List Int) := [[2, 0, 0, 0, 0], [2, 1, 1, 0, 0], [2, 1, 1, 2, 0]]
def tabNextA : List (List Int) := [[1, 0, 0, 0, 0, 1], [1, 4, 1, 1, 2, 1], [2, 4, 2, 2, 3, 1], [3, 4, 2, 2, 3, 1], [2, 4, 4, 4, 0, 1]]
def tabActR : List (List Int) := [[3, 0, 0, 0, 0], [2, 0, 0, 4, 4], [0, 1, 1, 0, 4]]
def tabActA : List (List Int) := [[0, 0, 0, 0, 0, 0], [0, 0, 0, 0, 1, 0], [0, 0, 0, 0, 2, 0], [0, 0, 0, 0, 0, 0], [0, 0, 0, 0, 3, 0]]
def look (t : List (List Int)) (s e : Int) : Option Int := if 0 ≤ s ∧ 0 ≤ e then (t[s.toNat]?).bind fun r => r[e.toNat]? else none
def kissgateref13_Next.f (a0 : Bool) (a1 a2 : Int) : Option Int := if a0 = true then look tabNextA a1 a2 else look tabNextR a1 a2
def kissgateref13_Act.f (a0 : Bool) (a1 a2 : Int) : Option Int := if a0 = true then look tabActA a1 a2 else look tabActR a1 a2
theorem look_some {t : List (List Int)} {s e r : Int} (h : look t s e = some r) : ∃ (i j : Nat) (l : List Int), s = i ∧ e = j ∧ t[i]? = some l ∧ l[j]? = some r := by
  unfold look at h
  split at h
  · rename_i hc
    obtain ⟨i, rfl⟩ := Int.eq_ofNat_of_zero_le hc.1
    obtain ⟨j, rfl⟩ := Int.eq_ofNat_of_zero_le hc.2
    obtain ⟨l, h1, h2⟩ := Option.bind_eq_some_iff.1 h
    exact ⟨i, j, l, rfl, rfl, by simpa using h1, by simpa using h2⟩
  · cases h
set_option maxRecDepth 100000 in
theorem tabNextR_0_0 (w : World) : Calls Try.prog 30 #[.bool false, .int .i64 0, .int .i64 0] w fun e w' => e = .returned (.int .i64 2) ∧ Below w.heap.size w w' := by
  have hi : ∀ w : World, (Instr.index 67 (.agg #[.string ⟨#[50, 48, 48, 48, 48]⟩, .string ⟨#[50, 49, 49, 48, 48]⟩, .string ⟨#[50, 49, 49, 50, 48]⟩]) (.int .i64 0)).run Try.prog w = .ok (.string ⟨#[50, 48, 48, 48, 48]⟩) w := fun _ => by kernel_rfl
  go_enter Try.func30, Try.ntmps30
  go_wp2
  go_ret
  exact ⟨rfl, by repeat (first | exact Below.refl _ _ | apply below_alloc | apply pw_below_drewN | apply below_drew1)⟩
set_option maxRecDepth 100000 in
theorem tabNextR_0_1 (w : World) : Calls Try.prog 30 #[.bool false, .int .i64 0, .int .i64 1] w fun e w' => e = .returned (.int .i64 0) ∧ Below w.heap.size w w' := by
  have hi : ∀ w : World, (Instr.index 67 (.agg #[.string ⟨#[50, 48, 48, 48, 48]⟩, .string ⟨#[50, 49, 49, 48, 48]⟩, .string ⟨#[50, 49, 49, 50, 48]⟩]) (.int .i64 0)).run Try.prog w = .ok (.string ⟨#[50, 48, 48, 48, 48]⟩) w := fun _ => by kernel_rfl
  go_enter Try.func30, Try.ntmps30
  go_wp2
  go_ret
  exact ⟨rfl, by repeat (first | exact Below.refl _ _ | apply below_alloc | apply pw_below_drewN | apply below_drew1)⟩
set_option maxRecDepth 100000 in
theorem tabNextR_0_2 (w : World) : Calls Try.prog 30 #[.bool false, .int .i64 0, .int .i64 2] w fun e w' => e = .returned (.int .i64 0) ∧ Below w.heap.size w w' := by
  have hi : ∀ w : World, (Instr.index 67 (.agg #[.string ⟨#[50, 48, 48, 48, 48]⟩, .string ⟨#[50, 49, 49, 48, 48]⟩, .string ⟨#[50, 49, 49, 50, 48]⟩]) (.int .i64 0)).run Try.prog w = .ok (.string ⟨#[50, 48, 48, 48, 48]⟩) w := fun _ => by kernel_rfl
  go_enter Try.func30, Try.ntmps30
  go_wp2
  go_ret
  exact ⟨rfl, by repeat (first | exact Below.refl _ _ | apply below_alloc | apply pw_below_drewN | apply below_drew1)⟩
set_option maxRecDepth 100000 in
theorem tabNextR_0_3 (w : World) : Calls Try.prog 30 #[.bool false, .int .i64 0, .int .i64 3] w fun e w' => e = .returned (.int .i64 0) ∧ Below w.heap.size w w' := by
  have hi : ∀ w : World, (Instr.index 67 (.agg #[.string ⟨#[50, 48, 48, 48, 48]⟩, .string ⟨#[50, 49, 49, 48, 48]⟩, .string ⟨#[50, 49, 49, 50, 48]⟩]) (.int .i64 0)).run Try.prog w = .ok (.string ⟨#[50, 48, 48, 48, 48]⟩) w := fun _ => by kernel_rfl
  go_enter Try.func30, Try.ntmps30
  go_wp2
  go_ret
  exact ⟨rfl, by repeat (first | exact Below.refl _ _ | apply below_alloc | apply pw_below_drewN | apply below_drew1)⟩
set_option maxRecDepth 100000 in
theorem tabNextR_0_4 (w : World) : Calls Try.prog 30 #[.bool false, .int .i64 0, .int .i64 4] w fun e w' => e = .returned (.int .i64 0) ∧ Below w.heap.size w w' := by
  have hi : ∀ w : World, (Instr.index 67 (.agg #[.string ⟨#[50, 48, 48, 48, 48]⟩, .string ⟨#[50, 49, 49, 48, 48]⟩, .string ⟨#[50, 49, 49, 50, 48]⟩]) (.int .i64 0)).run Try.prog w = .ok (.string ⟨#[50, 48, 48, 48, 48]⟩) w := fun _ => by kernel_rfl
  go_enter Try.func30, Try.ntmps30
  go_wp2
  go_ret
  exact ⟨rfl, by repeat (first | exact Below.refl _ _ | apply below_alloc | apply pw_below_drewN | apply below_drew1)⟩
set_option maxRecDepth 100000 in
theorem tabNextR_1_0 (w : World) : Calls Try.prog 30 #[.bool false, .int .i64 1, .int .i64 0] w fun e w' => e = .returned (.int .i64 2) ∧ Below w.heap.size w w' := by
  have hi : ∀ w : World, (Instr.index 67 (.agg #[.string ⟨#[50, 48, 48, 48, 48]⟩, .string ⟨#[50, 49, 49, 48, 48]⟩, .string ⟨#[50, 49, 49, 50, 48]⟩]) (.int .i64 1)).run Try.prog w = .ok (.string ⟨#[50, 49, 49, 48, 48]⟩) w := fun _ => by kernel_rfl
  go_enter Try.func30, Try.ntmps30
  go_wp2
  go_ret
  exact ⟨rfl, by repeat (first | exact Below.refl _ _ | apply below_alloc | apply pw_below_drewN | apply below_drew1)⟩
set_option maxRecDepth 100000 in
theorem tabNextR_1_1 (w : World) : Calls Try.prog 30 #[.bool false, .int .i64 1, .int .i64 1] w fun e w' => e = .returned (.int .i64 1) ∧ Below w.heap.size w w' := by
  have hi : ∀ w : World, (Instr.index 67 (.agg #[.string ⟨#[50, 48, 48, 48, 48]⟩, .string ⟨#[50, 49, 49, 48, 48]⟩, .string ⟨#[50, 49, 49, 50, 48]⟩]) (.int .i64 1)).run Try.prog w = .ok (.string ⟨#[50, 49, 49, 48, 48]⟩) w := fun _ => by kernel_rfl
  go_enter Try.func30, Try.ntmps30
  go_wp2
  go_ret
  exact ⟨rfl, by repeat (first | exact Below.refl _ _ | apply below_alloc | apply pw_below_drewN | apply below_drew1)⟩
set_option maxRecDepth 100000 in
theorem tabNextR_1_2 (w : World) : Calls Try.prog 30 #[.bool false, .int .i64 1, .int .i64 2] w fun e w' => e = .returned (.int .i64 1) ∧ Below w.heap.size w w' := by
  have hi : ∀ w : World, (Instr.index 67 (.agg #[.string ⟨#[50, 48, 48, 48, 48]⟩, .string ⟨#[50, 49, 49, 48, 48]⟩, .string ⟨#[50, 49, 49, 50, 48]⟩]) (.int .i64 1)).run Try.prog w = .ok (.string ⟨#[50, 49, 49, 48, 48]⟩) w := fun _ => by kernel_rfl
  go_enter Try.func30, Try.ntmps30
  go_wp2
  go_ret
  exact ⟨rfl, by repeat (first | exact Below.refl _ _ | apply below_alloc | apply pw_below_drewN | apply below_drew1)⟩
set_option maxRecDepth 100000 in
theorem tabNextR_1_3 (w : World) : Calls Try.prog 30 #[.bool false, .int .i64 1, .int .i64 3] w fun e w' => e = .returned (.int .i64 0) ∧ Below w.heap.size w w' := by
  have hi : ∀ w : World, (Instr.index 67 (.agg #[.string ⟨#[50, 48, 48, 48, 48]⟩, .string ⟨#[50, 49, 49, 48, 48]⟩, .string ⟨#[50, 49, 49, 50, 48]⟩]) (.int .i64 1)).run Try.prog w = .ok (.string ⟨#[50, 49, 49, 48, 48]⟩) w := fun _ => by kernel_rfl
  go_enter Try.func30, Try.ntmps30
  go_wp2
  go_ret
  exact ⟨rfl, by repeat (first | exact Below.refl _ _ | apply below_alloc | apply pw_below_drewN | apply below_drew1)⟩
set_option maxRecDepth 100000 in
theorem tabNextR_1_4 (w : World) : Calls Try.prog 30 #[.bool false, .int .i64 1, .int .i64 4] w fun e w' => e = .returned (.int .i64 0) ∧ Below w.heap.size w w' := by
  have hi : ∀ w : World, (Instr.index 67 (.agg #[.string ⟨#[50, 48, 48, 48, 48]⟩, .string ⟨#[50, 49, 49, 48, 48]⟩, .string ⟨#[50, 49, 49, 50, 48]⟩]) (.int .i64 1)).run Try.prog w = .ok (.string ⟨#[50, 49, 49, 48, 48]⟩) w := fun _ => by kernel_rfl
  go_enter Try.func30, Try.ntmps30
  go_wp2
  go_ret
  exact ⟨rfl, by repeat (first | exact Below.refl _ _ | apply below_alloc | apply pw_below_drewN | apply below_drew1)⟩
set_option maxRecDepth 100000 in
theorem tabNextR_2_0 (w : World) : Calls Try.prog 30 #[.bool false, .int .i64 2, .int .i64 0] w fun e w' => e = .returned (.int .i64 2) ∧ Below w.heap.size w w' := by
  have hi : ∀ w : World, (Instr.index 67 (.agg #[.string ⟨#[50, 48, 48, 48, 48]⟩, .string ⟨#[50, 49, 49, 48, 48]⟩, .string ⟨#[50, 49, 49, 50, 48]⟩]) (.int .i64 2)).run Try.prog w = .ok (.string ⟨#[50, 49, 49, 50, 48]⟩) w := fun _ => by kernel_rfl
  go_enter Try.func30, Try.ntmps30
  go_wp2
  go_ret
  exact ⟨rfl, by repeat (first | exact Below.refl _ _ | apply below_alloc | apply pw_below_drewN | apply below_drew1)⟩
set_option maxRecDepth 100000 in
theorem tabNextR_2_1 (w : World) : Calls Try.prog 30 #[.bool false, .int .i64 2, .int .i64 1] w fun e w' => e = .returned (.int .i64 1) ∧ Below w.heap.size w w' := by
  have hi : ∀ w : World, (Instr.index 67 (.agg #[.string ⟨#[50, 48, 48, 48, 48]⟩, .string ⟨#[50, 49, 49, 48, 48]⟩, .string ⟨#[50, 49, 49, 50, 48]⟩]) (.int .i64 2)).run Try.prog w = .ok (.string ⟨#[50, 49, 49, 50, 48]⟩) w := fun _ => by kernel_rfl
  go_enter Try.func30, Try.ntmps30
  go_wp2
  go_ret
  exact ⟨rfl, by repeat (first | exact Below.refl _ _ | apply below_alloc | apply pw_below_drewN | apply below_drew1)⟩
set_option maxRecDepth 100000 in
theorem tabNextR_2_2 (w : World) : Calls Try.prog 30 #[.bool false, .int .i64 2, .int .i64 2] w fun e w' => e = .returned (.int .i64 1) ∧ Below w.heap.size w w' := by
  have hi : ∀ w : World, (Instr.index 67 (.agg #[.string ⟨#[50, 48, 48, 48, 48]⟩, .string ⟨#[50, 49, 49, 48, 48]⟩, .string ⟨#[50, 49, 49, 50, 48]⟩]) (.int .i64 2)).run Try.prog w = .ok (.string ⟨#[50, 49, 49, 50, 48]⟩) w := fun _ => by kernel_rfl
  go_enter Try.func30, Try.ntmps30
  go_wp2
  go_ret
  exact ⟨rfl, by repeat (first | exact Below.refl _ _ | apply below_alloc | apply pw_below_drewN | apply below_drew1)⟩
set_option maxRecDepth 100000 in
theorem tabNextR_2_3 (w : World) : Calls Try.prog 30 #[.bool false, .int .i64 2, .int .i64 3] w fun e w' => e = .returned (.int .i64 2) ∧ Below w.heap.size w w' := by
  have hi : ∀ w : World, (Instr.index 67 (.agg #[.string ⟨#[50, 48, 48, 48, 48]⟩, .string ⟨#[50, 49, 49, 48, 48]⟩, .string ⟨#[50, 49, 49, 50, 48]⟩]) (.int .i64 2)).run Try.prog w = .ok (.string ⟨#[50, 49, 49, 50, 48]⟩) w := fun _ => by kernel_rfl
  go_enter Try.func30, Try.ntmps30
  go_wp2
  go_ret
  exact ⟨rfl, by repeat (first | exact Below.refl _ _ | apply below_alloc | apply pw_below_drewN | apply below_drew1)⟩
set_option maxRecDepth 100000 in
theorem tabNextR_2_4 (w : World) : Calls Try.prog 30 #[.bool false, .int .i64 2, .int .i64 4] w fun e w' => e = .returned (.int .i64 0) ∧ Below w.heap.size w w' := by
  have hi : ∀ w : World, (Instr.index 67 (.agg #[.string ⟨#[50, 48, 48, 48, 48]⟩, .string ⟨#[50, 49, 49, 48, 48]⟩, .string ⟨#[50, 49, 49, 50, 48]⟩]) (.int .i64 2)).run Try.prog w = .ok (.string ⟨#[50, 49, 49, 50, 48]⟩) w := fun _ => by kernel_rfl
  go_enter Try.func30, Try.ntmps30
  go_wp2
  go_ret
  exact ⟨rfl, by repeat (first | exact Below.refl _ _ | apply below_alloc | apply pw_below_drewN | apply below_drew1)⟩
set_option maxRecDepth 100000 in
theorem tabNextA_0_0 (w : World) : Calls Try.prog 30 #[.bool true, .int .i64 0, .int .i64 0] w fun e w' => e = .returned (.int .i64 1) ∧ Below w.heap.size w w' := by
  have hi : ∀ w : World, (Instr.index 68 (.agg #[.string ⟨#[49, 48, 48, 48, 48, 49]⟩, .string ⟨#[49, 52, 49, 49, 50, 49]⟩, .string ⟨#[50, 52, 50, 50, 51, 49]⟩, .string ⟨#[51, 52, 50, 50, 51, 49]⟩, .string ⟨#[50, 52, 52, 52, 48, 49]⟩]) (.int .i64 0)).run Try.prog w = .ok (.string ⟨#[49, 48, 48, 48, 48, 49]⟩) w := fun _ => by kernel_rfl
  go_enter Try.func30, Try.ntmps30
  go_wp2
  go_ret
  exact ⟨rfl, by repeat (first | exact Below.refl _ _ | apply below_alloc | apply pw_below_drewN | apply below_drew1)⟩
set_option maxRecDepth 100000 in
theorem tabNextA_0_1 (w : World) : Calls Try.prog 30 #[.bool true, .int .i64 0, .int .i64 1] w fun e w' => e = .returned (.int .i64 0) ∧ Below w.heap.size w w' := by
  have hi : ∀ w : World, (Instr.index 68 (.agg #[.string ⟨#[49, 48, 48, 48, 48, 49]⟩, .string ⟨#[49, 52, 49, 49, 50, 49]⟩, .string ⟨#[50, 52, 50, 50, 51, 49]⟩, .string ⟨#[51, 52, 50, 50, 51, 49]⟩, .string ⟨#[50, 52, 52, 52, 48, 49]⟩]) (.int .i64 0)).run Try.prog w = .ok (.string ⟨#[49, 48, 48, 48, 48, 49]⟩) w := fun _ => by kernel_rfl
  go_enter Try.func30, Try.ntmps30
  go_wp2
  go_ret
  exact ⟨rfl, by repeat (first | exact Below.refl _ _ | apply below_alloc | apply pw_below_drewN | apply below_drew1)⟩
set_option maxRecDepth 100000 in
theorem tabNextA_0_2 (w : World) : Calls Try.prog 30 #[.bool true, .int .i64 0, .int .i64 2] w fun e w' => e = .returned (.int .i64 0) ∧ Below w.heap.size w w' := by
  have hi : ∀ w : World, (Instr.index 68 (.agg #[.string ⟨#[49, 48, 48, 48, 48, 49]⟩, .string ⟨#[49, 52, 49, 49, 50, 49]⟩, .string ⟨#[50, 52, 50, 50, 51, 49]⟩, .string ⟨#[51, 52, 50, 50, 51, 49]⟩, .string ⟨#[50, 52, 52, 52, 48, 49]⟩]) (.int .i64 0)).run Try.prog w = .ok (.string ⟨#[49, 48, 48, 48, 48, 49]⟩) w := fun _ => by kernel_rfl
  go_enter Try.func30, Try.ntmps30
  go_wp2
  go_ret
  exact ⟨rfl, by repeat (first | exact Below.refl _ _ | apply below_alloc | apply pw_below_drewN | apply below_drew1)⟩
set_option maxRecDepth 100000 in
theorem tabNextA_0_3 (w : World) : Calls Try.prog 30 #[.bool true, .int .i64 0, .int .i64 3] w fun e w' => e = .returned (.int .i64 0) ∧ Below w.heap.size w w' := by
  have hi : ∀ w : World, (Instr.index 68 (.agg #[.string ⟨#[49, 48, 48, 48, 48, 49]⟩, .string ⟨#[49, 52, 49, 49, 50, 49]⟩, .string ⟨#[50, 52, 50, 50, 51, 49]⟩, .string ⟨#[51, 52, 50, 50, 51, 49]⟩, .string ⟨#[50, 52, 52, 52, 48, 49]⟩]) (.int .i64 0)).run Try.prog w = .ok (.string ⟨#[49, 48, 48, 48, 48, 49]⟩) w := fun _ => by kernel_rfl
  go_enter Try.func30, Try.ntmps30
  go_wp2
  go_ret
  exact ⟨rfl, by repeat (first | exact Below.refl _ _ | apply below_alloc | apply pw_below_drewN | apply below_drew1)⟩
set_option maxRecDepth 100000 in
theorem tabNextA_0_4 (w : World) : Calls Try.prog 30 #[.bool true, .int .i64 0, .int .i64 4] w fun e w' => e = .returned (.int .i64 0) ∧ Below w.heap.size w w' := by
  have hi : ∀ w : World, (Instr.index 68 (.agg #[.string ⟨#[49, 48, 48, 48, 48, 49]⟩, .string ⟨#[49, 52, 49, 49, 50, 49]⟩, .string ⟨#[50, 52, 50, 50, 51, 49]⟩, .string ⟨#[51, 52, 50, 50, 51, 49]⟩, .string ⟨#[50, 52, 52, 52, 48, 49]⟩]) (.int .i64 0)).run Try.prog w = .ok (.string ⟨#[49, 48, 48, 48, 48, 49]⟩) w := fun _ => by kernel_rfl
  go_enter Try.func30, Try.ntmps30
  go_wp2
  go_ret
  exact ⟨rfl, by repeat (first | exact Below.refl _ _ | apply below_alloc | apply pw_below_drewN | apply below_drew1)⟩
set_option maxRecDepth 100000 in
theorem tabNextA_0_5 (w : World) : Calls Try.prog 30 #[.bool true, .int .i64 0, .int .i64 5] w fun e w' => e = .returned (.int .i64 1) ∧ Below w.heap.size w w' := by
  have hi : ∀ w : World, (Instr.index 68 (.agg #[.string ⟨#[49, 48, 48, 48, 48, 49]⟩, .string ⟨#[49, 52, 49, 49, 50, 49]⟩, .string ⟨#[50, 52, 50, 50, 51, 49]⟩, .string ⟨#[51, 52, 50, 50, 51, 49]⟩, .string ⟨#[50, 52, 52, 52, 48, 49]⟩]) (.int .i64 0)).run Try.prog w = .ok (.string ⟨#[49, 48, 48, 48, 48, 49]⟩) w := fun _ => by kernel_rfl
  go_enter Try.func30, Try.ntmps30
  go_wp2
  go_ret
  exact ⟨rfl, by repeat (first | exact Below.refl _ _ | apply below_alloc | apply pw_below_drewN | apply below_drew1)⟩
set_option maxRecDepth 100000 in
theorem tabNextA_1_0 (w : World) : Calls Try.prog 30 #[.bool true, .int .i64 1, .int .i64 0] w fun e w' => e = .returned (.int .i64 1) ∧ Below w.heap.size w w' := by
  have hi : ∀ w : World, (Instr.index 68 (.agg #[.string ⟨#[49, 48, 48, 48, 48, 49]⟩, .string ⟨#[49, 52, 49, 49, 50, 49]⟩, .string ⟨#[50, 52, 50, 50, 51, 49]⟩, .string ⟨#[51, 52, 50, 50, 51, 49]⟩, .string ⟨#[50, 52, 52, 52, 48, 49]⟩]) (.int .i64 1)).run Try.prog w = .ok (.string ⟨#[49, 52, 49, 49, 50, 49]⟩) w := fun _ => by kernel_rfl
  go_enter Try.func30, Try.ntmps30
  go_wp2
  go_ret
  exact ⟨rfl, by repeat (first | exact Below.refl _ _ | apply below_alloc | apply pw_below_drewN | apply below_drew1)⟩
set_option maxRecDepth 100000 in
theorem tabNextA_1_1 (w : World) : Calls Try.prog 30 #[.bool true, .int .i64 1, .int .i64 1] w fun e w' => e = .returned (.int .i64 4) ∧ Below w.heap.size w w' := by
  have hi : ∀ w : World, (Instr.index 68 (.agg #[.string ⟨#[49, 48, 48, 48, 48, 49]⟩, .string ⟨#[49, 52, 49, 49, 50, 49]⟩, .string ⟨#[50, 52, 50, 50, 51, 49]⟩, .string ⟨#[51, 52, 50, 50, 51, 49]⟩, .string ⟨#[50, 52, 52, 52, 48, 49]⟩]) (.int .i64 1)).run Try.prog w = .ok (.string ⟨#[49, 52, 49, 49, 50, 49]⟩) w := fun _ => by kernel_rfl
  go_enter Try.func30, Try.ntmps30
  go_wp2
  go_ret
  exact ⟨rfl, by repeat (first | exact Below.refl _ _ | apply below_alloc | apply pw_below_drewN | apply below_drew1)⟩
set_option maxRecDepth 100000 in
theorem tabNextA_1_2 (w : World) : Calls Try.prog 30 #[.bool true, .int .i64 1, .int .i64 2] w fun e w' => e = .returned (.int .i64 1) ∧ Below w.heap.size w w' := by
  have hi : ∀ w : World, (Instr.index 68 (.agg #[.string ⟨#[49, 48, 48, 48, 48, 49]⟩, .string ⟨#[49, 52, 49, 49, 50, 49]⟩, .string ⟨#[50, 52, 50, 50, 51, 49]⟩, .string ⟨#[51, 52, 50, 50, 51, 49]⟩, .string ⟨#[50, 52, 52, 52, 48, 49]⟩]) (.int .i64 1)).run Try.prog w = .ok (.string ⟨#[49, 52, 49, 49, 50, 49]⟩) w := fun _ => by kernel_rfl
  go_enter Try.func30, Try.ntmps30
  go_wp2
  go_ret
  exact ⟨rfl, by repeat (first | exact Below.refl _ _ | apply below_alloc | apply pw_below_drewN | apply below_drew1)⟩
set_option maxRecDepth 100000 in
theorem tabNextA_1_3 (w : World) : Calls Try.prog 30 #[.bool true, .int .i64 1, .int .i64 3] w fun e w' => e = .returned (.int .i64 1) ∧ Below w.heap.size w w' := by
  have hi : ∀ w : World, (Instr.index 68 (.agg #[.string ⟨#[49, 48, 48, 48, 48, 49]⟩, .string ⟨#[49, 52, 49, 49, 50, 49]⟩, .string ⟨#[50, 52, 50, 50, 51, 49]⟩, .string ⟨#[51, 52, 50, 50, 51, 49]⟩, .string ⟨#[50, 52, 52, 52, 48, 49]⟩]) (.int .i64 1)).run Try.prog w = .ok (.string ⟨#[49, 52, 49, 49, 50, 49]⟩) w := fun _ => by kernel_rfl
  go_enter Try.func30, Try.ntmps30
  go_wp2
  go_ret
  exact ⟨rfl, by repeat (first | exact Below.refl _ _ | apply below_alloc | apply pw_below_drewN | apply below_drew1)⟩
set_option maxRecDepth 100000 in
theorem tabNextA_1_4 (w : World) : Calls Try.prog 30 #[.bool true, .int .i64 1, .int .i64 4] w fun e w' => e = .returned (.int .i64 2) ∧ Below w.heap.size w w' := by
  have hi : ∀ w : World, (Instr.index 68 (.agg #[.string ⟨#[49, 48, 48, 48, 48, 49]⟩, .string ⟨#[49, 52, 49, 49, 50, 49]⟩, .string ⟨#[50, 52, 50, 50, 51, 49]⟩, .string ⟨#[51, 52, 50, 50, 51, 49]⟩, .string ⟨#[50, 52, 52, 52, 48, 49]⟩]) (.int .i64 1)).run Try.prog w = .ok (.string ⟨#[49, 52, 49, 49, 50, 49]⟩) w := fun _ => by kernel_rfl
  go_enter Try.func30, Try.ntmps30
  go_wp2
  go_ret
  exact ⟨rfl, by repeat (first | exact Below.refl _ _ | apply below_alloc | apply pw_below_drewN | apply below_drew1)⟩
set_option maxRecDepth 100000 in
theorem tabNextA_1_5 (w : World) : Calls Try.prog 30 #[.bool true, .int .i64 1, .int .i64 5] w fun e w' => e = .returned (.int .i64 1) ∧ Below w.heap.size w w' := by
  have hi : ∀ w : World, (Instr.index 68 (.agg #[.string ⟨#[49, 48, 48, 48, 48, 49]⟩, .string ⟨#[49, 52, 49, 49, 50, 49]⟩, .string ⟨#[50, 52, 50, 50, 51, 49]⟩, .string ⟨#[51, 52, 50, 50, 51, 49]⟩, .string ⟨#[50, 52, 52, 52, 48, 49]⟩]) (.int .i64 1)).run Try.prog w = .ok (.string ⟨#[49, 52, 49, 49, 50, 49]⟩) w := fun _ => by kernel_rfl
  go_enter Try.func30, Try.ntmps30
  go_wp2
  go_ret
  exact ⟨rfl, by repeat (first | exact Below.refl _ _ | apply below_alloc | apply pw_below_drewN | apply below_drew1)⟩
set_option maxRecDepth 100000 in
theorem tabNextA_2_0 (w : World) : Calls Try.prog 30 #[.bool true, .int .i64 2, .int .i64 0] w fun e w' => e = .returned (.int .i64 2) ∧ Below w.heap.size w w' := by
  have hi : ∀ w : World, (Instr.index 68 (.agg #[.string ⟨#[49, 48, 48, 48, 48, 49]⟩, .string ⟨#[49, 52, 49, 49, 50, 49]⟩, .string ⟨#[50, 52, 50, 50, 51, 49]⟩, .string ⟨#[51, 52, 50, 50, 51, 49]⟩, .string ⟨#[50, 52, 52, 52, 48, 49]⟩]) (.int .i64 2)).run Try.prog w = .ok (.string ⟨#[50, 52, 50, 50, 51, 49]⟩) w := fun _ => by kernel_rfl
  go_enter Try.func30, Try.ntmps30
  go_wp2
  go_ret
  exact ⟨rfl, by repeat (first | exact Below.refl _ _ | apply below_alloc | apply pw_below_drewN | apply below_drew1)⟩
set_option maxRecDepth 100000 in
theorem tabNextA_2_1 (w : World) : Calls Try.prog 30 #[.bool true, .int .i64 2, .int .i64 1] w fun e w' => e = .returned (.int .i64 4) ∧ Below w.heap.size w w' := by
  have hi : ∀ w : World, (Instr.index 68 (.agg #[.string ⟨#[49, 48, 48, 48, 48, 49]⟩, .string ⟨#[49, 52, 49, 49, 50, 49]⟩, .string ⟨#[50, 52, 50, 50, 51, 49]⟩, .string ⟨#[51, 52, 50, 50, 51, 49]⟩, .string ⟨#[50, 52, 52, 52, 48, 49]⟩]) (.int .i64 2)).run Try.prog w = .ok (.string ⟨#[50, 52, 50, 50, 51, 49]⟩) w := fun _ => by kernel_rfl
  go_enter Try.func30, Try.ntmps30
  go_wp2
  go_ret
  exact ⟨rfl, by repeat (first | exact Below.refl _ _ | apply below_alloc | apply pw_below_drewN | apply below_drew1)⟩
set_option maxRecDepth 100000 in
theorem tabNextA_2_2 (w : World) : Calls Try.prog 30 #[.bool true, .int .i64 2, .int .i64 2] w fun e w' => e = .returned (.int .i64 2) ∧ Below w.heap.size w w' := by
  have hi : ∀ w : World, (Instr.index 68 (.agg #[.string ⟨#[49, 48, 48, 48, 48, 49]⟩, .string ⟨#[49, 52, 49, 49, 50, 49]⟩, .string ⟨#[50, 52, 50, 50, 51, 49]⟩, .string ⟨#[51, 52, 50, 50, 51, 49]⟩, .string ⟨#[50, 52, 52, 52, 48, 49]⟩]) (.int .i64 2)).run Try.prog w = .ok (.string ⟨#[50, 52, 50, 50, 51, 49]⟩) w := fun _ => by kernel_rfl
  go_enter Try.func30, Try.ntmps30
  go_wp2
  go_ret
  exact ⟨rfl, by repeat (first | exact Below.refl _ _ | apply below_alloc | apply pw_below_drewN | apply below_drew1)⟩
set_option maxRecDepth 100000 in
theorem tabNextA_2_3 (w : World) : Calls Try.prog 30 #[.bool true, .int .i64 2, .int .i64 3] w fun e w' => e = .returned (.int .i64 2) ∧ Below w.heap.size w w' := by
  have hi : ∀ w : World, (Instr.index 68 (.agg #[.string ⟨#[49, 48, 48, 48, 48, 49]⟩, .string ⟨#[49, 52, 49, 49, 50, 49]⟩, .string ⟨#[50, 52, 50, 50, 51, 49]⟩, .string ⟨#[51, 52, 50, 50, 51, 49]⟩, .string ⟨#[50, 52, 52, 52, 48, 49]⟩]) (.int .i64 2)).run Try.prog w = .ok (.string ⟨#[50, 52, 50, 50, 51, 49]⟩) w := fun _ => by kernel_rfl
  go_enter Try.func30, Try.ntmps30
  go_wp2
  go_ret
  exact ⟨rfl, by repeat (first | exact Below.refl _ _ | apply below_alloc | apply pw_below_drewN | apply below_drew1)⟩
set_option maxRecDepth 100000 in
theorem tabNextA_2_4 (w : World) : Calls Try.prog 30 #[.bool true, .int .i64 2, .int .i64 4] w fun e w' => e = .returned (.int .i64 3) ∧ Below w.heap.size w w' := by
  have hi : ∀ w : World, (Instr.index 68 (.agg #[.string ⟨#[49, 48, 48, 48, 48, 49]⟩, .string ⟨#[49, 52, 49, 49, 50, 49]⟩, .string ⟨#[50, 52, 50, 50, 51, 49]⟩, .string ⟨#[51, 52, 50, 50, 51, 49]⟩, .string ⟨#[50, 52, 52, 52, 48, 49]⟩]) (.int .i64 2)).run Try.prog w = .ok (.string ⟨#[50, 52, 50, 50, 51, 49]⟩) w := fun _ => by kernel_rfl
  go_enter Try.func30, Try.ntmps30
  go_wp2
  go_ret
  exact ⟨rfl, by repeat (first | exact Below.refl _ _ | apply below_alloc | apply pw_below_drewN | apply below_drew1)⟩
set_option maxRecDepth 100000 in
theorem tabNextA_2_5 (w : World) : Calls Try.prog 30 #[.bool true, .int .i64 2, .int .i64 5] w fun e w' => e = .returned (.int .i64 1) ∧ Below w.heap.size w w' := by
  have hi : ∀ w : World, (Instr.index 68 (.agg #[.string ⟨#[49, 48, 48, 48, 48, 49]⟩, .string ⟨#[49, 52, 49, 49, 50, 49]⟩, .string ⟨#[50, 52, 50, 50, 51, 49]⟩, .string ⟨#[51, 52, 50, 50, 51, 49]⟩, .string ⟨#[50, 52, 52, 52, 48, 49]⟩]) (.int .i64 2)).run Try.prog w = .ok (.string ⟨#[50, 52, 50, 50, 51, 49]⟩) w := fun _ => by kernel_rfl
  go_enter Try.func30, Try.ntmps30
  go_wp2
  go_ret
  exact ⟨rfl, by repeat (first | exact Below.refl _ _ | apply below_alloc | apply pw_below_drewN | apply below_drew1)⟩
set_option maxRecDepth 100000 in
theorem tabNextA_3_0 (w : World) : Calls Try.prog 30 #[.bool true, .int .i64 3, .int .i64 0] w fun e w' => e = .returned (.int .i64 3) ∧ Below w.heap.size w w' := by
  have hi : ∀ w : World, (Instr.index 68 (.agg #[.string ⟨#[49, 48, 48, 48, 48, 49]⟩, .string ⟨#[49, 52, 49, 49, 50, 49]⟩, .string ⟨#[50, 52, 50, 50, 51, 49]⟩, .string ⟨#[51, 52, 50, 50, 51, 49]⟩, .string ⟨#[50, 52, 52, 52, 48, 49]⟩]) (.int .i64 3)).run Try.prog w = .ok (.string ⟨#[51, 52, 50, 50, 51, 49]⟩) w := fun _ => by kernel_rfl
  go_enter Try.func30, Try.ntmps30
  go_wp2
  go_ret
  exact ⟨rfl, by repeat (first | exact Below.refl _ _ | apply below_alloc | apply pw_below_drewN | apply below_drew1)⟩
set_option maxRecDepth 100000 in
theorem tabNextA_3_1 (w : World) : Calls Try.prog 30 #[.bool true, .int .i64 3, .int .i64 1] w fun e w' => e = .returned (.int .i64 4) ∧ Below w.heap.size w w' := by
  have hi : ∀ w : World, (Instr.index 68 (.agg #[.string ⟨#[49, 48, 48, 48, 48, 49]⟩, .string ⟨#[49, 52, 49, 49, 50, 49]⟩, .string ⟨#[50, 52, 50, 50, 51, 49]⟩, .string ⟨#[51, 52, 50, 50, 51, 49]⟩, .string ⟨#[50, 52, 52, 52, 48, 49]⟩]) (.int .i64 3)).run Try.prog w = .ok (.string ⟨#[51, 52, 50, 50, 51, 49]⟩) w := fun _ => by kernel_rfl
  go_enter Try.func30, Try.ntmps30
  go_wp2
  go_ret
  exact ⟨rfl, by repeat (first | exact Below.refl _ _ | apply below_alloc | apply pw_below_drewN | apply below_drew1)⟩
set_option maxRecDepth 100000 in
theorem tabNextA_3_2 (w : World) : Calls Try.prog 30 #[.bool true, .int .i64 3, .int .i64 2] w fun e w' => e = .returned (.int .i64 2) ∧ Below w.heap.size w w' := by
  have hi : ∀ w : World, (Instr.index 68 (.agg #[.string ⟨#[49, 48, 48, 48, 48, 49]⟩, .string ⟨#[49, 52, 49, 49, 50, 49]⟩, .string ⟨#[50, 52, 50, 50, 51, 49]⟩, .string ⟨#[51, 52, 50, 50, 51, 49]⟩, .string ⟨#[50, 52, 52, 52, 48, 49]⟩]) (.int .i64 3)).run Try.prog w = .ok (.string ⟨#[51, 52, 50, 50, 51, 49]⟩) w := fun _ => by kernel_rfl
  go_enter Try.func30, Try.ntmps30
  go_wp2
  go_ret
  exact ⟨rfl, by repeat (first | exact Below.refl _ _ | apply below_alloc | apply pw_below_drewN | apply below_drew1)⟩
set_option maxRecDepth 100000 in
theorem tabNextA_3_3 (w : World) : Calls Try.prog 30 #[.bool true, .int .i64 3, .int .i64 3] w fun e w' => e = .returned (.int .i64 2) ∧ Below w.heap.size w w' := by
  have hi : ∀ w : World, (Instr.index 68 (.agg #[.string ⟨#[49, 48, 48, 48, 48, 49]⟩, .string ⟨#[49, 52, 49, 49, 50, 49]⟩, .string ⟨#[50, 52, 50, 50, 51, 49]⟩, .string ⟨#[51, 52, 50, 50, 51, 49]⟩, .string ⟨#[50, 52, 52, 52, 48, 49]⟩]) (.int .i64 3)).run Try.prog w = .ok (.string ⟨#[51, 52, 50, 50, 51, 49]⟩) w := fun _ => by kernel_rfl
  go_enter Try.func30, Try.ntmps30
  go_wp2
  go_ret
  exact ⟨rfl, by repeat (first | exact Below.refl _ _ | apply below_alloc | apply pw_below_drewN | apply below_drew1)⟩
set_option maxRecDepth 100000 in
theorem tabNextA_3_4 (w : World) : Calls Try.prog 30 #[.bool true, .int .i64 3, .int .i64 4] w fun e w' => e = .returned (.int .i64 3) ∧ Below w.heap.size w w' := by
  have hi : ∀ w : World, (Instr.index 68 (.agg #[.string ⟨#[49, 48, 48, 48, 48, 49]⟩, .string ⟨#[49, 52, 49, 49, 50, 49]⟩, .string ⟨#[50, 52, 50, 50, 51, 49]⟩, .string ⟨#[51, 52, 50, 50, 51, 49]⟩, .string ⟨#[50, 52, 52, 52, 48, 49]⟩]) (.int .i64 3)).run Try.prog w = .ok (.string ⟨#[51, 52, 50, 50, 51, 49]⟩) w := fun _ => by kernel_rfl
  go_enter Try.func30, Try.ntmps30
  go_wp2
  go_ret
  exact ⟨rfl, by repeat (first | exact Below.refl _ _ | apply below_alloc | apply pw_below_drewN | apply below_drew1)⟩
set_option maxRecDepth 100000 in
theorem tabNextA_3_5 (w : World) : Calls Try.prog 30 #[.bool true, .int .i64 3, .int .i64 5] w fun e w' => e = .returned (.int .i64 1) ∧ Below w.heap.size w w' := by
  have hi : ∀ w : World, (Instr.index 68 (.agg #[.string ⟨#[49, 48, 48, 48, 48, 49]⟩, .string ⟨#[49, 52, 49, 49, 50, 49]⟩, .string ⟨#[50, 52, 50, 50, 51, 49]⟩, .string ⟨#[51, 52, 50, 50, 51, 49]⟩, .string ⟨#[50, 52, 52, 52, 48, 49]⟩]) (.int .i64 3)).run Try.prog w = .ok (.string ⟨#[51, 52, 50, 50, 51, 49]⟩) w := fun _ => by kernel_rfl
  go_enter Try.func30, Try.ntmps30
  go_wp2
  go_ret
  exact ⟨rfl, by repeat (first | exact Below.refl _ _ | apply below_alloc | apply pw_below_drewN | apply below_drew1)⟩
set_option maxRecDepth 100000 in
theorem tabNextA_4_0 (w : World) : Calls Try.prog 30 #[.bool true, .int .i64 4, .int .i64 0] w fun e w' => e = .returned (.int .i64 2) ∧ Below w.heap.size w w' := by
  have hi : ∀ w : World, (Instr.index 68 (.agg #[.string ⟨#[49, 48, 48, 48, 48, 49]⟩, .string ⟨#[49, 52, 49, 49, 50, 49]⟩, .string ⟨#[50, 52, 50, 50, 51, 49]⟩, .string ⟨#[51, 52, 50, 50, 51, 49]⟩, .string ⟨#[50, 52, 52, 52, 48, 49]⟩]) (.int .i64 4)).run Try.prog w = .ok (.string ⟨#[50, 52, 52, 52, 48, 49]⟩) w := fun _ => by kernel_rfl
  go_enter Try.func30, Try.ntmps30
  go_wp2
  go_ret
  exact ⟨rfl, by repeat (first | exact Below.refl _ _ | apply below_alloc | apply pw_below_drewN | apply below_drew1)⟩
set_option maxRecDepth 100000 in
theorem tabNextA_4_1 (w : World) : Calls Try.prog 30 #[.bool true, .int .i64 4, .int .i64 1] w fun e w' => e = .returned (.int .i64 4) ∧ Below w.heap.size w w' := by
  have hi : ∀ w : World, (Instr.index 68 (.agg #[.string ⟨#[49, 48, 48, 48, 48, 49]⟩, .string ⟨#[49, 52, 49, 49, 50, 49]⟩, .string ⟨#[50, 52, 50, 50, 51, 49]⟩, .string ⟨#[51, 52, 50, 50, 51, 49]⟩, .string ⟨#[50, 52, 52, 52, 48, 49]⟩]) (.int .i64 4)).run Try.prog w = .ok (.string ⟨#[50, 52, 52, 52, 48, 49]⟩) w := fun _ => by kernel_rfl
  go_enter Try.func30, Try.ntmps30
  go_wp2
  go_ret
  exact ⟨rfl, by repeat (first | exact Below.refl _ _ | apply below_alloc | apply pw_below_drewN | apply below_drew1)⟩
set_option maxRecDepth 100000 in
theorem tabNextA_4_2 (w : World) : Calls Try.prog 30 #[.bool true, .int .i64 4, .int .i64 2] w fun e w' => e = .returned (.int .i64 4) ∧ Below w.heap.size w w' := by
  have hi : ∀ w : World, (Instr.index 68 (.agg #[.string ⟨#[49, 48, 48, 48, 48, 49]⟩, .string ⟨#[49, 52, 49, 49, 50, 49]⟩, .string ⟨#[50, 52, 50, 50, 51, 49]⟩, .string ⟨#[51, 52, 50, 50, 51, 49]⟩, .string ⟨#[50, 52, 52, 52, 48, 49]⟩]) (.int .i64 4)).run Try.prog w = .ok (.string ⟨#[50, 52, 52, 52, 48, 49]⟩) w := fun _ => by kernel_rfl
  go_enter Try.func30, Try.ntmps30
  go_wp2
  go_ret
  exact ⟨rfl, by repeat (first | exact Below.refl _ _ | apply below_alloc | apply pw_below_drewN | apply below_drew1)⟩
set_option maxRecDepth 100000 in
theorem tabNextA_4_3 (w : World) : Calls Try.prog 30 #[.bool true, .int .i64 4, .int .i64 3] w fun e w' => e = .returned (.int .i64 4) ∧ Below w.heap.size w w' := by
  have hi : ∀ w : World, (Instr.index 68 (.agg #[.string ⟨#[49, 48, 48, 48, 48, 49]⟩, .string ⟨#[49, 52, 49, 49, 50, 49]⟩, .string ⟨#[50, 52, 50, 50, 51, 49]⟩, .string ⟨#[51, 52, 50, 50, 51, 49]⟩, .string ⟨#[50, 52, 52, 52, 48, 49]⟩]) (.int .i64 4)).run Try.prog w = .ok (.string ⟨#[50, 52, 52, 52, 48, 49]⟩) w := fun _ => by kernel_rfl
  go_enter Try.func30, Try.ntmps30
  go_wp2
  go_ret
  exact ⟨rfl, by repeat (first | exact Below.refl _ _ | apply below_alloc | apply pw_below_drewN | apply below_drew1)⟩
set_option maxRecDepth 100000 in
theorem tabNextA_4_4 (w : World) : Calls Try.prog 30 #[.bool true, .int .i64 4, .int .i64 4] w fun e w' => e = .returned (.int .i64 0) ∧ Below w.heap.size w w' := by
  have hi : ∀ w : World, (Instr.index 68 (.agg #[.string ⟨#[49, 48, 48, 48, 48, 49]⟩, .string ⟨#[49, 52, 49, 49, 50, 49]⟩, .string ⟨#[50, 52, 50, 50, 51, 49]⟩, .string ⟨#[51, 52, 50, 50, 51, 49]⟩, .string ⟨#[50, 52, 52, 52, 48, 49]⟩]) (.int .i64 4)).run Try.prog w = .ok (.string ⟨#[50, 52, 52, 52, 48, 49]⟩) w := fun _ => by kernel_rfl
  go_enter Try.func30, Try.ntmps30
  go_wp2
  go_ret
  exact ⟨rfl, by repeat (first | exact Below.refl _ _ | apply below_alloc | apply pw_below_drewN | apply below_drew1)⟩
set_option maxRecDepth 100000 in
theorem tabNextA_4_5 (w : World) : Calls Try.prog 30 #[.bool true, .int .i64 4, .int .i64 5] w fun e w' => e = .returned (.int .i64 1) ∧ Below w.heap.size w w' := by
  have hi : ∀ w : World, (Instr.index 68 (.agg #[.string ⟨#[49, 48, 48, 48, 48, 49]⟩, .string ⟨#[49, 52, 49, 49, 50, 49]⟩, .string ⟨#[50, 52, 50, 50, 51, 49]⟩, .string ⟨#[51, 52, 50, 50, 51, 49]⟩, .string ⟨#[50, 52, 52, 52, 48, 49]⟩]) (.int .i64 4)).run Try.prog w = .ok (.string ⟨#[50, 52, 52, 52, 48, 49]⟩) w := fun _ => by kernel_rfl
  go_enter Try.func30, Try.ntmps30
  go_wp2
  go_ret
  exact ⟨rfl, by repeat (first | exact Below.refl _ _ | apply below_alloc | apply pw_below_drewN | apply below_drew1)⟩
set_option maxRecDepth 100000 in
theorem tabActR_0_0 (w : World) : Calls Try.prog 31 #[.bool false, .int .i64 0, .int .i64 0] w fun e w' => e = .returned (.int .i64 3) ∧ Below w.heap.size w w' := by
  have hi : ∀ w : World, (Instr.index 67 (.agg #[.string ⟨#[51, 48, 48, 48, 48]⟩, .string ⟨#[50, 48, 48, 52, 52]⟩, .string ⟨#[48, 49, 49, 48, 52]⟩]) (.int .i64 0)).run Try.prog w = .ok (.string ⟨#[51, 48, 48, 48, 48]⟩) w := fun _ => by kernel_rfl
  go_enter Try.func31, Try.ntmps31
  go_wp2
  go_ret
  exact ⟨rfl, by repeat (first | exact Below.refl _ _ | apply below_alloc | apply pw_below_drewN | apply below_drew1)⟩
set_option maxRecDepth 100000 in
theorem tabActR_0_1 (w : World) : Calls Try.prog 31 #[.bool false, .int .i64 0, .int .i64 1] w fun e w' => e = .returned (.int .i64 0) ∧ Below w.heap.size w w' := by
  have hi : ∀ w : World, (Instr.index 67 (.agg #[.string ⟨#[51, 48, 48, 48, 48]⟩, .string ⟨#[50, 48, 48, 52, 52]⟩, .string ⟨#[48, 49, 49, 48, 52]⟩]) (.int .i64 0)).run Try.prog w = .ok (.string ⟨#[51, 48, 48, 48, 48]⟩) w := fun _ => by kernel_rfl
  go_enter Try.func31, Try.ntmps31
  go_wp2
  go_ret
  exact ⟨rfl, by repeat (first | exact Below.refl _ _ | apply below_alloc | apply pw_below_drewN | apply below_drew1)⟩
set_option maxRecDepth 100000 in
theorem tabActR_0_2 (w : World) : Calls Try.prog 31 #[.bool false, .int .i64 0, .int .i64 2] w fun e w' => e = .returned (.int .i64 0) ∧ Below w.heap.size w w' := by
  have hi : ∀ w : World, (Instr.index 67 (.agg #[.string ⟨#[51, 48, 48, 48, 48]⟩, .string ⟨#[50, 48, 48, 52, 52]⟩, .string ⟨#[48, 49, 49, 48, 52]⟩]) (.int .i64 0)).run Try.prog w = .ok (.string ⟨#[51, 48, 48, 48, 48]⟩) w := fun _ => by kernel_rfl
  go_enter Try.func31, Try.ntmps31
  go_wp2
  go_ret
  exact ⟨rfl, by repeat (first | exact Below.refl _ _ | apply below_alloc | apply pw_below_drewN | apply below_drew1)⟩
set_option maxRecDepth 100000 in
theorem tabActR_0_3 (w : World) : Calls Try.prog 31 #[.bool false, .int .i64 0, .int .i64 3] w fun e w' => e = .returned (.int .i64 0) ∧ Below w.heap.size w w' := by
  have hi : ∀ w : World, (Instr.index 67 (.agg #[.string ⟨#[51, 48, 48, 48, 48]⟩, .string ⟨#[50, 48, 48, 52, 52]⟩, .string ⟨#[48, 49, 49, 48, 52]⟩]) (.int .i64 0)).run Try.prog w = .ok (.string ⟨#[51, 48, 48, 48, 48]⟩) w := fun _ => by kernel_rfl
  go_enter Try.func31, Try.ntmps31
  go_wp2
  go_ret
  exact ⟨rfl, by repeat (first | exact Below.refl _ _ | apply below_alloc | apply pw_below_drewN | apply below_drew1)⟩
set_option maxRecDepth 100000 in
theorem tabActR_0_4 (w : World) : Calls Try.prog 31 #[.bool false, .int .i64 0, .int .i64 4] w fun e w' => e = .returned (.int .i64 0) ∧ Below w.heap.size w w' := by
  have hi : ∀ w : World, (Instr.index 67 (.agg #[.string ⟨#[51, 48, 48, 48, 48]⟩, .string ⟨#[50, 48, 48, 52, 52]⟩, .string ⟨#[48, 49, 49, 48, 52]⟩]) (.int .i64 0)).run Try.prog w = .ok (.string ⟨#[51, 48, 48, 48, 48]⟩) w := fun _ => by kernel_rfl
  go_enter Try.func31, Try.ntmps31
  go_wp2
  go_ret
  exact ⟨rfl, by repeat (first | exact Below.refl _ _ | apply below_alloc | apply pw_below_drewN | apply below_drew1)⟩
set_option maxRecDepth 100000 in
theorem tabActR_1_0 (w : World) : Calls Try.prog 31 #[.bool false, .int .i64 1, .int .i64 0] w fun e w' => e = .returned (.int .i64 2) ∧ Below w.heap.size w w' := by
  have hi : ∀ w : World, (Instr.index 67 (.agg #[.string ⟨#[51, 48, 48, 48, 48]⟩, .string ⟨#[50, 48, 48, 52, 52]⟩, .string ⟨#[48, 49, 49, 48, 52]⟩]) (.int .i64 1)).run Try.prog w = .ok (.string ⟨#[50, 48, 48, 52, 52]⟩) w := fun _ => by kernel_rfl
  go_enter Try.func31, Try.ntmps31
  go_wp2
  go_ret
  exact ⟨rfl, by repeat (first | exact Below.refl _ _ | apply below_alloc | apply pw_below_drewN | apply below_drew1)⟩
set_option maxRecDepth 100000 in
theorem tabActR_1_1 (w : World) : Calls Try.prog 31 #[.bool false, .int .i64 1, .int .i64 1] w fun e w' => e = .returned (.int .i64 0) ∧ Below w.heap.size w w' := by
  have hi : ∀ w : World, (Instr.index 67 (.agg #[.string ⟨#[51, 48, 48, 48, 48]⟩, .string ⟨#[50, 48, 48, 52, 52]⟩, .string ⟨#[48, 49, 49, 48, 52]⟩]) (.int .i64 1)).run Try.prog w = .ok (.string ⟨#[50, 48, 48, 52, 52]⟩) w := fun _ => by kernel_rfl
  go_enter Try.func31, Try.ntmps31
  go_wp2
  go_ret
  exact ⟨rfl, by repeat (first | exact Below.refl _ _ | apply below_alloc | apply pw_below_drewN | apply below_drew1)⟩
set_option maxRecDepth 100000 in
theorem tabActR_1_2 (w : World) : Calls Try.prog 31 #[.bool false, .int .i64 1, .int .i64 2] w fun e w' => e = .returned (.int .i64 0) ∧ Below w.heap.size w w' := by
  have hi : ∀ w : World, (Instr.index 67 (.agg #[.string ⟨#[51, 48, 48, 48, 48]⟩, .string ⟨#[50, 48, 48, 52, 52]⟩, .string ⟨#[48, 49, 49, 48, 52]⟩]) (.int .i64 1)).run Try.prog w = .ok (.string ⟨#[50, 48, 48, 52, 52]⟩) w := fun _ => by kernel_rfl
  go_enter Try.func31, Try.ntmps31
  go_wp2
  go_ret
  exact ⟨rfl, by repeat (first | exact Below.refl _ _ | apply below_alloc | apply pw_below_drewN | apply below_drew1)⟩
set_option maxRecDepth 100000 in
theorem tabActR_1_3 (w : World) : Calls Try.prog 31 #[.bool false, .int .i64 1, .int .i64 3] w fun e w' => e = .returned (.int .i64 4) ∧ Below w.heap.size w w' := by
  have hi : ∀ w : World, (Instr.index 67 (.agg #[.string ⟨#[51, 48, 48, 48, 48]⟩, .string ⟨#[50, 48, 48, 52, 52]⟩, .string ⟨#[48, 49, 49, 48, 52]⟩]) (.int .i64 1)).run Try.prog w = .ok (.string ⟨#[50, 48, 48, 52, 52]⟩) w := fun _ => by kernel_rfl
  go_enter Try.func31, Try.ntmps31
  go_wp2
  go_ret
  exact ⟨rfl, by repeat (first | exact Below.refl _ _ | apply below_alloc | apply pw_below_drewN | apply below_drew1)⟩
set_option maxRecDepth 100000 in
theorem tabActR_1_4 (w : World) : Calls Try.prog 31 #[.bool false, .int .i64 1, .int .i64 4] w fun e w' => e = .returned (.int .i64 4) ∧ Below w.heap.size w w' := by
  have hi : ∀ w : World, (Instr.index 67 (.agg #[.string ⟨#[51, 48, 48, 48, 48]⟩, .string ⟨#[50, 48, 48, 52, 52]⟩, .string ⟨#[48, 49, 49, 48, 52]⟩]) (.int .i64 1)).run Try.prog w = .ok (.string ⟨#[50, 48, 48, 52, 52]⟩) w := fun _ => by kernel_rfl
  go_enter Try.func31, Try.ntmps31
  go_wp2
  go_ret
  exact ⟨rfl, by repeat (first | exact Below.refl _ _ | apply below_alloc | apply pw_below_drewN | apply below_drew1)⟩
set_option maxRecDepth 100000 in
theorem tabActR_2_0 (w : World) : Calls Try.prog 31 #[.bool false, .int .i64 2, .int .i64 0] w fun e w' => e = .returned (.int .i64 0) ∧ Below w.heap.size w w' := by
  have hi : ∀ w : World, (Instr.index 67 (.agg #[.string ⟨#[51, 48, 48, 48, 48]⟩, .string ⟨#[50, 48, 48, 52, 52]⟩, .string ⟨#[48, 49, 49, 48, 52]⟩]) (.int .i64 2)).run Try.prog w = .ok (.string ⟨#[48, 49, 49, 48, 52]⟩) w := fun _ => by kernel_rfl
  go_enter Try.func31, Try.ntmps31
  go_wp2
  go_ret
  exact ⟨rfl, by repeat (first | exact Below.refl _ _ | apply below_alloc | apply pw_below_drewN | apply below_drew1)⟩
set_option maxRecDepth 100000 in
theorem tabActR_2_1 (w : World) : Calls Try.prog 31 #[.bool false, .int .i64 2, .int .i64 1] w fun e w' => e = .returned (.int .i64 1) ∧ Below w.heap.size w w' := by
  have hi : ∀ w : World, (Instr.index 67 (.agg #[.string ⟨#[51, 48, 48, 48, 48]⟩, .string ⟨#[50, 48, 48, 52, 52]⟩, .string ⟨#[48, 49, 49, 48, 52]⟩]) (.int .i64 2)).run Try.prog w = .ok (.string ⟨#[48, 49, 49, 48, 52]⟩) w := fun _ => by kernel_rfl
  go_enter Try.func31, Try.ntmps31
  go_wp2
  go_ret
  exact ⟨rfl, by repeat (first | exact Below.refl _ _ | apply below_alloc | apply pw_below_drewN | apply below_drew1)⟩
set_option maxRecDepth 100000 in
theorem tabActR_2_2 (w : World) : Calls Try.prog 31 #[.bool false, .int .i64 2, .int .i64 2] w fun e w' => e = .returned (.int .i64 1) ∧ Below w.heap.size w w' := by
  have hi : ∀ w : World, (Instr.index 67 (.agg #[.string ⟨#[51, 48, 48, 48, 48]⟩, .string ⟨#[50, 48, 48, 52, 52]⟩, .string ⟨#[48, 49, 49, 48, 52]⟩]) (.int .i64 2)).run Try.prog w = .ok (.string ⟨#[48, 49, 49, 48, 52]⟩) w := fun _ => by kernel_rfl
  go_enter Try.func31, Try.ntmps31
  go_wp2
  go_ret
  exact ⟨rfl, by repeat (first | exact Below.refl _ _ | apply below_alloc | apply pw_below_drewN | apply below_drew1)⟩
set_option maxRecDepth 100000 in
theorem tabActR_2_3 (w : World) : Calls Try.prog 31 #[.bool false, .int .i64 2, .int .i64 3] w fun e w' => e = .returned (.int .i64 0) ∧ Below w.heap.size w w' := by
  have hi : ∀ w : World, (Instr.index 67 (.agg #[.string ⟨#[51, 48, 48, 48, 48]⟩, .string ⟨#[50, 48, 48, 52, 52]⟩, .string ⟨#[48, 49, 49, 48, 52]⟩]) (.int .i64 2)).run Try.prog w = .ok (.string ⟨#[48, 49, 49, 48, 52]⟩) w := fun _ => by kernel_rfl
  go_enter Try.func31, Try.ntmps31
  go_wp2
  go_ret
  exact ⟨rfl, by repeat (first | exact Below.refl _ _ | apply below_alloc | apply pw_below_drewN | apply below_drew1)⟩
set_option maxRecDepth 100000 in
theorem tabActR_2_4 (w : World) : Calls Try.prog 31 #[.bool false, .int .i64 2, .int .i64 4] w fun e w' => e = .returned (.int .i64 4) ∧ Below w.heap.size w w' := by
  have hi : ∀ w : World, (Instr.index 67 (.agg #[.string ⟨#[51, 48, 48, 48, 48]⟩, .string ⟨#[50, 48, 48, 52, 52]⟩, .string ⟨#[48, 49, 49, 48, 52]⟩]) (.int .i64 2)).run Try.prog w = .ok (.string ⟨#[48, 49, 49, 48, 52]⟩) w := fun _ => by kernel_rfl
  go_enter Try.func31, Try.ntmps31
  go_wp2
  go_ret
  exact ⟨rfl, by repeat (first | exact Below.refl _ _ | apply below_alloc | apply pw_below_drewN | apply below_drew1)⟩
set_option maxRecDepth 100000 in
theorem tabActA_0_0 (w : World) : Calls Try.prog 31 #[.bool true, .int .i64 0, .int .i64 0] w fun e w' => e = .returned (.int .i64 0) ∧ Below w.heap.size w w' := by
  have hi : ∀ w : World, (Instr.index 68 (.agg #[.string ⟨#[48, 48, 48, 48, 48, 48]⟩, .string ⟨#[48, 48, 48, 48, 49, 48]⟩, .string ⟨#[48, 48, 48, 48, 50, 48]⟩, .string ⟨#[48, 48, 48, 48, 48, 48]⟩, .string ⟨#[48, 48, 48, 48, 51, 48]⟩]) (.int .i64 0)).run Try.prog w = .ok (.string ⟨#[48, 48, 48, 48, 48, 48]⟩) w := fun _ => by kernel_rfl
  go_enter Try.func31, Try.ntmps31
  go_wp2
  go_ret
  exact ⟨rfl, by repeat (first | exact Below.refl _ _ | apply below_alloc | apply pw_below_drewN | apply below_drew1)⟩
set_option maxRecDepth 100000 in
theorem tabActA_0_1 (w : World) : Calls Try.prog 31 #[.bool true, .int .i64 0, .int .i64 1] w fun e w' => e = .returned (.int .i64 0) ∧ Below w.heap.size w w' := by
  have hi : ∀ w : World, (Instr.index 68 (.agg #[.string ⟨#[48, 48, 48, 48, 48, 48]⟩, .string ⟨#[48, 48, 48, 48, 49, 48]⟩, .string ⟨#[48, 48, 48, 48, 50, 48]⟩, .string ⟨#[48, 48, 48, 48, 48, 48]⟩, .string ⟨#[48, 48, 48, 48, 51, 48]⟩]) (.int .i64 0)).run Try.prog w = .ok (.string ⟨#[48, 48, 48, 48, 48, 48]⟩) w := fun _ => by kernel_rfl
  go_enter Try.func31, Try.ntmps31
  go_wp2
  go_ret
  exact ⟨rfl, by repeat (first | exact Below.refl _ _ | apply below_alloc | apply pw_below_drewN | apply below_drew1)⟩
set_option maxRecDepth 100000 in
theorem tabActA_0_2 (w : World) : Calls Try.prog 31 #[.bool true, .int .i64 0, .int .i64 2] w fun e w' => e = .returned (.int .i64 0) ∧ Below w.heap.size w w' := by
  have hi : ∀ w : World, (Instr.index 68 (.agg #[.string ⟨#[48, 48, 48, 48, 48, 48]⟩, .string ⟨#[48, 48, 48, 48, 49, 48]⟩, .string ⟨#[48, 48, 48, 48, 50, 48]⟩, .string ⟨#[48, 48, 48, 48, 48, 48]⟩, .string ⟨#[48, 48, 48, 48, 51, 48]⟩]) (.int .i64 0)).run Try.prog w = .ok (.string ⟨#[48, 48, 48, 48, 48, 48]⟩) w := fun _ => by kernel_rfl
  go_enter Try.func31, Try.ntmps31
  go_wp2
  go_ret
  exact ⟨rfl, by repeat (first | exact Below.refl _ _ | apply below_alloc | apply pw_below_drewN | apply below_drew1)⟩
set_option maxRecDepth 100000 in
theorem tabActA_0_3 (w : World) : Calls Try.prog 31 #[.bool true, .int .i64 0, .int .i64 3] w fun e w' => e = .returned (.int .i64 0) ∧ Below w.heap.size w w' := by
  have hi : ∀ w : World, (Instr.index 68 (.agg #[.string ⟨#[48, 48, 48, 48, 48, 48]⟩, .string ⟨#[48, 48, 48, 48, 49, 48]⟩, .string ⟨#[48, 48, 48, 48, 50, 48]⟩, .string ⟨#[48, 48, 48, 48, 48, 48]⟩, .string ⟨#[48, 48, 48, 48, 51, 48]⟩]) (.int .i64 0)).run Try.prog w = .ok (.string ⟨#[48, 48, 48, 48, 48, 48]⟩) w := fun _ => by kernel_rfl
  go_enter Try.func31, Try.ntmps31
  go_wp2
  go_ret
  exact ⟨rfl, by repeat (first | exact Below.refl _ _ | apply below_alloc | apply pw_below_drewN | apply below_drew1)⟩
set_option maxRecDepth 100000 in
theorem tabActA_0_4 (w : World) : Calls Try.prog 31 #[.bool true, .int .i64 0, .int .i64 4] w fun e w' => e = .returned (.int .i64 0) ∧ Below w.heap.size w w' := by
  have hi : ∀ w : World, (Instr.index 68 (.agg #[.string ⟨#[48, 48, 48, 48, 48, 48]⟩, .string ⟨#[48, 48, 48, 48, 49, 48]⟩, .string ⟨#[48, 48, 48, 48, 50, 48]⟩, .string ⟨#[48, 48, 48, 48, 48, 48]⟩, .string ⟨#[48, 48, 48, 48, 51, 48]⟩]) (.int .i64 0)).run Try.prog w = .ok (.string ⟨#[48, 48, 48, 48, 48, 48]⟩) w := fun _ => by kernel_rfl
  go_enter Try.func31, Try.ntmps31
  go_wp2
  go_ret
  exact ⟨rfl, by repeat (first | exact Below.refl _ _ | apply below_alloc | apply pw_below_drewN | apply below_drew1)⟩
set_option maxRecDepth 100000 in
theorem tabActA_0_5 (w : World) : Calls Try.prog 31 #[.bool true, .int .i64 0, .int .i64 5] w fun e w' => e = .returned (.int .i64 0) ∧ Below w.heap.size w w' := by
  have hi : ∀ w : World, (Instr.index 68 (.agg #[.string ⟨#[48, 48, 48, 48, 48, 48]⟩, .string ⟨#[48, 48, 48, 48, 49, 48]⟩, .string ⟨#[48, 48, 48, 48, 50, 48]⟩, .string ⟨#[48, 48, 48, 48, 48, 48]⟩, .string ⟨#[48, 48, 48, 48, 51, 48]⟩]) (.int .i64 0)).run Try.prog w = .ok (.string ⟨#[48, 48, 48, 48, 48, 48]⟩) w := fun _ => by kernel_rfl
  go_enter Try.func31, Try.ntmps31
  go_wp2
  go_ret
  exact ⟨rfl, by repeat (first | exact Below.refl _ _ | apply below_alloc | apply pw_below_drewN | apply below_drew1)⟩
set_option maxRecDepth 100000 in
theorem tabActA_1_0 (w : World) : Calls Try.prog 31 #[.bool true, .int .i64 1, .int .i64 0] w fun e w' => e = .returned (.int .i64 0) ∧ Below w.heap.size w w' := by
  have hi : ∀ w : World, (Instr.index 68 (.agg #[.string ⟨#[48, 48, 48, 48, 48, 48]⟩, .string ⟨#[48, 48, 48, 48, 49, 48]⟩, .string ⟨#[48, 48, 48, 48, 50, 48]⟩, .string ⟨#[48, 48, 48, 48, 48, 48]⟩, .string ⟨#[48, 48, 48, 48, 51, 48]⟩]) (.int .i64 1)).run Try.prog w = .ok (.string ⟨#[48, 48, 48, 48, 49, 48]⟩) w := fun _ => by kernel_rfl
  go_enter Try.func31, Try.ntmps31
  go_wp2
  go_ret
  exact ⟨rfl, by repeat (first | exact Below.refl _ _ | apply below_alloc | apply pw_below_drewN | apply below_drew1)⟩
set_option maxRecDepth 100000 in
theorem tabActA_1_1 (w : World) : Calls Try.prog 31 #[.bool true, .int .i64 1, .int .i64 1] w fun e w' => e = .returned (.int .i64 0) ∧ Below w.heap.size w w' := by
  have hi : ∀ w : World, (Instr.index 68 (.agg #[.string ⟨#[48, 48, 48, 48, 48, 48]⟩, .string ⟨#[48, 48, 48, 48, 49, 48]⟩, .string ⟨#[48, 48, 48, 48, 50, 48]⟩, .string ⟨#[48, 48, 48, 48, 48, 48]⟩, .string ⟨#[48, 48, 48, 48, 51, 48]⟩]) (.int .i64 1)).run Try.prog w = .ok (.string ⟨#[48, 48, 48, 48, 49, 48]⟩) w := fun _ => by kernel_rfl
  go_enter Try.func31, Try.ntmps31
  go_wp2
  go_ret
  exact ⟨rfl, by repeat (first | exact Below.refl _ _ | apply below_alloc | apply pw_below_drewN | apply below_drew1)⟩
set_option maxRecDepth 100000 in
theorem tabActA_1_2 (w : World) : Calls Try.prog 31 #[.bool true, .int .i64 1, .int .i64 2] w fun e w' => e = .returned (.int .i64 0) ∧ Below w.heap.size w w' := by
  have hi : ∀ w : World, (Instr.index 68 (.agg #[.string ⟨#[48, 48, 48, 48, 48, 48]⟩, .string ⟨#[48, 48, 48, 48, 49, 48]⟩, .string ⟨#[48, 48, 48, 48, 50, 48]⟩, .string ⟨#[48, 48, 48, 48, 48, 48]⟩, .string ⟨#[48, 48, 48, 48, 51, 48]⟩]) (.int .i64 1)).run Try.prog w = .ok (.string ⟨#[48, 48, 48, 48, 49, 48]⟩) w := fun _ => by kernel_rfl
  go_enter Try.func31, Try.ntmps31
  go_wp2
  go_ret
  exact ⟨rfl, by repeat (first | exact Below.refl _ _ | apply below_alloc | apply pw_below_drewN | apply below_drew1)⟩
set_option maxRecDepth 100000 in
theorem tabActA_1_3 (w : World) : Calls Try.prog 31 #[.bool true, .int .i64 1, .int .i64 3] w fun e w' => e = .returned (.int .i64 0) ∧ Below w.heap.size w w' := by
  have hi : ∀ w : World, (Instr.index 68 (.agg #[.string ⟨#[48, 48, 48, 48, 48, 48]⟩, .string ⟨#[48, 48, 48, 48, 49, 48]⟩, .string ⟨#[48, 48, 48, 48, 50, 48]⟩, .string ⟨#[48, 48, 48, 48, 48, 48]⟩, .string ⟨#[48, 48, 48, 48, 51, 48]⟩]) (.int .i64 1)).run Try.prog w = .ok (.string ⟨#[48, 48, 48, 48, 49, 48]⟩) w := fun _ => by kernel_rfl
  go_enter Try.func31, Try.ntmps31
  go_wp2
  go_ret
  exact ⟨rfl, by repeat (first | exact Below.refl _ _ | apply below_alloc | apply pw_below_drewN | apply below_drew1)⟩
set_option maxRecDepth 100000 in
theorem tabActA_1_4 (w : World) : Calls Try.prog 31 #[.bool true, .int .i64 1, .int .i64 4] w fun e w' => e = .returned (.int .i64 1) ∧ Below w.heap.size w w' := by
  have hi : ∀ w : World, (Instr.index 68 (.agg #[.string ⟨#[48, 48, 48, 48, 48, 48]⟩, .string ⟨#[48, 48, 48, 48, 49, 48]⟩, .string ⟨#[48, 48, 48, 48, 50, 48]⟩, .string ⟨#[48, 48, 48, 48, 48, 48]⟩, .string ⟨#[48, 48, 48, 48, 51, 48]⟩]) (.int .i64 1)).run Try.prog w = .ok (.string ⟨#[48, 48, 48, 48, 49, 48]⟩) w := fun _ => by kernel_rfl
  go_enter Try.func31, Try.ntmps31
  go_wp2
  go_ret
  exact ⟨rfl, by repeat (first | exact Below.refl _ _ | apply below_alloc | apply pw_below_drewN | apply below_drew1)⟩
set_option maxRecDepth 100000 in
theorem tabActA_1_5 (w : World) : Calls Try.prog 31 #[.bool true, .int .i64 1, .int .i64 5] w fun e w' => e = .returned (.int .i64 0) ∧ Below w.heap.size w w' := by
  have hi : ∀ w : World, (Instr.index 68 (.agg #[.string ⟨#[48, 48, 48, 48, 48, 48]⟩, .string ⟨#[48, 48, 48, 48, 49, 48]⟩, .string ⟨#[48, 48, 48, 48, 50, 48]⟩, .string ⟨#[48, 48, 48, 48, 48, 48]⟩, .string ⟨#[48, 48, 48, 48, 51, 48]⟩]) (.int .i64 1)).run Try.prog w = .ok (.string ⟨#[48, 48, 48, 48, 49, 48]⟩) w := fun _ => by kernel_rfl
  go_enter Try.func31, Try.ntmps31
  go_wp2
  go_ret
  exact ⟨rfl, by repeat (first | exact Below.refl _ _ | apply below_alloc | apply pw_below_drewN | apply below_drew1)⟩
set_option maxRecDepth 100000 in
theorem tabActA_2_0 (w : World) : Calls Try.prog 31 #[.bool true, .int .i64 2, .int .i64 0] w fun e w' => e = .returned (.int .i64 0) ∧ Below w.heap.size w w' := by
  have hi : ∀ w : World, (Instr.index 68 (.agg #[.string ⟨#[48, 48, 48, 48, 48, 48]⟩, .string ⟨#[48, 48, 48, 48, 49, 48]⟩, .string ⟨#[48, 48, 48, 48, 50, 48]⟩, .string ⟨#[48, 48, 48, 48, 48, 48]⟩, .string ⟨#[48, 48, 48, 48, 51, 48]⟩]) (.int .i64 2)).run Try.prog w = .ok (.string ⟨#[48, 48, 48, 48, 50, 48]⟩) w := fun _ => by kernel_rfl
  go_enter Try.func31, Try.ntmps31
  go_wp2
  go_ret
  exact ⟨rfl, by repeat (first | exact Below.refl _ _ | apply below_alloc | apply pw_below_drewN | apply below_drew1)⟩
set_option maxRecDepth 100000 in
theorem tabActA_2_1 (w : World) : Calls Try.prog 31 #[.bool true, .int .i64 2, .int .i64 1] w fun e w' => e = .returned (.int .i64 0) ∧ Below w.heap.size w w' := by
  have hi : ∀ w : World, (Instr.index 68 (.agg #[.string ⟨#[48, 48, 48, 48, 48, 48]⟩, .string ⟨#[48, 48, 48, 48, 49, 48]⟩, .string ⟨#[48, 48, 48, 48, 50, 48]⟩, .string ⟨#[48, 48, 48, 48, 48, 48]⟩, .string ⟨#[48, 48, 48, 48, 51, 48]⟩]) (.int .i64 2)).run Try.prog w = .ok (.string ⟨#[48, 48, 48, 48, 50, 48]⟩) w := fun _ => by kernel_rfl
  go_enter Try.func31, Try.ntmps31
  go_wp2
  go_ret
  exact ⟨rfl, by repeat (first | exact Below.refl _ _ | apply below_alloc | apply pw_below_drewN | apply below_drew1)⟩
set_option maxRecDepth 100000 in
theorem tabActA_2_2 (w : World) : Calls Try.prog 31 #[.bool true, .int .i64 2, .int .i64 2] w fun e w' => e = .returned (.int .i64 0) ∧ Below w.heap.size w w' := by
  have hi : ∀ w : World, (Instr.index 68 (.agg #[.string ⟨#[48, 48, 48, 48, 48, 48]⟩, .string ⟨#[48, 48, 48, 48, 49, 48]⟩, .string ⟨#[48, 48, 48, 48, 50, 48]⟩, .string ⟨#[48, 48, 48, 48, 48, 48]⟩, .string ⟨#[48, 48, 48, 48, 51, 48]⟩]) (.int .i64 2)).run Try.prog w = .ok (.string ⟨#[48, 48, 48, 48, 50, 48]⟩) w := fun _ => by kernel_rfl
  go_enter Try.func31, Try.ntmps31
  go_wp2
  go_ret
  exact ⟨rfl, by repeat (first | exact Below.refl _ _ | apply below_alloc | apply pw_below_drewN | apply below_drew1)⟩
set_option maxRecDepth 100000 in
theorem tabActA_2_3 (w : World) : Calls Try.prog 31 #[.bool true, .int .i64 2, .int .i64 3] w fun e w' => e = .returned (.int .i64 0) ∧ Below w.heap.size w w' := by
  have hi : ∀ w : World, (Instr.index 68 (.agg #[.string ⟨#[48, 48, 48, 48, 48, 48]⟩, .string ⟨#[48, 48, 48, 48, 49, 48]⟩, .string ⟨#[48, 48, 48, 48, 50, 48]⟩, .string ⟨#[48, 48, 48, 48, 48, 48]⟩, .string ⟨#[48, 48, 48, 48, 51, 48]⟩]) (.int .i64 2)).run Try.prog w = .ok (.string ⟨#[48, 48, 48, 48, 50, 48]⟩) w := fun _ => by kernel_rfl
  go_enter Try.func31, Try.ntmps31
  go_wp2
  go_ret
  exact ⟨rfl, by repeat (first | exact Below.refl _ _ | apply below_alloc | apply pw_below_drewN | apply below_drew1)⟩
set_option maxRecDepth 100000 in
theorem tabActA_2_4 (w : World) : Calls Try.prog 31 #[.bool true, .int .i64 2, .int .i64 4] w fun e w' => e = .returned (.int .i64 2) ∧ Below w.heap.size w w' := by
  have hi : ∀ w : World, (Instr.index 68 (.agg #[.string ⟨#[48, 48, 48, 48, 48, 48]⟩, .string ⟨#[48, 48, 48, 48, 49, 48]⟩, .string ⟨#[48, 48, 48, 48, 50, 48]⟩, .string ⟨#[48, 48, 48, 48, 48, 48]⟩, .string ⟨#[48, 48, 48, 48, 51, 48]⟩]) (.int .i64 2)).run Try.prog w = .ok (.string ⟨#[48, 48, 48, 48, 50, 48]⟩) w := fun _ => by kernel_rfl
  go_enter Try.func31, Try.ntmps31
  go_wp2
  go_ret
  exact ⟨rfl, by repeat (first | exact Below.refl _ _ | apply below_alloc | apply pw_below_drewN | apply below_drew1)⟩
set_option maxRecDepth 100000 in
theorem tabActA_2_5 (w : World) : Calls Try.prog 31 #[.bool true, .int .i64 2, .int .i64 5] w fun e w' => e = .returned (.int .i64 0) ∧ Below w.heap.size w w' := by
  have hi : ∀ w : World, (Instr.index 68 (.agg #[.string ⟨#[48, 48, 48, 48, 48, 48]⟩, .string ⟨#[48, 48, 48, 48, 49, 48]⟩, .string ⟨#[48, 48, 48, 48, 50, 48]⟩, .string ⟨#[48, 48, 48, 48, 48, 48]⟩, .string ⟨#[48, 48, 48, 48, 51, 48]⟩]) (.int .i64 2)).run Try.prog w = .ok (.string ⟨#[48, 48, 48, 48, 50, 48]⟩) w := fun _ => by kernel_rfl
  go_enter Try.func31, Try.ntmps31
  go_wp2
  go_ret
  exact ⟨rfl, by repeat (first | exact Below.refl _ _ | apply below_alloc | apply pw_below_drewN | apply below_drew1)⟩
set_option maxRecDepth 100000 in
theorem tabActA_3_0 (w : World) : Calls Try.prog 31 #[.bool true, .int .i64 3, .int .i64 0] w fun e w' => e = .returned (.int .i64 0) ∧ Below w.heap.size w w' := by
  have hi : ∀ w : World, (Instr.index 68 (.agg #[.string ⟨#[48, 48, 48, 48, 48, 48]⟩, .string ⟨#[48, 48, 48, 48, 49, 48]⟩, .string ⟨#[48, 48, 48, 48, 50, 48]⟩, .string ⟨#[48, 48, 48, 48, 48, 48]⟩, .string ⟨#[48, 48, 48, 48, 51, 48]⟩]) (.int .i64 3)).run Try.prog w = .ok (.string ⟨#[48, 48, 48, 48, 48, 48]⟩) w := fun _ => by kernel_rfl
  go_enter Try.func31, Try.ntmps31
  go_wp2
  go_ret
  exact ⟨rfl, by repeat (first | exact Below.refl _ _ | apply below_alloc | apply pw_below_drewN | apply below_drew1)⟩
set_option maxRecDepth 100000 in
theorem tabActA_3_1 (w : World) : Calls Try.prog 31 #[.bool true, .int .i64 3, .int .i64 1] w fun e w' => e = .returned (.int .i64 0) ∧ Below w.heap.size w w' := by
  have hi : ∀ w : World, (Instr.index 68 (.agg #[.string ⟨#[48, 48, 48, 48, 48, 48]⟩, .string ⟨#[48, 48, 48, 48, 49, 48]⟩, .string ⟨#[48, 48, 48, 48, 50, 48]⟩, .string ⟨#[48, 48, 48, 48, 48, 48]⟩, .string ⟨#[48, 48, 48, 48, 51, 48]⟩]) (.int .i64 3)).run Try.prog w = .ok (.string ⟨#[48, 48, 48, 48, 48, 48]⟩) w := fun _ => by kernel_rfl
  go_enter Try.func31, Try.ntmps31
  go_wp2
  go_ret
  exact ⟨rfl, by repeat (first | exact Below.refl _ _ | apply below_alloc | apply pw_below_drewN | apply below_drew1)⟩
set_option maxRecDepth 100000 in
theorem tabActA_3_2 (w : World) : Calls Try.prog 31 #[.bool true, .int .i64 3, .int .i64 2] w fun e w' => e = .returned (.int .i64 0) ∧ Below w.heap.size w w' := by
  have hi : ∀ w : World, (Instr.index 68 (.agg #[.string ⟨#[48, 48, 48, 48, 48, 48]⟩, .string ⟨#[48, 48, 48, 48, 49, 48]⟩, .string ⟨#[48, 48, 48, 48, 50, 48]⟩, .string ⟨#[48, 48, 48, 48, 48, 48]⟩, .string ⟨#[48, 48, 48, 48, 51, 48]⟩]) (.int .i64 3)).run Try.prog w = .ok (.string ⟨#[48, 48, 48, 48, 48, 48]⟩) w := fun _ => by kernel_rfl
  go_enter Try.func31, Try.ntmps31
  go_wp2
  go_ret
  exact ⟨rfl, by repeat (first | exact Below.refl _ _ | apply below_alloc | apply pw_below_drewN | apply below_drew1)⟩
set_option maxRecDepth 100000 in
theorem tabActA_3_3 (w : World) : Calls Try.prog 31 #[.bool true, .int .i64 3, .int .i64 3] w fun e w' => e = .returned (.int .i64 0) ∧ Below w.heap.size w w' := by
  have hi : ∀ w : World, (Instr.index 68 (.agg #[.string ⟨#[48, 48, 48, 48, 48, 48]⟩, .string ⟨#[48, 48, 48, 48, 49, 48]⟩, .string ⟨#[48, 48, 48, 48, 50, 48]⟩, .string ⟨#[48, 48, 48, 48, 48, 48]⟩, .string ⟨#[48, 48, 48, 48, 51, 48]⟩]) (.int .i64 3)).run Try.prog w = .ok (.string ⟨#[48, 48, 48, 48, 48, 48]⟩) w := fun _ => by kernel_rfl
  go_enter Try.func31, Try.ntmps31
  go_wp2
  go_ret
  exact ⟨rfl, by repeat (first | exact Below.refl _ _ | apply below_alloc | apply pw_below_drewN | apply below_drew1)⟩
set_option maxRecDepth 100000 in
theorem tabActA_3_4 (w : World) : Calls Try.prog 31 #[.bool true, .int .i64 3, .int .i64 4] w fun e w' => e = .returned (.int .i64 0) ∧ Below w.heap.size w w' := by
  have hi : ∀ w : World, (Instr.index 68 (.agg #[.string ⟨#[48, 48, 48, 48, 48, 48]⟩, .string ⟨#[48, 48, 48, 48, 49, 48]⟩, .string ⟨#[48, 48, 48, 48, 50, 48]⟩, .string ⟨#[48, 48, 48, 48, 48, 48]⟩, .string ⟨#[48, 48, 48, 48, 51, 48]⟩]) (.int .i64 3)).run Try.prog w = .ok (.string ⟨#[48, 48, 48, 48, 48, 48]⟩) w := fun _ => by kernel_rfl
  go_enter Try.func31, Try.ntmps31
  go_wp2
  go_ret
  exact ⟨rfl, by repeat (first | exact Below.refl _ _ | apply below_alloc | apply pw_below_drewN | apply below_drew1)⟩
set_option maxRecDepth 100000 in
theorem tabActA_3_5 (w : World) : Calls Try.prog 31 #[.bool true, .int .i64 3, .int .i64 5] w fun e w' => e = .returned (.int .i64 0) ∧ Below w.heap.size w w' := by
  have hi : ∀ w : World, (Instr.index 68 (.agg #[.string ⟨#[48, 48, 48, 48, 48, 48]⟩, .string ⟨#[48, 48, 48, 48, 49, 48]⟩, .string ⟨#[48, 48, 48, 48, 50, 48]⟩, .string ⟨#[48, 48, 48, 48, 48, 48]⟩, .string ⟨#[48, 48, 48, 48, 51, 48]⟩]) (.int .i64 3)).run Try.prog w = .ok (.string ⟨#[48, 48, 48, 48, 48, 48]⟩) w := fun _ => by kernel_rfl
  go_enter Try.func31, Try.ntmps31
  go_wp2
  go_ret
  exact ⟨rfl, by repeat (first | exact Below.refl _ _ | apply below_alloc | apply pw_below_drewN | apply below_drew1)⟩
set_option maxRecDepth 100000 in
theorem tabActA_4_0 (w : World) : Calls Try.prog 31 #[.bool true, .int .i64 4, .int .i64 0] w fun e w' => e = .returned (.int .i64 0) ∧ Below w.heap.size w w' := by
  have hi : ∀ w : World, (Instr.index 68 (.agg #[.string ⟨#[48, 48, 48, 48, 48, 48]⟩, .string ⟨#[48, 48, 48, 48, 49, 48]⟩, .string ⟨#[48, 48, 48, 48, 50, 48]⟩, .string ⟨#[48, 48, 48, 48, 48, 48]⟩, .string ⟨#[48, 48, 48, 48, 51, 48]⟩]) (.int .i64 4)).run Try.prog w = .ok (.string ⟨#[48, 48, 48, 48, 51, 48]⟩) w := fun _ => by kernel_rfl
  go_enter Try.func31, Try.ntmps31
  go_wp2
  go_ret
  exact ⟨rfl, by repeat (first | exact Below.refl _ _ | apply below_alloc | apply pw_below_drewN | apply below_drew1)⟩
set_option maxRecDepth 100000 in
theorem tabActA_4_1 (w : World) : Calls Try.prog 31 #[.bool true, .int .i64 4, .int .i64 1] w fun e w' => e = .returned (.int .i64 0) ∧ Below w.heap.size w w' := by
  have hi : ∀ w : World, (Instr.index 68 (.agg #[.string ⟨#[48, 48, 48, 48, 48, 48]⟩, .string ⟨#[48, 48, 48, 48, 49, 48]⟩, .string ⟨#[48, 48, 48, 48, 50, 48]⟩, .string ⟨#[48, 48, 48, 48, 48, 48]⟩, .string ⟨#[48, 48, 48, 48, 51, 48]⟩]) (.int .i64 4)).run Try.prog w = .ok (.string ⟨#[48, 48, 48, 48, 51, 48]⟩) w := fun _ => by kernel_rfl
  go_enter Try.func31, Try.ntmps31
  go_wp2
  go_ret
  exact ⟨rfl, by repeat (first | exact Below.refl _ _ | apply below_alloc | apply pw_below_drewN | apply below_drew1)⟩
set_option maxRecDepth 100000 in
theorem tabActA_4_2 (w : World) : Calls Try.prog 31 #[.bool true, .int .i64 4, .int .i64 2] w fun e w' => e = .returned (.int .i64 0) ∧ Below w.heap.size w w' := by
  have hi : ∀ w : World, (Instr.index 68 (.agg #[.string ⟨#[48, 48, 48, 48, 48, 48]⟩, .string ⟨#[48, 48, 48, 48, 49, 48]⟩, .string ⟨#[48, 48, 48, 48, 50, 48]⟩, .string ⟨#[48, 48, 48, 48, 48, 48]⟩, .string ⟨#[48, 48, 48, 48, 51, 48]⟩]) (.int .i64 4)).run Try.prog w = .ok (.string ⟨#[48, 48, 48, 48, 51, 48]⟩) w := fun _ => by kernel_rfl
  go_enter Try.func31, Try.ntmps31
  go_wp2
  go_ret
  exact ⟨rfl, by repeat (first | exact Below.refl _ _ | apply below_alloc | apply pw_below_drewN | apply below_drew1)⟩
set_option maxRecDepth 100000 in
theorem tabActA_4_3 (w : World) : Calls Try.prog 31 #[.bool true, .int .i64 4, .int .i64 3] w fun e w' => e = .returned (.int .i64 0) ∧ Below w.heap.size w w' := by
  have hi : ∀ w : World, (Instr.index 68 (.agg #[.string ⟨#[48, 48, 48, 48, 48, 48]⟩, .string ⟨#[48, 48, 48, 48, 49, 48]⟩, .string ⟨#[48, 48, 48, 48, 50, 48]⟩, .string ⟨#[48, 48, 48, 48, 48, 48]⟩, .string ⟨#[48, 48, 48, 48, 51, 48]⟩]) (.int .i64 4)).run Try.prog w = .ok (.string ⟨#[48, 48, 48, 48, 51, 48]⟩) w := fun _ => by kernel_rfl
  go_enter Try.func31, Try.ntmps31
  go_wp2
  go_ret
  exact ⟨rfl, by repeat (first | exact Below.refl _ _ | apply below_alloc | apply pw_below_drewN | apply below_drew1)⟩
set_option maxRecDepth 100000 in
theorem tabActA_4_4 (w : World) : Calls Try.prog 31 #[.bool true, .int .i64 4, .int .i64 4] w fun e w' => e = .returned (.int .i64 3) ∧ Below w.heap.size w w' := by
  have hi : ∀ w : World, (Instr.index 68 (.agg #[.string ⟨#[48, 48, 48, 48, 48, 48]⟩, .string ⟨#[48, 48, 48, 48, 49, 48]⟩, .string ⟨#[48, 48, 48, 48, 50, 48]⟩, .string ⟨#[48, 48, 48, 48, 48, 48]⟩, .string ⟨#[48, 48, 48, 48, 51, 48]⟩]) (.int .i64 4)).run Try.prog w = .ok (.string ⟨#[48, 48, 48, 48, 51, 48]⟩) w := fun _ => by kernel_rfl
  go_enter Try.func31, Try.ntmps31
  go_wp2
  go_ret
  exact ⟨rfl, by repeat (first | exact Below.refl _ _ | apply below_alloc | apply pw_below_drewN | apply below_drew1)⟩
set_option maxRecDepth 100000 in
theorem tabActA_4_5 (w : World) : Calls Try.prog 31 #[.bool true, .int .i64 4, .int .i64 5] w fun e w' => e = .returned (.int .i64 0) ∧ Below w.heap.size w w' := by
  have hi : ∀ w : World, (Instr.index 68 (.agg #[.string ⟨#[48, 48, 48, 48, 48, 48]⟩, .string ⟨#[48, 48, 48, 48, 49, 48]⟩, .string ⟨#[48, 48, 48, 48, 50, 48]⟩, .string ⟨#[48, 48, 48, 48, 48, 48]⟩, .string ⟨#[48, 48, 48, 48, 51, 48]⟩]) (.int .i64 4)).run Try.prog w = .ok (.string ⟨#[48, 48, 48, 48, 51, 48]⟩) w := fun _ => by kernel_rfl
  go_enter Try.func31, Try.ntmps31
  go_wp2
  go_ret
  exact ⟨rfl, by repeat (first | exact Below.refl _ _ | apply below_alloc | apply pw_below_drewN | apply below_drew1)⟩
theorem kissgateref13_Next.calls (a0 : Bool) (a1 a2 r : Int) (w : World) (h : kissgateref13_Next.f a0 a1 a2 = some r) :
    Calls Try.prog 30 #[.bool a0, .int .i64 a1, .int .i64 a2] w fun e w' => e = .returned (.int .i64 r) ∧ Below w.heap.size w w' := by
  unfold kissgateref13_Next.f at h
  cases a0 with
  | false =>
    simp only [if_true, Bool.false_eq_true, if_false] at h
    obtain ⟨i, j, l, rfl, rfl, h1, h2⟩ := look_some h
    have hi : i < 3 := (List.getElem?_eq_some_iff.1 h1).1
    have hi' : i = 0 ∨ i = 1 ∨ i = 2 := by omega
    rcases hi' with rfl | rfl | rfl
    · have hl : l = [2, 0, 0, 0, 0] := by injection h1 with h1; exact h1.symm
      subst hl
      have hj : j < 5 := (List.getElem?_eq_some_iff.1 h2).1
      have hj' : j = 0 ∨ j = 1 ∨ j = 2 ∨ j = 3 ∨ j = 4 := by omega
      rcases hj' with rfl | rfl | rfl | rfl | rfl <;> cases h2
      · exact tabNextR_0_0 w
      · exact tabNextR_0_1 w
      · exact tabNextR_0_2 w
      · exact tabNextR_0_3 w
      · exact tabNextR_0_4 w
    · have hl : l = [2, 1, 1, 0, 0] := by injection h1 with h1; exact h1.symm
      subst hl
      have hj : j < 5 := (List.getElem?_eq_some_iff.1 h2).1
      have hj' : j = 0 ∨ j = 1 ∨ j = 2 ∨ j = 3 ∨ j = 4 := by omega
      rcases hj' with rfl | rfl | rfl | rfl | rfl <;> cases h2
      · exact tabNextR_1_0 w
      · exact tabNextR_1_1 w
      · exact tabNextR_1_2 w
      · exact tabNextR_1_3 w
      · exact tabNextR_1_4 w
    · have hl : l = [2, 1, 1, 2, 0] := by injection h1 with h1; exact h1.symm
      subst hl
      have hj : j < 5 := (List.getElem?_eq_some_iff.1 h2).1
      have hj' : j = 0 ∨ j = 1 ∨ j = 2 ∨ j = 3 ∨ j = 4 := by omega
      rcases hj' with rfl | rfl | rfl | rfl | rfl <;> cases h2
      · exact tabNextR_2_0 w
      · exact tabNextR_2_1 w
      · exact tabNextR_2_2 w
      · exact tabNextR_2_3 w
      · exact tabNextR_2_4 w
  | true =>
    simp only [if_true, Bool.false_eq_true, if_false] at h
    obtain ⟨i, j, l, rfl, rfl, h1, h2⟩ := look_some h
    have hi : i < 5 := (List.getElem?_eq_some_iff.1 h1).1
    have hi' : i = 0 ∨ i = 1 ∨ i = 2 ∨ i = 3 ∨ i = 4 := by omega
    rcases hi' with rfl | rfl | rfl | rfl | rfl
    · have hl : l = [1, 0, 0, 0, 0, 1] := by injection h1 with h1; exact h1.symm
      subst hl
      have hj : j < 6 := (List.getElem?_eq_some_iff.1 h2).1
      have hj' : j = 0 ∨ j = 1 ∨ j = 2 ∨ j = 3 ∨ j = 4 ∨ j = 5 := by omega
      rcases hj' with rfl | rfl | rfl | rfl | rfl | rfl <;> cases h2
      · exact tabNextA_0_0 w
      · exact tabNextA_0_1 w
      · exact tabNextA_0_2 w
      · exact tabNextA_0_3 w
      · exact tabNextA_0_4 w
      · exact tabNextA_0_5 w
    · have hl : l = [1, 4, 1, 1, 2, 1] := by injection h1 with h1; exact h1.symm
      subst hl
      have hj : j < 6 := (List.getElem?_eq_some_iff.1 h2).1
      have hj' : j = 0 ∨ j = 1 ∨ j = 2 ∨ j = 3 ∨ j = 4 ∨ j = 5 := by omega
      rcases hj' with rfl | rfl | rfl | rfl | rfl | rfl <;> cases h2
      · exact tabNextA_1_0 w
      · exact tabNextA_1_1 w
      · exact tabNextA_1_2 w
      · exact tabNextA_1_3 w
      · exact tabNextA_1_4 w
      · exact tabNextA_1_5 w
    · have hl : l = [2, 4, 2, 2, 3, 1] := by injection h1 with h1; exact h1.symm
      subst hl
      have hj : j < 6 := (List.getElem?_eq_some_iff.1 h2).1
      have hj' : j = 0 ∨ j = 1 ∨ j = 2 ∨ j = 3 ∨ j = 4 ∨ j = 5 := by omega
      rcases hj' with rfl | rfl | rfl | rfl | rfl | rfl <;> cases h2
      · exact tabNextA_2_0 w
      · exact tabNextA_2_1 w
      · exact tabNextA_2_2 w
      · exact tabNextA_2_3 w
      · exact tabNextA_2_4 w
      · exact tabNextA_2_5 w
    · have hl : l = [3, 4, 2, 2, 3, 1] := by injection h1 with h1; exact h1.symm
      subst hl
      have hj : j < 6 := (List.getElem?_eq_some_iff.1 h2).1
      have hj' : j = 0 ∨ j = 1 ∨ j = 2 ∨ j = 3 ∨ j = 4 ∨ j = 5 := by omega
      rcases hj' with rfl | rfl | rfl | rfl | rfl | rfl <;> cases h2
      · exact tabNextA_3_0 w
      · exact tabNextA_3_1 w
      · exact tabNextA_3_2 w
      · exact tabNextA_3_3 w
      · exact tabNextA_3_4 w
      · exact tabNextA_3_5 w
    · have hl : l = [2, 4, 4, 4, 0, 1] := by injection h1 with h1; exact h1.symm
      subst hl
      have hj : j < 6 := (List.getElem?_eq_some_iff.1 h2).1
      have hj' : j = 0 ∨ j = 1 ∨ j = 2 ∨ j = 3 ∨ j = 4 ∨ j = 5 := by omega
      rcases hj' with rfl | rfl | rfl | rfl | rfl | rfl <;> cases h2
      · exact tabNextA_4_0 w
      · exact tabNextA_4_1 w
      · exact tabNextA_4_2 w
      · exact tabNextA_4_3 w
      · exact tabNextA_4_4 w
      · exact tabNextA_4_5 w
theorem kissgateref13_Act.calls (a0 : Bool) (a1 a2 r : Int) (w : World) (h : kissgateref13_Act.f a0 a1 a2 = some r) :
    Calls Try.prog 31 #[.bool a0, .int .i64 a1, .int .i64 a2] w fun e w' => e = .returned (.int .i64 r) ∧ Below w.heap.size w w' := by
  unfold kissgateref13_Act.f at h
  cases a0 with
  | false =>
    simp only [if_true, Bool.false_eq_true, if_false] at h
    obtain ⟨i, j, l, rfl, rfl, h1, h2⟩ := look_some h
    have hi : i < 3 := (List.getElem?_eq_some_iff.1 h1).1
    have hi' : i = 0 ∨ i = 1 ∨ i = 2 := by omega
    rcases hi' with rfl | rfl | rfl
    · have hl : l = [3, 0, 0, 0, 0] := by injection h1 with h1; exact h1.symm
      subst hl
      have hj : j < 5 := (List.getElem?_eq_some_iff.1 h2).1
      have hj' : j = 0 ∨ j = 1 ∨ j = 2 ∨ j = 3 ∨ j = 4 := by omega
      rcases hj' with rfl | rfl | rfl | rfl | rfl <;> cases h2
      · exact tabActR_0_0 w
      · exact tabActR_0_1 w
      · exact tabActR_0_2 w
      · exact tabActR_0_3 w
      · exact tabActR_0_4 w
    · have hl : l = [2, 0, 0, 4, 4] := by injection h1 with h1; exact h1.symm
      subst hl
      have hj : j < 5 := (List.getElem?_eq_some_iff.1 h2).1
      have hj' : j = 0 ∨ j = 1 ∨ j = 2 ∨ j = 3 ∨ j = 4 := by omega
      rcases hj' with rfl | rfl | rfl | rfl | rfl <;> cases h2
      · exact tabActR_1_0 w
      · exact tabActR_1_1 w
      · exact tabActR_1_2 w
      · exact tabActR_1_3 w
      · exact tabActR_1_4 w
    · have hl : l = [0, 1, 1, 0, 4] := by injection h1 with h1; exact h1.symm
      subst hl
      have hj : j < 5 := (List.getElem?_eq_some_iff.1 h2).1
      have hj' : j = 0 ∨ j = 1 ∨ j = 2 ∨ j = 3 ∨ j = 4 := by omega
      rcases hj' with rfl | rfl | rfl | rfl | rfl <;> cases h2
      · exact tabActR_2_0 w
      · exact tabActR_2_1 w
      · exact tabActR_2_2 w
      · exact tabActR_2_3 w
      · exact tabActR_2_4 w
  | true =>
    simp only [if_true, Bool.false_eq_true, if_false] at h
    obtain ⟨i, j, l, rfl, rfl, h1, h2⟩ := look_some h
    have hi : i < 5 := (List.getElem?_eq_some_iff.1 h1).1
    have hi' : i = 0 ∨ i = 1 ∨ i = 2 ∨ i = 3 ∨ i = 4 := by omega
    rcases hi' with rfl | rfl | rfl | rfl | rfl
    · have hl : l = [0, 0, 0, 0, 0, 0] := by injection h1 with h1; exact h1.symm
      subst hl
      have hj : j < 6 := (List.getElem?_eq_some_iff.1 h2).1
      have hj' : j = 0 ∨ j = 1 ∨ j = 2 ∨ j = 3 ∨ j = 4 ∨ j = 5 := by omega
      rcases hj' with rfl | rfl | rfl | rfl | rfl | rfl <;> cases h2
      · exact tabActA_0_0 w
      · exact tabActA_0_1 w
      · exact tabActA_0_2 w
      · exact tabActA_0_3 w
      · exact tabActA_0_4 w
      · exact tabActA_0_5 w
    · have hl : l = [0, 0, 0, 0, 1, 0] := by injection h1 with h1; exact h1.symm
      subst hl
      have hj : j < 6 := (List.getElem?_eq_some_iff.1 h2).1
      have hj' : j = 0 ∨ j = 1 ∨ j = 2 ∨ j = 3 ∨ j = 4 ∨ j = 5 := by omega
      rcases hj' with rfl | rfl | rfl | rfl | rfl | rfl <;> cases h2
      · exact tabActA_1_0 w
      · exact tabActA_1_1 w
      · exact tabActA_1_2 w
      · exact tabActA_1_3 w
      · exact tabActA_1_4 w
      · exact tabActA_1_5 w
    · have hl : l = [0, 0, 0, 0, 2, 0] := by injection h1 with h1; exact h1.symm
      subst hl
      have hj : j < 6 := (List.getElem?_eq_some_iff.1 h2).1
      have hj' : j = 0 ∨ j = 1 ∨ j = 2 ∨ j = 3 ∨ j = 4 ∨ j = 5 := by omega
      rcases hj' with rfl | rfl | rfl | rfl | rfl | rfl <;> cases h2
      · exact tabActA_2_0 w
      · exact tabActA_2_1 w
      · exact tabActA_2_2 w
      · exact tabActA_2_3 w
      · exact tabActA_2_4 w
      · exact tabActA_2_5 w
    · have hl : l = [0, 0, 0, 0, 0, 0] := by injection h1 with h1; exact h1.symm
      subst hl
      have hj : j < 6 := (List.getElem?_eq_some_iff.1 h2).1
      have hj' : j = 0 ∨ j = 1 ∨ j = 2 ∨ j = 3 ∨ j = 4 ∨ j = 5 := by omega
      rcases hj' with rfl | rfl | rfl | rfl | rfl | rfl <;> cases h2
      · exact tabActA_3_0 w
      · exact tabActA_3_1 w
      · exact tabActA_3_2 w
      · exact tabActA_3_3 w
      · exact tabActA_3_4 w
      · exact tabActA_3_5 w
    · have hl : l = [0, 0, 0, 0, 3, 0] := by injection h1 with h1; exact h1.symm
      subst hl
      have hj : j < 6 := (List.getElem?_eq_some_iff.1 h2).1
      have hj' : j = 0 ∨ j = 1 ∨ j = 2 ∨ j = 3 ∨ j = 4 ∨ j = 5 := by omega
      rcases hj' with rfl | rfl | rfl | rfl | rfl | rfl <;> cases h2
      · exact tabActA_4_0 w
      · exact tabActA_4_1 w
      · exact tabActA_4_2 w
      · exact tabActA_4_3 w
      · exact tabActA_4_4 w
      · exact tabActA_4_5 w
end Go.Proofs.Ytbcngajkokjfjaa.QTabI
namespace Go.Proofs.Ytbcngajkokjfjaa.QTabI
open Go.RowKit Go.Proofs.YtbcngajkokjfjaaW.PrintWords Go.Proofs.YtbcngajkokjfjaaW.PrintLast Go.Proofs.YtbcngajkokjfjaaW.PrintMore
attribute [local go_sem] max2_int min2_int max_two min_two max_three min_three max_four min_four
set_option linter.unusedVariables false
set_option linter.unusedSimpArgs false
theorem eqA30 (d : Nat) (w : World) (x0 y0 : Int) (x1 y1 : Int) :
    (Op.equalIn (d + 2) 30 (.agg #[.int .i64 x0, .int .i64 x1]) (.agg #[.int .i64 y0, .int .i64 y1])).run Try.prog w = .ok (x0 == y0 && (x1 == y1)) w := by
  refine eqA_of Try.underlying30 (by kernel_rfl) ?_
  refine eqf_cons (by rfl) (by go_simp; rfl) (by go_simp; rfl) (by go_simp) ?_
  exact eqf_last (by rfl) (by go_simp; rfl) (by go_simp; rfl) (by go_simp)
end Go.Proofs.Ytbcngajkokjfjaa.QTabI
namespace Go.Proofs.Ytbcngajkokjfjaa.QTabI
open Go.RowKit Go.Proofs.YtbcngajkokjfjaaW.PrintWords Go.Proofs.YtbcngajkokjfjaaW.PrintLast Go.Proofs.YtbcngajkokjfjaaW.PrintMore
attribute [local go_sem] max2_int min2_int max_two min_two max_three min_three max_four min_four
set_option linter.unusedVariables false
set_option linter.unusedSimpArgs false
def table_At.f (l0 : List (List (S30))) (a1 : Int) (a2 : Int) : Option (Int × Int × Bool) := if a1 < 0 then (some (a1, 0, false)) else (if a1 ≥ (l0.length : Int) then (some (a1, 0, false)) else (if a2 < 0 then (some (a1, 0, false)) else (if 0 ≤ a1 then (if a1 < (l0.length : Int) then (if a2 ≥ ((rd_L2 l0 a1).length : Int) then (some (a1, 0, false)) else (if 0 ≤ a2 then (if a2 < ((rd_L2 l0 a1).length : Int) then (some ((rd_T30 (rd_L2 l0 a1) a2).f0, (rd_T30 (rd_L2 l0 a1) a2).f1, true)) else (none)) else (none))) else (none)) else (none))))
set_option maxHeartbeats 8000000 in
set_option maxRecDepth 100000 in
theorem table_At.calls (A0 : Option Addr) (c0 : Nat) (l0 : List (List (S30))) (a1 : Int) (a2 : Int) (r1 : Int) (r2 : Int) (r3 : Bool) (w : World) (hr0 : Kd.C (Kd.slice 30 k30) w A0 l0.length l0) (hc0 : l0.length ≤ c0) (h : table_At.f l0 a1 a2 = some (r1, r2, r3)) :
    Calls Try.prog 17 #[.slice A0 l0.length c0, .int .i64 a1, .int .i64 a2] w fun e w' => e = .returned (.tuple #[.agg #[.int .i64 r1, .int .i64 r2], .bool r3]) ∧ Below w.heap.size w w' := by
  have hu30 := Try.underlying30
  have HR0 := Aside0.mk hr0
  have HC0 := Aside0.mk hc0
  clear hr0 hc0
  have HB := Aside0.mk (Below.refl w.heap.size w)
  have H : (if a1 < 0 then (some (a1, 0, false)) else (if a1 ≥ (l0.length : Int) then (some (a1, 0, false)) else (if a2 < 0 then (some (a1, 0, false)) else (if 0 ≤ a1 then (if a1 < (l0.length : Int) then (if a2 ≥ ((rd_L2 l0 a1).length : Int) then (some (a1, 0, false)) else (if 0 ≤ a2 then (if a2 < ((rd_L2 l0 a1).length : Int) then (some ((rd_T30 (rd_L2 l0 a1) a2).f0, (rd_T30 (rd_L2 l0 a1) a2).f1, true)) else (none)) else (none))) else (none)) else (none))))) = some (r1, r2, r3) := h
  clear h
  by_cases c4 : a1 < 0
  · rw [if_pos c4] at H
    have c4b0 : decide (a1 < 0) = true := decide_eq_true c4
    clear c4
    simp only [Option.some.injEq, Prod.mk.injEq] at H
    obtain ⟨rfl, rfl, rfl⟩ := H
    go_enter Try.func17, Try.ntmps17
    go_wp2_with (first | ((with_reducible refine gate_dst (N := 6) rfl ?_); (try (refine gate_guard (by rfl) ?_; dsimp only)); refine box_event ?hg (N := 6) ?hd (cs := #[.int .i64 0, .int .i64 0]) (t := 30) ?hr ?_; (case hd => rfl); (case hg => rfl); (case hr => first | (go_simp; done) | (go_simp; rfl)); intro gb101 hg w5 hbox hb; have n0_ := Aside0.mk (below_step (by repeat (first | (with_reducible first | exact HB.out | apply below_alloc | apply pw_below_drewN | apply below_drew1) | exact HB.out)) hb); have n1_ := Aside0.mk (hbox); have n2_ := Aside0.mk ((by rw [hg]; exact (below_size (by repeat (first | (with_reducible first | exact HB.out | apply below_alloc | apply pw_below_drewN | apply below_drew1) | exact HB.out))) : w.heap.size ≤ gb101)); have n3_ := Aside0.mk ((by rw [hg]; exact (below_size (by repeat (first | (with_reducible first | exact HB.out | apply below_alloc | apply pw_below_drewN | apply below_drew1) | exact HB.out))) : w.heap.size ≤ gb101)); clear HB; have HB := n0_; have BK101 := n1_; have GW101 := n2_; have GE101 := n3_; clear n0_ n1_ n2_ n3_; clear hb hbox hg; have hcz6_0 : w5.cell? ⟨gb101, 0, none⟩ = some (.int .i64 0) := (blk_cell BK101.out 0).trans rfl; have hcz6_1 : w5.cell? ⟨gb101, 1, none⟩ = some (.int .i64 0) := (blk_cell BK101.out 1).trans rfl; have hfz6_0 := blk_frozen BK101.out 0; have hfz6_1 := blk_frozen BK101.out 1))
    refine bodyPost_ret (results_ct rfl _ _ gb101 30 #[.int .i64 a1, .int .i64 0] (0, 0) _ rfl (by (with_reducible repeat (first | refine blk_drewN ?_ _ | refine blk_drew ?_ | refine blk_alloc ?_ _)); refine blk_put (cs := #[.int .i64 a1, .int .i64 0]) ?_ 1 _ rfl; (with_reducible repeat (first | refine blk_drewN ?_ _ | refine blk_drew ?_ | refine blk_alloc ?_ _)); refine blk_put (cs := #[.int .i64 0, .int .i64 0]) ?_ 0 _ rfl; (with_reducible repeat (first | refine blk_drewN ?_ _ | refine blk_drew ?_ | refine blk_alloc ?_ _)); exact BK101.out) Try.underlying30 rfl (by kernel_rfl)) rfl ?_
    exact ⟨by first | rfl | (simp [errW_none, errW_some] <;> rfl) | (simp [*, errW_none, errW_some] <;> rfl), by repeat (first | (with_reducible first | exact HB.out | apply below_alloc | apply pw_below_drewN | apply below_drew1 | refine below_set ?_ GE101.out) | exact HB.out)⟩
  · rw [if_neg c4] at H
    have c4b0 : decide (a1 < 0) = false := decide_eq_false c4
    clear c4
    by_cases c7 : a1 ≥ (l0.length : Int)
    · rw [if_pos c7] at H
      have c7b0 : decide ((l0.length : Int) ≤ a1) = true := decide_eq_true c7
      clear c7
      simp only [Option.some.injEq, Prod.mk.injEq] at H
      obtain ⟨rfl, rfl, rfl⟩ := H
      go_enter Try.func17, Try.ntmps17
      go_wp2_with (first | ((with_reducible refine gate_dst (N := 6) rfl ?_); (try (refine gate_guard (by rfl) ?_; dsimp only)); refine box_event ?hg (N := 6) ?hd (cs := #[.int .i64 0, .int .i64 0]) (t := 30) ?hr ?_; (case hd => rfl); (case hg => rfl); (case hr => first | (go_simp; done) | (go_simp; rfl)); intro gb101 hg w8 hbox hb; have n0_ := Aside0.mk (below_step (by repeat (first | (with_reducible first | exact HB.out | apply below_alloc | apply pw_below_drewN | apply below_drew1) | exact HB.out)) hb); have n1_ := Aside0.mk (hbox); have n2_ := Aside0.mk ((by rw [hg]; exact (below_size (by repeat (first | (with_reducible first | exact HB.out | apply below_alloc | apply pw_below_drewN | apply below_drew1) | exact HB.out))) : w.heap.size ≤ gb101)); have n3_ := Aside0.mk ((by rw [hg]; exact (below_size (by repeat (first | (with_reducible first | exact HB.out | apply below_alloc | apply pw_below_drewN | apply below_drew1) | exact HB.out))) : w.heap.size ≤ gb101)); clear HB; have HB := n0_; have BK101 := n1_; have GW101 := n2_; have GE101 := n3_; clear n0_ n1_ n2_ n3_; clear hb hbox hg; have hcz9_0 : w8.cell? ⟨gb101, 0, none⟩ = some (.int .i64 0) := (blk_cell BK101.out 0).trans rfl; have hcz9_1 : w8.cell? ⟨gb101, 1, none⟩ = some (.int .i64 0) := (blk_cell BK101.out 1).trans rfl; have hfz9_0 := blk_frozen BK101.out 0; have hfz9_1 := blk_frozen BK101.out 1))
      refine bodyPost_ret (results_ct rfl _ _ gb101 30 #[.int .i64 a1, .int .i64 0] (0, 0) _ rfl (by (with_reducible repeat (first | refine blk_drewN ?_ _ | refine blk_drew ?_ | refine blk_alloc ?_ _)); refine blk_put (cs := #[.int .i64 a1, .int .i64 0]) ?_ 1 _ rfl; (with_reducible repeat (first | refine blk_drewN ?_ _ | refine blk_drew ?_ | refine blk_alloc ?_ _)); refine blk_put (cs := #[.int .i64 0, .int .i64 0]) ?_ 0 _ rfl; (with_reducible repeat (first | refine blk_drewN ?_ _ | refine blk_drew ?_ | refine blk_alloc ?_ _)); exact BK101.out) Try.underlying30 rfl (by kernel_rfl)) rfl ?_
      exact ⟨by first | rfl | (simp [errW_none, errW_some] <;> rfl) | (simp [*, errW_none, errW_some] <;> rfl), by repeat (first | (with_reducible first | exact HB.out | apply below_alloc | apply pw_below_drewN | apply below_drew1 | refine below_set ?_ GE101.out) | exact HB.out)⟩
    · rw [if_neg c7] at H
      have c7b0 : decide ((l0.length : Int) ≤ a1) = false := decide_eq_false c7
      clear c7
      by_cases c10 : a2 < 0
      · rw [if_pos c10] at H
        have c10b0 : decide (a2 < 0) = true := decide_eq_true c10
        clear c10
        simp only [Option.some.injEq, Prod.mk.injEq] at H
        obtain ⟨rfl, rfl, rfl⟩ := H
        go_enter Try.func17, Try.ntmps17
        go_wp2_with (first | ((with_reducible refine gate_dst (N := 6) rfl ?_); (try (refine gate_guard (by rfl) ?_; dsimp only)); refine box_event ?hg (N := 6) ?hd (cs := #[.int .i64 0, .int .i64 0]) (t := 30) ?hr ?_; (case hd => rfl); (case hg => rfl); (case hr => first | (go_simp; done) | (go_simp; rfl)); intro gb101 hg w11 hbox hb; have n0_ := Aside0.mk (below_step (by repeat (first | (with_reducible first | exact HB.out | apply below_alloc | apply pw_below_drewN | apply below_drew1) | exact HB.out)) hb); have n1_ := Aside0.mk (hbox); have n2_ := Aside0.mk ((by rw [hg]; exact (below_size (by repeat (first | (with_reducible first | exact HB.out | apply below_alloc | apply pw_below_drewN | apply below_drew1) | exact HB.out))) : w.heap.size ≤ gb101)); have n3_ := Aside0.mk ((by rw [hg]; exact (below_size (by repeat (first | (with_reducible first | exact HB.out | apply below_alloc | apply pw_below_drewN | apply below_drew1) | exact HB.out))) : w.heap.size ≤ gb101)); clear HB; have HB := n0_; have BK101 := n1_; have GW101 := n2_; have GE101 := n3_; clear n0_ n1_ n2_ n3_; clear hb hbox hg; have hcz12_0 : w11.cell? ⟨gb101, 0, none⟩ = some (.int .i64 0) := (blk_cell BK101.out 0).trans rfl; have hcz12_1 : w11.cell? ⟨gb101, 1, none⟩ = some (.int .i64 0) := (blk_cell BK101.out 1).trans rfl; have hfz12_0 := blk_frozen BK101.out 0; have hfz12_1 := blk_frozen BK101.out 1))
        refine bodyPost_ret (results_ct rfl _ _ gb101 30 #[.int .i64 a1, .int .i64 0] (0, 0) _ rfl (by (with_reducible repeat (first | refine blk_drewN ?_ _ | refine blk_drew ?_ | refine blk_alloc ?_ _)); refine blk_put (cs := #[.int .i64 a1, .int .i64 0]) ?_ 1 _ rfl; (with_reducible repeat (first | refine blk_drewN ?_ _ | refine blk_drew ?_ | refine blk_alloc ?_ _)); refine blk_put (cs := #[.int .i64 0, .int .i64 0]) ?_ 0 _ rfl; (with_reducible repeat (first | refine blk_drewN ?_ _ | refine blk_drew ?_ | refine blk_alloc ?_ _)); exact BK101.out) Try.underlying30 rfl (by kernel_rfl)) rfl ?_
        exact ⟨by first | rfl | (simp [errW_none, errW_some] <;> rfl) | (simp [*, errW_none, errW_some] <;> rfl), by repeat (first | (with_reducible first | exact HB.out | apply below_alloc | apply pw_below_drewN | apply below_drew1 | refine below_set ?_ GE101.out) | exact HB.out)⟩
      · rw [if_neg c10] at H
        have c10b0 : decide (a2 < 0) = false := decide_eq_false c10
        clear c10
        by_cases c13 : 0 ≤ a1
        · rw [if_pos c13] at H
          have c13b0 : decide (0 ≤ a1) = true := decide_eq_true c13
          clear c13
          by_cases c14 : a1 < (l0.length : Int)
          · rw [if_pos c14] at H
            have c14b0 : decide (a1 < (l0.length : Int)) = true := decide_eq_true c14
            clear c14
            by_cases c15 : a2 ≥ ((rd_L2 l0 a1).length : Int)
            · rw [if_pos c15] at H
              have c15b0 : decide (((rd_L2 l0 a1).length : Int) ≤ a2) = true := decide_eq_true c15
              clear c15
              simp only [Option.some.injEq, Prod.mk.injEq] at H
              obtain ⟨rfl, rfl, rfl⟩ := H
              go_enter Try.func17, Try.ntmps17
              go_wp2_with (first | ((with_reducible refine gate_dst (N := 6) rfl ?_); (try (refine gate_guard (by rfl) ?_; dsimp only)); refine box_event ?hg (N := 6) ?hd (cs := #[.int .i64 0, .int .i64 0]) (t := 30) ?hr ?_; (case hd => rfl); (case hg => rfl); (case hr => first | (go_simp; done) | (go_simp; rfl)); intro gb101 hg w16 hbox hb; have n0_ := Aside0.mk (below_step (by repeat (first | (with_reducible first | exact HB.out | apply below_alloc | apply pw_below_drewN | apply below_drew1) | exact HB.out)) hb); have n1_ := Aside0.mk (hbox); have n2_ := Aside0.mk ((by rw [hg]; exact (below_size (by repeat (first | (with_reducible first | exact HB.out | apply below_alloc | apply pw_below_drewN | apply below_drew1) | exact HB.out))) : w.heap.size ≤ gb101)); have n3_ := Aside0.mk ((by rw [hg]; exact (below_size (by repeat (first | (with_reducible first | exact HB.out | apply below_alloc | apply pw_below_drewN | apply below_drew1) | exact HB.out))) : w.heap.size ≤ gb101)); clear HB; have HB := n0_; have BK101 := n1_; have GW101 := n2_; have GE101 := n3_; clear n0_ n1_ n2_ n3_; clear hb hbox hg; have p102 : 0 ≤ (a1 : Int) := of_decide_eq_true (by first | (with_reducible assumption) | assumption); have q102 : a1 < (l0.length : Int) := of_decide_eq_true (by first | (with_reducible assumption) | assumption); obtain ⟨ad102, A102_0, c102_0, e102, hx102_0, hl102_0, hi102_0⟩ := at_L2 HR0.out a1 p102 q102; cases e102; replace hx102_0 := (HB.out.cell (World.block_lt_of_cell? w _ hx102_0)).trans hx102_0; have HR102_0 := Aside0.mk hi102_0; have HC102_0 := Aside0.mk hl102_0; clear hi102_0 hl102_0; replace p102 := eq_true p102; replace q102 := eq_true q102; have hcz17_0 : w16.cell? ⟨gb101, 0, none⟩ = some (.int .i64 0) := (blk_cell BK101.out 0).trans rfl; have hcz17_1 : w16.cell? ⟨gb101, 1, none⟩ = some (.int .i64 0) := (blk_cell BK101.out 1).trans rfl; have hfz17_0 := blk_frozen BK101.out 0; have hfz17_1 := blk_frozen BK101.out 1))
              refine bodyPost_ret (results_ct rfl _ _ gb101 30 #[.int .i64 a1, .int .i64 0] (0, 0) _ rfl (by (with_reducible repeat (first | refine blk_drewN ?_ _ | refine blk_drew ?_ | refine blk_alloc ?_ _)); refine blk_put (cs := #[.int .i64 a1, .int .i64 0]) ?_ 1 _ rfl; (with_reducible repeat (first | refine blk_drewN ?_ _ | refine blk_drew ?_ | refine blk_alloc ?_ _)); refine blk_put (cs := #[.int .i64 0, .int .i64 0]) ?_ 0 _ rfl; (with_reducible repeat (first | refine blk_drewN ?_ _ | refine blk_drew ?_ | refine blk_alloc ?_ _)); exact BK101.out) Try.underlying30 rfl (by kernel_rfl)) rfl ?_
              exact ⟨by first | rfl | (simp [errW_none, errW_some] <;> rfl) | (simp [*, errW_none, errW_some] <;> rfl), by repeat (first | (with_reducible first | exact HB.out | apply below_alloc | apply pw_below_drewN | apply below_drew1 | refine below_set ?_ GE101.out) | exact HB.out)⟩
            · rw [if_neg c15] at H
              have c15b0 : decide (((rd_L2 l0 a1).length : Int) ≤ a2) = false := decide_eq_false c15
              clear c15
              by_cases c18 : 0 ≤ a2
              · rw [if_pos c18] at H
                have c18b0 : decide (0 ≤ a2) = true := decide_eq_true c18
                clear c18
                by_cases c19 : a2 < ((rd_L2 l0 a1).length : Int)
                · rw [if_pos c19] at H
                  have c19b0 : decide (a2 < ((rd_L2 l0 a1).length : Int)) = true := decide_eq_true c19
                  clear c19
                  simp only [Option.some.injEq, Prod.mk.injEq] at H
                  obtain ⟨rfl, rfl, rfl⟩ := H
                  go_enter Try.func17, Try.ntmps17
                  go_wp2_with (first | ((with_reducible refine gate_dst (N := 6) rfl ?_); (try (refine gate_guard (by rfl) ?_; dsimp only)); refine box_event ?hg (N := 6) ?hd (cs := #[.int .i64 0, .int .i64 0]) (t := 30) ?hr ?_; (case hd => rfl); (case hg => rfl); (case hr => first | (go_simp; done) | (go_simp; rfl)); intro gb101 hg w20 hbox hb; have n0_ := Aside0.mk (below_step (by repeat (first | (with_reducible first | exact HB.out | apply below_alloc | apply pw_below_drewN | apply below_drew1) | exact HB.out)) hb); have n1_ := Aside0.mk (hbox); have n2_ := Aside0.mk ((by rw [hg]; exact (below_size (by repeat (first | (with_reducible first | exact HB.out | apply below_alloc | apply pw_below_drewN | apply below_drew1) | exact HB.out))) : w.heap.size ≤ gb101)); have n3_ := Aside0.mk ((by rw [hg]; exact (below_size (by repeat (first | (with_reducible first | exact HB.out | apply below_alloc | apply pw_below_drewN | apply below_drew1) | exact HB.out))) : w.heap.size ≤ gb101)); clear HB; have HB := n0_; have BK101 := n1_; have GW101 := n2_; have GE101 := n3_; clear n0_ n1_ n2_ n3_; clear hb hbox hg; have p102 : 0 ≤ (a1 : Int) := of_decide_eq_true (by first | (with_reducible assumption) | assumption); have q102 : a1 < (l0.length : Int) := of_decide_eq_true (by first | (with_reducible assumption) | assumption); obtain ⟨ad102, A102_0, c102_0, e102, hx102_0, hl102_0, hi102_0⟩ := at_L2 HR0.out a1 p102 q102; cases e102; replace hx102_0 := (HB.out.cell (World.block_lt_of_cell? w _ hx102_0)).trans hx102_0; have HR102_0 := Aside0.mk hi102_0; have HC102_0 := Aside0.mk hl102_0; clear hi102_0 hl102_0; replace p102 := eq_true p102; replace q102 := eq_true q102; have p103 : 0 ≤ (a1 : Int) := of_decide_eq_true (by first | (with_reducible assumption) | assumption); have q103 : a1 < (l0.length : Int) := of_decide_eq_true (by first | (with_reducible assumption) | assumption); obtain ⟨ad103, A103_0, c103_0, e103, hx103_0, hl103_0, hi103_0⟩ := at_L2 HR0.out a1 p103 q103; obtain rfl : ad102 = ad103 := (by injection e103); replace hx103_0 := (HB.out.cell (World.block_lt_of_cell? w _ hx103_0)).trans hx103_0; have HR103_0 := Aside0.mk hi103_0; have HC103_0 := Aside0.mk hl103_0; clear hi103_0 hl103_0; replace p103 := eq_true p103; replace q103 := eq_true q103; have ea_ := Option.some.inj (hx102_0.symm.trans hx103_0); injection ea_ with ea_ en_ ec_; subst ea_; subst ec_; clear en_; have p104 : 0 ≤ (a2 : Int) := of_decide_eq_true (by first | (with_reducible assumption) | assumption); have q104 : a2 < ((rd_L2 l0 a1).length : Int) := of_decide_eq_true (by first | (with_reducible assumption) | assumption); obtain ⟨ad104, e104, hx104_0, hx104_1⟩ := at_T30 HR103_0.out a2 p104 q104; cases e104; replace hx104_0 := (HB.out.cell (World.block_lt_of_cell? w _ hx104_0)).trans hx104_0; replace hx104_1 := (HB.out.cell (World.block_lt_of_cell? w _ hx104_1)).trans hx104_1; replace p104 := eq_true p104; replace q104 := eq_true q104; have hcz21_0 : w20.cell? ⟨gb101, 0, none⟩ = some (.int .i64 0) := (blk_cell BK101.out 0).trans rfl; have hcz21_1 : w20.cell? ⟨gb101, 1, none⟩ = some (.int .i64 0) := (blk_cell BK101.out 1).trans rfl; have hfz21_0 := blk_frozen BK101.out 0; have hfz21_1 := blk_frozen BK101.out 1))
                  refine bodyPost_ret (results_ct rfl _ _ gb101 30 #[.int .i64 ((rd_T30 (rd_L2 l0 a1) a2).f0), .int .i64 ((rd_T30 (rd_L2 l0 a1) a2).f1)] (0, 0) _ rfl (by (with_reducible repeat (first | refine blk_drewN ?_ _ | refine blk_drew ?_ | refine blk_alloc ?_ _)); refine blk_put (cs := #[.int .i64 ((rd_T30 (rd_L2 l0 a1) a2).f0), .int .i64 0]) ?_ 1 _ rfl; (with_reducible repeat (first | refine blk_drewN ?_ _ | refine blk_drew ?_ | refine blk_alloc ?_ _)); refine blk_put (cs := #[.int .i64 0, .int .i64 0]) ?_ 0 _ rfl; (with_reducible repeat (first | refine blk_drewN ?_ _ | refine blk_drew ?_ | refine blk_alloc ?_ _)); exact BK101.out) Try.underlying30 rfl (by kernel_rfl)) rfl ?_
                  exact ⟨by first | rfl | (simp [errW_none, errW_some] <;> rfl) | (simp [*, errW_none, errW_some] <;> rfl), by repeat (first | (with_reducible first | exact HB.out | apply below_alloc | apply pw_below_drewN | apply below_drew1 | refine below_set ?_ GE101.out) | exact HB.out)⟩
                · rw [if_neg c19] at H
                  exact absurd H (by simp)
              · rw [if_neg c18] at H
                exact absurd H (by simp)
          · rw [if_neg c14] at H
            exact absurd H (by simp)
        · rw [if_neg c13] at H
          exact absurd H (by simp)
def table_Run.l0 : Nat → List (List (S30)) → Int → List (S30) → List Int → Int → Int → Option ((List (S30)))
  | 0, _, _, _, _, _, _ => none
  | k + 1, x0, x1, x7, x12, x13, x14 => if x14 < x13 then (if 0 ≤ x14 then (if x14 < (x12.length : Int) then ((table_At.f x0 x1 (rd x12 x14)).bind fun bt106 => (if bt106.2.2 = true then (if x7.length < 8796093022208 then (table_Run.l0 k x0 bt106.1 (x7 ++ [(⟨bt106.1, bt106.2.1⟩ : S30)]) x12 x13 (wrap64 (x14 + 1))) else (none)) else (table_Run.l0 k x0 x1 x7 x12 x13 (wrap64 (x14 + 1))))) else (none)) else (none)) else (some x7)
def table_Run.f (k : Nat) (l0 : List (List (S30))) (a1 : Int) (l2 : List Int) : Option ((List (S30))) := table_Run.l0 k l0 a1 ([] : List (S30)) l2 (l2.length : Int) 0
theorem table_Run.mono_l : ∀ k, (∀ y0 y1 y2 y3 y4 y5, LeO (table_Run.l0 k y0 y1 y2 y3 y4 y5) (table_Run.l0 (k + 1) y0 y1 y2 y3 y4 y5))
  | 0 => fun _ _ _ _ _ _ r h => by simp [table_Run.l0] at h
  | k + 1 => by
    have ih0 := table_Run.mono_l k
    · intro y0 y1 y2 y3 y4 y5
      unfold table_Run.l0
      repeat' first
      | (with_reducible exact ih0 _ _ _ _ _ _)
      | (with_reducible exact LeO.refl _)
      | (with_reducible exact LeO.none _)
      | (with_reducible refine LeO.ite ?_ ?_)
      | (with_reducible refine LeO.bind ?_ (fun _ => ?_))
      | exact ih0 _ _ _ _ _ _
      | exact LeO.none _
      | refine LeO.ite ?_ ?_
      | refine LeO.bind ?_ (fun _ => ?_)
theorem table_Run.mono : ∀ a0 a1 a2 k, LeO (table_Run.f k a0 a1 a2) (table_Run.f (k + 1) a0 a1 a2) := by
  intro a0 a1 a2 k
  have ih0 := table_Run.mono_l k
  unfold table_Run.f
  repeat' first
      | (with_reducible exact ih0 _ _ _ _ _ _)
      | (with_reducible exact LeO.refl _)
      | (with_reducible exact LeO.none _)
      | (with_reducible refine LeO.ite ?_ ?_)
      | (with_reducible refine LeO.bind ?_ (fun _ => ?_))
      | exact ih0 _ _ _ _ _ _
      | exact LeO.none _
      | refine LeO.ite ?_ ?_
      | refine LeO.bind ?_ (fun _ => ?_)
set_option maxHeartbeats 8000000 in
set_option maxRecDepth 100000 in
theorem table_Run.calls (k : Nat) (A0 : Option Addr) (c0 : Nat) (l0 : List (List (S30))) (a1 : Int) (A2 : Option Addr) (c2 : Nat) (l2 : List Int) (r : List (S30)) (w : World) (hr0 : Kd.C (Kd.slice 30 k30) w A0 l0.length l0) (hc0 : l0.length ≤ c0) (hr2 : Kd.C (Kd.int .i64) w A2 l2.length l2) (hc2 : l2.length ≤ c2) (h : table_Run.f k l0 a1 l2 = some r) :
    Calls Try.prog 16 #[.slice A0 l0.length c0, .int .i64 a1, .slice A2 l2.length c2] w fun e w' => ∃ v0_ : Value, e = .returned (v0_) ∧ Kd.R k30 30 w' w.heap.size (fun _ => True) v0_ r ∧ Below w.heap.size w w' := by
  have hu30 := Try.underlying30
  have HR0 := Aside0.mk hr0
  have HC0 := Aside0.mk hc0
  clear hr0 hc0
  have HR2 := Aside0.mk hr2
  have HC2 := Aside0.mk hc2
  clear hr2 hc2
  have HB := Aside0.mk (Below.refl w.heap.size w)
  have H : (table_Run.l0 k l0 a1 ([] : List (S30)) l2 (l2.length : Int) 0) = some r := h
  clear h
  have H' := Aside0.mk H
  clear H
  go_enter Try.func16, Try.ntmps16
  go_wp2
  go_loopg [1, 7, 14] k (fun kq v1 v7 v14 w' => ∃ (x1_1 : Int) (x7_1 : List (S30)) (x14_1 : Int), v1 = .int .i64 x1_1 ∧ v14 = .int .i64 x14_1 ∧ Aside0 (table_Run.l0 kq l0 x1_1 x7_1 l2 (l2.length : Int) x14_1 = some r) ∧ Aside0 (kq ≤ k) ∧ Aside0 (Kd.R k30 30 w' w.heap.size (fun _ => True) v7 x7_1) ∧ Aside0 (Below w.heap.size w w'))
  case atStart => exact ⟨(a1), (([] : List (S30))), (0), (by first | rfl | (simp; done) | (simp [*]; done)), (by first | rfl | (simp; done) | (simp [*]; done)), H', ⟨Nat.le_refl _⟩, ⟨by first | exact Kd.R_nil _ _ _ _ _ | exact Kd.N_nil _ _ _ _ _ | exact Kd.V_nil _ _ _ _ _ | exact Kd.Q_nil _ _ _ _ _ | exact Kd.S_nil _ _ _ _ _⟩, ⟨by repeat (first | (with_reducible first | exact HB.out | apply below_alloc | apply pw_below_drewN | apply below_drew1) | exact HB.out)⟩⟩
  case round =>
    clear H'
    try clear c1
    try clear c2
    try clear p2
    obtain ⟨x1_1, x7_1, x14_1, rfl, rfl, HA, HK1, HO_7, HB⟩ := hrel
    cases gk with
    | zero => exact absurd HA.out (by simp [table_Run.l0])
    | succ k1 =>
      have H := HA.out
      clear HA
      simp only [table_Run.l0] at H
      by_cases c4 : x14_1 < (l2.length : Int)
      · rw [if_pos c4] at H
        have c4b0 : decide (x14_1 < (l2.length : Int)) = true := decide_eq_true c4
        clear c4
        by_cases c5 : 0 ≤ x14_1
        · rw [if_pos c5] at H
          have c5b0 : decide (0 ≤ x14_1) = true := decide_eq_true c5
          clear c5
          by_cases c6 : x14_1 < (l2.length : Int)
          · rw [if_pos c6] at H
            have c6b0 : decide (x14_1 < (l2.length : Int)) = true := decide_eq_true c6
            clear c6
            replace H := Option.bind_eq_some_iff.mp H
            obtain ⟨⟨t106, t107, t108⟩, A70, H⟩ := H
            replace H : (if t108 = true then (if x7_1.length < 8796093022208 then (table_Run.l0 k1 l0 t106 (x7_1 ++ [(⟨t106, t107⟩ : S30)]) l2 (l2.length : Int) (wrap64 (x14_1 + 1))) else (none)) else (table_Run.l0 k1 l0 x1_1 x7_1 l2 (l2.length : Int) (wrap64 (x14_1 + 1)))) = some r := H
            have A7 := Aside0.mk A70
            clear A70
            by_cases c8 : t108 = true
            · subst c8
              have H1 : (if x7_1.length < 8796093022208 then (table_Run.l0 k1 l0 t106 (x7_1 ++ [(⟨t106, t107⟩ : S30)]) l2 (l2.length : Int) (wrap64 (x14_1 + 1))) else (none)) = some r := by rw [if_pos rfl] at H; exact H
              clear H
              have H := H1
              clear H1
              by_cases c9 : x7_1.length < 8796093022208
              · rw [if_pos c9] at H
                have LMc9 := Aside0.mk c9
                clear c9
                obtain ⟨y110, hy110⟩ : ∃ y_ : List (S30), y_ = (x7_1 ++ [(⟨t106, t107⟩ : S30)]) := ⟨_, rfl⟩
                replace H : (table_Run.l0 k1 l0 t106 y110 l2 (l2.length : Int) (wrap64 (x14_1 + 1))) = some r := by first | (rw [hy110]; with_reducible exact H) | (have H2_ := (Option.bind_some _ _).symm.trans H; rw [hy110]; with_reducible exact H2_) | (have H2_ := (Option.bind_some _ _).symm.trans H; with_reducible exact H2_) | with_reducible exact H | (rw [hy110]; exact H) | exact H
                have Ny110 := Aside0.mk hy110
                clear hy110
                have H' := Aside0.mk H
                clear H
                have p105 : 0 ≤ (x14_1 : Int) := of_decide_eq_true (by first | (with_reducible assumption) | assumption)
                have q105 : x14_1 < (l2.length : Int) := of_decide_eq_true (by first | (with_reducible assumption) | assumption)
                obtain ⟨ad105, e105, hx105_0⟩ := Kd.at_int HR2.out x14_1 p105 q105
                cases e105
                replace hx105_0 := (HB.out.cell (World.block_lt_of_cell? w _ hx105_0)).trans hx105_0
                replace p105 := eq_true p105
                replace q105 := eq_true q105
                go_wp2_with (first | ((with_reducible refine gate_callee (f := 17) rfl ?_); refine goesL_ (some 22) rfl rfl Try.func17 (by kernel_rfl) rfl #[.slice A0 l0.length c0, .int .i64 x1_1, .int .i64 (rd l2 x14_1)] rfl (by (try simp only [List.map_toArray, List.map_cons, List.map_nil]); first | done | rfl | (simp only [List.length_drop, List.length_take]; rfl)) ?_; (with_reducible refine (table_At.calls _ _ l0 x1_1 (rd l2 x14_1) t106 t107 true _ ?side1 ?side2 A7.out).mono ?_); (case side1 => repeat (first | exact (Kd.C_below HR0.out HB.out) | (with_reducible refine Kd.C_alloc ?_ _) | (with_reducible refine Kd.C_drewN ?_ _) | (with_reducible refine Kd.C_drew ?_))); (case side2 => exact HC0.out); rintro e w10 ⟨rfl, hb⟩; refine ⟨_, rfl, ?_⟩; have n0_ := Aside0.mk (Kd.R_below (by (with_reducible repeat (first | apply Kd.R_alloc | apply Kd.R_drewN | apply Kd.R_drew)); exact HO_7.out) hb); have n1_ := Aside0.mk (below_step (by repeat (first | (with_reducible first | exact HB.out | apply below_alloc | apply pw_below_drewN | apply below_drew1) | exact HB.out)) hb); clear HO_7; clear HB; have HO_7 := n0_; have HB := n1_; clear n0_ n1_; (try clear hb); (try clear hb2); (try clear hk); (try clear hi)) | ((with_reducible refine gate_dst (N := 10) rfl ?_); refine box_event ?hg (N := 10) ?hd (cs := #[.int .i64 0, .int .i64 0]) (t := 30) ?hr ?_; (case hd => rfl); (case hg => rfl); (case hr => first | (go_simp; done) | (go_simp; rfl)); intro gb109 hg w11 hbox hb; have n0_ := Aside0.mk (Kd.R_below (Kd.R_elderB (by (with_reducible repeat (first | apply Kd.R_alloc | apply Kd.R_drewN | apply Kd.R_drew)); exact HO_7.out) gb109 (Nat.le_of_eq hg.symm)) hb); have n1_ := Aside0.mk (below_step (by repeat (first | (with_reducible first | exact HB.out | apply below_alloc | apply pw_below_drewN | apply below_drew1) | exact HB.out)) hb); have n2_ := Aside0.mk (hbox); have n3_ := Aside0.mk ((by rw [hg]; exact (below_size (by repeat (first | (with_reducible first | exact HB.out | apply below_alloc | apply pw_below_drewN | apply below_drew1) | exact HB.out))) : w.heap.size ≤ gb109)); have n4_ := Aside0.mk ((by rw [hg]; exact (below_size (by repeat (first | (with_reducible first | exact HB.out | apply below_alloc | apply pw_below_drewN | apply below_drew1) | exact HB.out))) : w.heap.size ≤ gb109)); clear HO_7; clear HB; have HO_7 := n0_; have HB := n1_; have BK109 := n2_; have GW109 := n3_; have GE109 := n4_; clear n0_ n1_ n2_ n3_ n4_; clear hb hbox hg; have hcz12_0 : w11.cell? ⟨gb109, 0, none⟩ = some (.int .i64 0) := (blk_cell BK109.out 0).trans rfl; have hcz12_1 : w11.cell? ⟨gb109, 1, none⟩ = some (.int .i64 0) := (blk_cell BK109.out 1).trans rfl; have hfz12_0 := blk_frozen BK109.out 0; have hfz12_1 := blk_frozen BK109.out 1) | ((with_reducible refine gate_builtin (b := .append) (xs := #[.tmp 27, .tmp 29]) rfl ?_); at_builtin; refine Kd.R_append k30 (w0 := w) w.heap.size rfl (.tmp 27) (.tmp 29) 27 30 (.agg #[(.int .i64 0), (.int .i64 0)]) 16 rfl Try.underlying27 info30 rfl (by decide) (by omega) u7 x7_1 (⟨t106, t107⟩ : S30) [.int .i64 t106, .int .i64 t107] (fun k_ => k_ ≠ gb109) (fun _ => False) rfl (by first | (go_simp; done) | (go_simp; rfl)) ?aP (fun _ hk => hk.elim) ?aF ?aO ?aB ?aS ?aL ?_; (case aP => exact k30_mkM _ _ _ (⟨t106, t107⟩ : S30)); (case aB => exact (by repeat (first | (with_reducible first | exact HB.out | apply below_alloc | apply pw_below_drewN | apply below_drew1 | refine below_set ?_ GE109.out) | exact HB.out))); (case aF => exact (fun k_ hk => Kd.freshB (g := gb109) (o := .cells #[.int .i64 t106, .int .i64 t107] 30 (0, 0)) (by (with_reducible repeat (first | refine blk_drewN ?_ _ | refine blk_drew ?_ | refine blk_alloc ?_ _)); refine blk_put (cs := #[.int .i64 t106, .int .i64 0]) ?_ 1 _ rfl; (with_reducible repeat (first | refine blk_drewN ?_ _ | refine blk_drew ?_ | refine blk_alloc ?_ _)); refine blk_put (cs := #[.int .i64 0, .int .i64 0]) ?_ 0 _ rfl; (with_reducible repeat (first | refine blk_drewN ?_ _ | refine blk_drew ?_ | refine blk_alloc ?_ _)); exact BK109.out) k_ hk)); (case aO => exact (by (with_reducible repeat (first | apply Kd.R_alloc | apply Kd.R_drewN | apply Kd.R_drew)); exact Kd.R_mono (Kd.R_far (p := ⟨gb109, 1, none⟩) (Kd.R_far (p := ⟨gb109, 0, none⟩) (Kd.R_mono HO_7.out (fun k_ hk => (⟨hk, hk.2⟩ : _ ∧ k_ ≠ gb109))) (fun _ hk => hk.2) (.int .i64 t106)) (fun _ hk => hk.2) (.int .i64 t107)) (fun _ hk => hk.1.2))); (case aS => exact (below_size (by repeat (first | (with_reducible first | exact HB.out | apply below_alloc | apply pw_below_drewN | apply below_drew1 | refine below_set ?_ GE109.out) | exact HB.out)))); (case aL => have := LMc9.out; omega); intro v111 w13 ho hb hg hat; rw [← Ny110.out] at ho; have n0_ := Aside0.mk (blk_grown (g := gb109) (o := .cells #[.int .i64 t106, .int .i64 t107] 30 (0, 0)) (by (with_reducible repeat (first | refine blk_drewN ?_ _ | refine blk_drew ?_ | refine blk_alloc ?_ _)); refine blk_put (cs := #[.int .i64 t106, .int .i64 0]) ?_ 1 _ rfl; (with_reducible repeat (first | refine blk_drewN ?_ _ | refine blk_drew ?_ | refine blk_alloc ?_ _)); refine blk_put (cs := #[.int .i64 0, .int .i64 0]) ?_ 0 _ rfl; (with_reducible repeat (first | refine blk_drewN ?_ _ | refine blk_drew ?_ | refine blk_alloc ?_ _)); exact BK109.out) hg (Kd.R_away HO_7.out (fun _ hk => hk.2))); have n1_ := Aside0.mk (hb); have n2_ := Aside0.mk (ho); clear BK109; clear HB; clear HO_7; have BK109 := n0_; have HB := n1_; have HO112 := n2_; clear n0_ n1_ n2_; clear ho hb hg hat; have hcz14_0 : w13.cell? ⟨gb109, 0, none⟩ = some (.int .i64 t106) := (blk_cell BK109.out 0).trans rfl; have hcz14_1 : w13.cell? ⟨gb109, 1, none⟩ = some (.int .i64 t107) := (blk_cell BK109.out 1).trans rfl; have hfz14_0 := blk_frozen BK109.out 0; have hfz14_1 := blk_frozen BK109.out 1))
                go_roundg k1
                case measure => have := HK1.out; omega
                case rel => exact ⟨(t106), (y110), (wrap64 (x14_1 + 1)), (by first | rfl | (simp; done) | (simp [*]; done)), (by first | rfl | (simp; done) | (simp [*]; done)), H', ⟨by have := HK1.out; omega⟩, ⟨by (with_reducible repeat (first | apply Kd.R_alloc | apply Kd.R_drewN | apply Kd.R_drew)); exact Kd.R_mono HO112.out (fun _ hk => trivial)⟩, ⟨by repeat (first | (with_reducible first | exact HB.out | apply below_alloc | apply pw_below_drewN | apply below_drew1 | refine below_set ?_ GE109.out) | exact HB.out)⟩⟩
              · rw [if_neg c9] at H
                exact absurd H (by simp)
            · replace c8 := Bool.eq_false_iff.mpr c8
              subst c8
              have H1 : (table_Run.l0 k1 l0 x1_1 x7_1 l2 (l2.length : Int) (wrap64 (x14_1 + 1))) = some r := by rw [if_neg (show ¬ (false = true) by decide)] at H; exact H
              clear H
              have H := H1
              clear H1
              have H' := Aside0.mk H
              clear H
              have p105 : 0 ≤ (x14_1 : Int) := of_decide_eq_true (by first | (with_reducible assumption) | assumption)
              have q105 : x14_1 < (l2.length : Int) := of_decide_eq_true (by first | (with_reducible assumption) | assumption)
              obtain ⟨ad105, e105, hx105_0⟩ := Kd.at_int HR2.out x14_1 p105 q105
              cases e105
              replace hx105_0 := (HB.out.cell (World.block_lt_of_cell? w _ hx105_0)).trans hx105_0
              replace p105 := eq_true p105
              replace q105 := eq_true q105
              go_wp2_with (first | ((with_reducible refine gate_callee (f := 17) rfl ?_); refine goesL_ (some 22) rfl rfl Try.func17 (by kernel_rfl) rfl #[.slice A0 l0.length c0, .int .i64 x1_1, .int .i64 (rd l2 x14_1)] rfl (by (try simp only [List.map_toArray, List.map_cons, List.map_nil]); first | done | rfl | (simp only [List.length_drop, List.length_take]; rfl)) ?_; (with_reducible refine (table_At.calls _ _ l0 x1_1 (rd l2 x14_1) t106 t107 false _ ?side1 ?side2 A7.out).mono ?_); (case side1 => repeat (first | exact (Kd.C_below HR0.out HB.out) | (with_reducible refine Kd.C_alloc ?_ _) | (with_reducible refine Kd.C_drewN ?_ _) | (with_reducible refine Kd.C_drew ?_))); (case side2 => exact HC0.out); rintro e w15 ⟨rfl, hb⟩; refine ⟨_, rfl, ?_⟩; have n0_ := Aside0.mk (Kd.R_below (by (with_reducible repeat (first | apply Kd.R_alloc | apply Kd.R_drewN | apply Kd.R_drew)); exact HO_7.out) hb); have n1_ := Aside0.mk (below_step (by repeat (first | (with_reducible first | exact HB.out | apply below_alloc | apply pw_below_drewN | apply below_drew1) | exact HB.out)) hb); clear HO_7; clear HB; have HO_7 := n0_; have HB := n1_; clear n0_ n1_; (try clear hb); (try clear hb2); (try clear hk); (try clear hi)) | ((with_reducible refine gate_dst (N := 10) rfl ?_); refine box_event ?hg (N := 10) ?hd (cs := #[.int .i64 0, .int .i64 0]) (t := 30) ?hr ?_; (case hd => rfl); (case hg => rfl); (case hr => first | (go_simp; done) | (go_simp; rfl)); intro gb109 hg w16 hbox hb; have n0_ := Aside0.mk (Kd.R_below (Kd.R_elderB (by (with_reducible repeat (first | apply Kd.R_alloc | apply Kd.R_drewN | apply Kd.R_drew)); exact HO_7.out) gb109 (Nat.le_of_eq hg.symm)) hb); have n1_ := Aside0.mk (below_step (by repeat (first | (with_reducible first | exact HB.out | apply below_alloc | apply pw_below_drewN | apply below_drew1) | exact HB.out)) hb); have n2_ := Aside0.mk (hbox); have n3_ := Aside0.mk ((by rw [hg]; exact (below_size (by repeat (first | (with_reducible first | exact HB.out | apply below_alloc | apply pw_below_drewN | apply below_drew1) | exact HB.out))) : w.heap.size ≤ gb109)); have n4_ := Aside0.mk ((by rw [hg]; exact (below_size (by repeat (first | (with_reducible first | exact HB.out | apply below_alloc | apply pw_below_drewN | apply below_drew1) | exact HB.out))) : w.heap.size ≤ gb109)); clear HO_7; clear HB; have HO_7 := n0_; have HB := n1_; have BK109 := n2_; have GW109 := n3_; have GE109 := n4_; clear n0_ n1_ n2_ n3_ n4_; clear hb hbox hg; have hcz17_0 : w16.cell? ⟨gb109, 0, none⟩ = some (.int .i64 0) := (blk_cell BK109.out 0).trans rfl; have hcz17_1 : w16.cell? ⟨gb109, 1, none⟩ = some (.int .i64 0) := (blk_cell BK109.out 1).trans rfl; have hfz17_0 := blk_frozen BK109.out 0; have hfz17_1 := blk_frozen BK109.out 1))
              go_roundg k1
              case measure => have := HK1.out; omega
              case rel => exact ⟨(x1_1), (x7_1), (wrap64 (x14_1 + 1)), (by first | rfl | (simp; done) | (simp [*]; done)), (by first | rfl | (simp; done) | (simp [*]; done)), H', ⟨by have := HK1.out; omega⟩, ⟨by (with_reducible repeat (first | apply Kd.R_alloc | apply Kd.R_drewN | apply Kd.R_drew)); exact Kd.R_mono (Kd.R_far (p := ⟨gb109, 1, none⟩) (Kd.R_far (p := ⟨gb109, 0, none⟩) (Kd.R_mono HO_7.out (fun k_ hk => (⟨hk, hk.2⟩ : _ ∧ k_ ≠ gb109))) (fun _ hk => hk.2) (.int .i64 t106)) (fun _ hk => hk.2) (.int .i64 t107)) (fun _ hk => trivial)⟩, ⟨by repeat (first | (with_reducible first | exact HB.out | apply below_alloc | apply pw_below_drewN | apply below_drew1 | refine below_set ?_ GE109.out) | exact HB.out)⟩⟩
          · rw [if_neg c6] at H
            exact absurd H (by simp)
        · rw [if_neg c5] at H
          exact absurd H (by simp)
      · rw [if_neg c4] at H
        have c4b0 : decide (x14_1 < (l2.length : Int)) = false := decide_eq_false c4
        clear c4
        obtain rfl := Option.some.inj H
        go_wp2
        go_ret
        exact ⟨_, by first | rfl | (simp [errW_none, errW_some] <;> rfl) | (simp [*, errW_none, errW_some] <;> rfl), by (with_reducible repeat (first | apply Kd.R_alloc | apply Kd.R_drewN | apply Kd.R_drew)); exact HO_7.out, by repeat (first | (with_reducible first | exact HB.out | apply below_alloc | apply pw_below_drewN | apply below_drew1) | exact HB.out)⟩
def table_Registrar.f  : Option ((List (List (S30)))) := some (([(([(⟨2, 3⟩ : S30), (⟨0, 0⟩ : S30), (⟨0, 0⟩ : S30), (⟨0, 0⟩ : S30), (⟨0, 0⟩ : S30)] : List (S30))), (([(⟨2, 2⟩ : S30), (⟨1, 0⟩ : S30), (⟨1, 0⟩ : S30), (⟨0, 4⟩ : S30), (⟨0, 4⟩ : S30)] : List (S30))), (([(⟨2, 0⟩ : S30), (⟨1, 1⟩ : S30), (⟨1, 1⟩ : S30), (⟨2, 0⟩ : S30), (⟨0, 4⟩ : S30)] : List (S30)))] : List (List (S30))))
set_option maxHeartbeats 8000000 in
set_option maxRecDepth 100000 in
theorem table_Registrar.calls  (r : List (List (S30))) (w : World) (h : table_Registrar.f  = some r) :
    Calls Try.prog 18 #[] w fun e w' => ∃ v0_ : Value, e = .returned (v0_) ∧ Kd.N (Kd.slice 30 k30) 27 w' w.heap.size (fun k_ => (w.heap.size ≤ k_)) v0_ r ∧ Below w.heap.size w w' := by
  have hu30 := Try.underlying30
  have HB := Aside0.mk (Below.refl w.heap.size w)
  have H : (some (([(([(⟨2, 3⟩ : S30), (⟨0, 0⟩ : S30), (⟨0, 0⟩ : S30), (⟨0, 0⟩ : S30), (⟨0, 0⟩ : S30)] : List (S30))), (([(⟨2, 2⟩ : S30), (⟨1, 0⟩ : S30), (⟨1, 0⟩ : S30), (⟨0, 4⟩ : S30), (⟨0, 4⟩ : S30)] : List (S30))), (([(⟨2, 0⟩ : S30), (⟨1, 1⟩ : S30), (⟨1, 1⟩ : S30), (⟨2, 0⟩ : S30), (⟨0, 4⟩ : S30)] : List (S30)))] : List (List (S30))))) = some r := h
  clear h
  obtain ⟨y113, hy113⟩ : ∃ y_ : List (S30), y_ = (([(⟨2, 3⟩ : S30), (⟨0, 0⟩ : S30), (⟨0, 0⟩ : S30), (⟨0, 0⟩ : S30), (⟨0, 0⟩ : S30)] : List (S30))) := ⟨_, rfl⟩
  replace H : (some (([y113, (([(⟨2, 2⟩ : S30), (⟨1, 0⟩ : S30), (⟨1, 0⟩ : S30), (⟨0, 4⟩ : S30), (⟨0, 4⟩ : S30)] : List (S30))), (([(⟨2, 0⟩ : S30), (⟨1, 1⟩ : S30), (⟨1, 1⟩ : S30), (⟨2, 0⟩ : S30), (⟨0, 4⟩ : S30)] : List (S30)))] : List (List (S30))))) = some r := by first | (rw [hy113]; with_reducible exact H) | (have H2_ := (Option.bind_some _ _).symm.trans H; rw [hy113]; with_reducible exact H2_) | (have H2_ := (Option.bind_some _ _).symm.trans H; with_reducible exact H2_) | with_reducible exact H | (rw [hy113]; exact H) | exact H
  have Ny113 := Aside0.mk hy113
  clear hy113
  obtain ⟨y116, hy116⟩ : ∃ y_ : List (S30), y_ = (([(⟨2, 2⟩ : S30), (⟨1, 0⟩ : S30), (⟨1, 0⟩ : S30), (⟨0, 4⟩ : S30), (⟨0, 4⟩ : S30)] : List (S30))) := ⟨_, rfl⟩
  replace H : (some (([y113, y116, (([(⟨2, 0⟩ : S30), (⟨1, 1⟩ : S30), (⟨1, 1⟩ : S30), (⟨2, 0⟩ : S30), (⟨0, 4⟩ : S30)] : List (S30)))] : List (List (S30))))) = some r := by first | (rw [hy116]; with_reducible exact H) | (have H2_ := (Option.bind_some _ _).symm.trans H; rw [hy116]; with_reducible exact H2_) | (have H2_ := (Option.bind_some _ _).symm.trans H; with_reducible exact H2_) | with_reducible exact H | (rw [hy116]; exact H) | exact H
  have Ny116 := Aside0.mk hy116
  clear hy116
  obtain ⟨y119, hy119⟩ : ∃ y_ : List (S30), y_ = (([(⟨2, 0⟩ : S30), (⟨1, 1⟩ : S30), (⟨1, 1⟩ : S30), (⟨2, 0⟩ : S30), (⟨0, 4⟩ : S30)] : List (S30))) := ⟨_, rfl⟩
  replace H : (some (([y113, y116, y119] : List (List (S30))))) = some r := by first | (rw [hy119]; with_reducible exact H) | (have H2_ := (Option.bind_some _ _).symm.trans H; rw [hy119]; with_reducible exact H2_) | (have H2_ := (Option.bind_some _ _).symm.trans H; with_reducible exact H2_) | with_reducible exact H | (rw [hy119]; exact H) | exact H
  have Ny119 := Aside0.mk hy119
  clear hy119
  obtain ⟨y122, hy122⟩ : ∃ y_ : List (List (S30)), y_ = (([y113, y116, y119] : List (List (S30)))) := ⟨_, rfl⟩
  replace H : (some y122) = some r := by first | (rw [hy122]; with_reducible exact H) | (have H2_ := (Option.bind_some _ _).symm.trans H; rw [hy122]; with_reducible exact H2_) | (have H2_ := (Option.bind_some _ _).symm.trans H; with_reducible exact H2_) | with_reducible exact H | (rw [hy122]; exact H) | exact H
  have Ny122 := Aside0.mk hy122
  clear hy122
  obtain rfl := Option.some.inj H
  go_enter Try.func18, Try.ntmps18
  go_wp2_with (first | ((with_reducible refine gate_dst (N := 6) rfl ?_); refine Kd.R_lit k30 _ 30 ?hg (N := 6) ?hd (xs := ([(⟨2, 3⟩ : S30), (⟨0, 0⟩ : S30), (⟨0, 0⟩ : S30), (⟨0, 0⟩ : S30), (⟨0, 0⟩ : S30)] : List (S30))) (inner := [.int .i64 2, .int .i64 3, .int .i64 0, .int .i64 0, .int .i64 0, .int .i64 0, .int .i64 0, .int .i64 0, .int .i64 0, .int .i64 0]) (ok := fun _ => True) (okp := fun _ => True) ?hr ?hp (fun _ hk => hk) trivial (Below.refl _ _) (Nat.le_refl _) (by simp) ?_; (case hd => rfl); (case hg => rfl); (case hr => first | (go_simp; done) | (go_simp; rfl)); (case hp => exact (Reps.c2 (show Kd.M k30 _ _ _ (⟨2, 3⟩ : S30) [.int .i64 2, .int .i64 3] from (k30_mkM _ _ _ (⟨2, 3⟩ : S30) )) (Reps.c2 (show Kd.M k30 _ _ _ (⟨0, 0⟩ : S30) [.int .i64 0, .int .i64 0] from (k30_mkM _ _ _ (⟨0, 0⟩ : S30) )) (Reps.c2 (show Kd.M k30 _ _ _ (⟨0, 0⟩ : S30) [.int .i64 0, .int .i64 0] from (k30_mkM _ _ _ (⟨0, 0⟩ : S30) )) (Reps.c2 (show Kd.M k30 _ _ _ (⟨0, 0⟩ : S30) [.int .i64 0, .int .i64 0] from (k30_mkM _ _ _ (⟨0, 0⟩ : S30) )) (Reps.c2 (show Kd.M k30 _ _ _ (⟨0, 0⟩ : S30) [.int .i64 0, .int .i64 0] from (k30_mkM _ _ _ (⟨0, 0⟩ : S30) )) (Reps.none _ _))))))); intro v114 w1 ho2 hb hg_ hnew_; clear hg_ hnew_; (first | rw [← Ny113.out] at ho2 | (simp only [Int.reduceToNat] at ho2; rw [← Ny113.out] at ho2)); have n0_ := Aside0.mk (Kd.R_lower (Kd.R_newM (M := fun k_ => (w.heap.size ≤ k_)) ho2 (below_size (by repeat (first | (with_reducible first | exact HB.out | apply below_alloc | apply pw_below_drewN | apply below_drew1) | exact HB.out))) (fun k_ h_ => h_)) (below_size (by repeat (first | (with_reducible first | exact HB.out | apply below_alloc | apply pw_below_drewN | apply below_drew1) | exact HB.out)))); have n1_ := Aside0.mk (below_step (by repeat (first | (with_reducible first | exact HB.out | apply below_alloc | apply pw_below_drewN | apply below_drew1) | exact HB.out)) hb); clear HB; have HO115 := n0_; have HB := n1_; clear n0_ n1_; clear hb ho2) | ((with_reducible refine gate_dst (N := 12) rfl ?_); refine Kd.R_lit k30 _ 30 ?hg (N := 12) ?hd (xs := ([(⟨2, 2⟩ : S30), (⟨1, 0⟩ : S30), (⟨1, 0⟩ : S30), (⟨0, 4⟩ : S30), (⟨0, 4⟩ : S30)] : List (S30))) (inner := [.int .i64 2, .int .i64 2, .int .i64 1, .int .i64 0, .int .i64 1, .int .i64 0, .int .i64 0, .int .i64 4, .int .i64 0, .int .i64 4]) (ok := fun _ => True) (okp := fun _ => True) ?hr ?hp (fun _ hk => hk) trivial (Below.refl _ _) (Nat.le_refl _) (by simp) ?_; (case hd => rfl); (case hg => rfl); (case hr => first | (go_simp; done) | (go_simp; rfl)); (case hp => exact (Reps.c2 (show Kd.M k30 _ _ _ (⟨2, 2⟩ : S30) [.int .i64 2, .int .i64 2] from (k30_mkM _ _ _ (⟨2, 2⟩ : S30) )) (Reps.c2 (show Kd.M k30 _ _ _ (⟨1, 0⟩ : S30) [.int .i64 1, .int .i64 0] from (k30_mkM _ _ _ (⟨1, 0⟩ : S30) )) (Reps.c2 (show Kd.M k30 _ _ _ (⟨1, 0⟩ : S30) [.int .i64 1, .int .i64 0] from (k30_mkM _ _ _ (⟨1, 0⟩ : S30) )) (Reps.c2 (show Kd.M k30 _ _ _ (⟨0, 4⟩ : S30) [.int .i64 0, .int .i64 4] from (k30_mkM _ _ _ (⟨0, 4⟩ : S30) )) (Reps.c2 (show Kd.M k30 _ _ _ (⟨0, 4⟩ : S30) [.int .i64 0, .int .i64 4] from (k30_mkM _ _ _ (⟨0, 4⟩ : S30) )) (Reps.none _ _))))))); intro v117 w3 ho4 hb hg_ hnew_; clear hg_ hnew_; (first | rw [← Ny116.out] at ho4 | (simp only [Int.reduceToNat] at ho4; rw [← Ny116.out] at ho4)); have n0_ := Aside0.mk (Kd.R_elder' (by (with_reducible repeat (first | apply Kd.R_alloc | apply Kd.R_drewN | apply Kd.R_drew)); exact HO115.out) (Kd.R_base ho4) hb); have n1_ := Aside0.mk (Kd.R_lower (Kd.R_new' (Kd.R_newM (M := fun k_ => (w.heap.size ≤ k_)) ho4 (below_size (by repeat (first | (with_reducible first | exact HB.out | apply below_alloc | apply pw_below_drewN | apply below_drew1) | exact HB.out))) (fun k_ h_ => h_)) (Kd.R_lt (by (with_reducible repeat (first | apply Kd.R_alloc | apply Kd.R_drewN | apply Kd.R_drew)); exact HO115.out))) (below_size (by repeat (first | (with_reducible first | exact HB.out | apply below_alloc | apply pw_below_drewN | apply below_drew1) | exact HB.out)))); have n2_ := Aside0.mk (below_step (by repeat (first | (with_reducible first | exact HB.out | apply below_alloc | apply pw_below_drewN | apply below_drew1) | exact HB.out)) hb); clear HO115; clear HB; have HO115 := n0_; have HO118 := n1_; have HB := n2_; clear n0_ n1_ n2_; clear hb ho4) | ((with_reducible refine gate_dst (N := 18) rfl ?_); refine Kd.R_lit k30 _ 30 ?hg (N := 18) ?hd (xs := ([(⟨2, 0⟩ : S30), (⟨1, 1⟩ : S30), (⟨1, 1⟩ : S30), (⟨2, 0⟩ : S30), (⟨0, 4⟩ : S30)] : List (S30))) (inner := [.int .i64 2, .int .i64 0, .int .i64 1, .int .i64 1, .int .i64 1, .int .i64 1, .int .i64 2, .int .i64 0, .int .i64 0, .int .i64 4]) (ok := fun _ => True) (okp := fun _ => True) ?hr ?hp (fun _ hk => hk) trivial (Below.refl _ _) (Nat.le_refl _) (by simp) ?_; (case hd => rfl); (case hg => rfl); (case hr => first | (go_simp; done) | (go_simp; rfl)); (case hp => exact (Reps.c2 (show Kd.M k30 _ _ _ (⟨2, 0⟩ : S30) [.int .i64 2, .int .i64 0] from (k30_mkM _ _ _ (⟨2, 0⟩ : S30) )) (Reps.c2 (show Kd.M k30 _ _ _ (⟨1, 1⟩ : S30) [.int .i64 1, .int .i64 1] from (k30_mkM _ _ _ (⟨1, 1⟩ : S30) )) (Reps.c2 (show Kd.M k30 _ _ _ (⟨1, 1⟩ : S30) [.int .i64 1, .int .i64 1] from (k30_mkM _ _ _ (⟨1, 1⟩ : S30) )) (Reps.c2 (show Kd.M k30 _ _ _ (⟨2, 0⟩ : S30) [.int .i64 2, .int .i64 0] from (k30_mkM _ _ _ (⟨2, 0⟩ : S30) )) (Reps.c2 (show Kd.M k30 _ _ _ (⟨0, 4⟩ : S30) [.int .i64 0, .int .i64 4] from (k30_mkM _ _ _ (⟨0, 4⟩ : S30) )) (Reps.none _ _))))))); intro v120 w5 ho6 hb hg_ hnew_; clear hg_ hnew_; (first | rw [← Ny119.out] at ho6 | (simp only [Int.reduceToNat] at ho6; rw [← Ny119.out] at ho6)); have n0_ := Aside0.mk (Kd.R_elder' (by (with_reducible repeat (first | apply Kd.R_alloc | apply Kd.R_drewN | apply Kd.R_drew)); exact HO115.out) (Kd.R_base ho6) hb); have n1_ := Aside0.mk (Kd.R_elder' (by (with_reducible repeat (first | apply Kd.R_alloc | apply Kd.R_drewN | apply Kd.R_drew)); exact HO118.out) (Kd.R_base ho6) hb); have n2_ := Aside0.mk (Kd.R_lower (Kd.R_new' (Kd.R_new' (Kd.R_newM (M := fun k_ => (w.heap.size ≤ k_)) ho6 (below_size (by repeat (first | (with_reducible first | exact HB.out | apply below_alloc | apply pw_below_drewN | apply below_drew1) | exact HB.out))) (fun k_ h_ => h_)) (Kd.R_lt (by (with_reducible repeat (first | apply Kd.R_alloc | apply Kd.R_drewN | apply Kd.R_drew)); exact HO115.out))) (Kd.R_lt (by (with_reducible repeat (first | apply Kd.R_alloc | apply Kd.R_drewN | apply Kd.R_drew)); exact HO118.out))) (below_size (by repeat (first | (with_reducible first | exact HB.out | apply below_alloc | apply pw_below_drewN | apply below_drew1) | exact HB.out)))); have n3_ := Aside0.mk (below_step (by repeat (first | (with_reducible first | exact HB.out | apply below_alloc | apply pw_below_drewN | apply below_drew1) | exact HB.out)) hb); clear HO115; clear HO118; clear HB; have HO115 := n0_; have HO118 := n1_; have HO121 := n2_; have HB := n3_; clear n0_ n1_ n2_ n3_; clear hb ho6; obtain ⟨Ao7, co7, eo7⟩ := Kd.R_slice HO115.out; subst eo7; obtain ⟨Ao8, co8, eo8⟩ := Kd.R_slice HO118.out; subst eo8; obtain ⟨Ao9, co9, eo9⟩ := Kd.R_slice HO121.out; subst eo9) | ((with_reducible refine gate_dst (N := 19) rfl ?_); refine Kd.N_lit (Kd.slice 30 k30) _ 27 ?hg (N' := 19) ?hd (xs := ([y113, y116, y119] : List (List (S30)))) (inner := [.slice Ao7 y113.length co7, .slice Ao8 y116.length co8, .slice Ao9 y119.length co9]) (ok := (fun k_ => (w.heap.size ≤ k_))) (okp := (fun k_ => (w.heap.size ≤ k_))) ?hr ?hp (fun _ hk => hk) ((show ∀ k_, w5.heap.size ≤ k_ → (fun k_ => (w.heap.size ≤ k_)) k_ from fun k_ hk => (Nat.le_trans (below_size (by repeat (first | (with_reducible first | exact HB.out | apply below_alloc | apply pw_below_drewN | apply below_drew1) | exact HB.out))) hk)) _ (Nat.le_refl _)) (Below.refl _ _) (Nat.le_refl _) (by simp) ?_; (case hd => rfl); (case hg => rfl); (case hr => first | (go_simp; done) | (go_simp; rfl)); (case hp => exact (Reps.one (show Kd.FK (Kd.slice 30 k30) _ _ y113 [.slice Ao7 y113.length co7] from (Kd.FK_slice_mk (Kd.R_reads' (Kd.R_mono (ok' := (fun k_ => (w.heap.size ≤ k_))) (HO115.out) (fun k_ hk => hk.1.1.1))).2.1 (Kd.R_F (Kd.R_mono (ok' := (fun k_ => (w.heap.size ≤ k_))) (HO115.out) (fun k_ hk => hk.1.1.1))))) (Reps.one (show Kd.FK (Kd.slice 30 k30) _ _ y116 [.slice Ao8 y116.length co8] from (Kd.FK_slice_mk (Kd.R_reads' (Kd.R_mono (ok' := (fun k_ => (w.heap.size ≤ k_))) (HO118.out) (fun k_ hk => hk.1.1.1))).2.1 (Kd.R_F (Kd.R_mono (ok' := (fun k_ => (w.heap.size ≤ k_))) (HO118.out) (fun k_ hk => hk.1.1.1))))) (Reps.one (show Kd.FK (Kd.slice 30 k30) _ _ y119 [.slice Ao9 y119.length co9] from (Kd.FK_slice_mk (Kd.R_reads' (Kd.R_mono (ok' := (fun k_ => (w.heap.size ≤ k_))) (HO121.out) (fun k_ hk => hk.1.1.1))).2.1 (Kd.R_F (Kd.R_mono (ok' := (fun k_ => (w.heap.size ≤ k_))) (HO121.out) (fun k_ hk => hk.1.1.1))))) (Reps.none _ _))))); intro v123 w10 ho11 hb hg_ hnew_; clear hg_ hnew_; (first | rw [← Ny122.out] at ho11 | (simp only [Int.reduceToNat] at ho11; rw [← Ny122.out] at ho11)); have n0_ := Aside0.mk (Kd.N_lower ho11 (below_size (by repeat (first | (with_reducible first | exact HB.out | apply below_alloc | apply pw_below_drewN | apply below_drew1) | exact HB.out)))); have n1_ := Aside0.mk (below_step (by repeat (first | (with_reducible first | exact HB.out | apply below_alloc | apply pw_below_drewN | apply below_drew1) | exact HB.out)) hb); clear HB; clear HO115; clear HO118; clear HO121; have HO124 := n0_; have HB := n1_; clear n0_ n1_; clear hb ho11))
  go_ret
  exact ⟨_, by first | rfl | (simp [errW_none, errW_some] <;> rfl) | (simp [*, errW_none, errW_some] <;> rfl), by (with_reducible repeat (first | apply Kd.N_alloc | apply Kd.N_drewN | apply Kd.N_drew)); exact HO124.out, by repeat (first | (with_reducible first | exact HB.out | apply below_alloc | apply pw_below_drewN | apply below_drew1) | exact HB.out)⟩
def kissgatelaw13_alive.f (k : Nat)  : Option (Bool) := (table_Registrar.f).bind fun t125 => ((table_Run.f k t125 0 (([0, 1, 3] : List Int))).bind fun t131 => (if (t131.length : Int) = 3 then (if 0 < (t131.length : Int) then (if ((rd_T30 t131 0).f0) = 2 then (if 1 < (t131.length : Int) then (if ((rd_T30 t131 1).f0) = 1 then (if 2 < (t131.length : Int) then (if ((rd_T30 t131 2).f0) = 0 then (some (((rd_T30 t131 2).f1) == 4)) else (some false)) else (none)) else (some false)) else (none)) else (some false)) else (none)) else (some false)))
theorem kissgatelaw13_alive.mono : ∀ k, LeO (kissgatelaw13_alive.f k ) (kissgatelaw13_alive.f (k + 1) ) := by
  intro  k
  unfold kissgatelaw13_alive.f
  repeat' first
      | (with_reducible exact table_Run.mono _ _ _ _)
      | (with_reducible exact LeO.refl _)
      | (with_reducible exact LeO.none _)
      | (with_reducible refine LeO.ite ?_ ?_)
      | (with_reducible refine LeO.bind ?_ (fun _ => ?_))
      | exact table_Run.mono _ _ _ _
      | exact LeO.none _
      | refine LeO.ite ?_ ?_
      | refine LeO.bind ?_ (fun _ => ?_)
set_option maxHeartbeats 8000000 in
set_option maxRecDepth 100000 in
theorem kissgatelaw13_alive.calls (k : Nat)  (r : Bool) (w : World) (h : kissgatelaw13_alive.f k  = some r) :
    Calls Try.prog 14 #[] w fun e w' => e = .returned (.bool r) ∧ Below w.heap.size w w' := by
  have HB := Aside0.mk (Below.refl w.heap.size w)
  have H : ((table_Registrar.f).bind fun t125 => ((table_Run.f k t125 0 (([0, 1, 3] : List Int))).bind fun t131 => (if (t131.length : Int) = 3 then (if 0 < (t131.length : Int) then (if ((rd_T30 t131 0).f0) = 2 then (if 1 < (t131.length : Int) then (if ((rd_T30 t131 1).f0) = 1 then (if 2 < (t131.length : Int) then (if ((rd_T30 t131 2).f0) = 0 then (some (((rd_T30 t131 2).f1) == 4)) else (some false)) else (none)) else (some false)) else (none)) else (some false)) else (none)) else (some false)))) = some r := h
  clear h
  replace H := Option.bind_eq_some_iff.mp H
  obtain ⟨t125, A10, H⟩ := H
  replace H : ((table_Run.f k t125 0 (([0, 1, 3] : List Int))).bind fun t131 => (if (t131.length : Int) = 3 then (if 0 < (t131.length : Int) then (if ((rd_T30 t131 0).f0) = 2 then (if 1 < (t131.length : Int) then (if ((rd_T30 t131 1).f0) = 1 then (if 2 < (t131.length : Int) then (if ((rd_T30 t131 2).f0) = 0 then (some (((rd_T30 t131 2).f1) == 4)) else (some false)) else (none)) else (some false)) else (none)) else (some false)) else (none)) else (some false))) = some r := H
  have A1 := Aside0.mk A10
  clear A10
  obtain ⟨y128, hy128⟩ : ∃ y_ : List Int, y_ = (([0, 1, 3] : List Int)) := ⟨_, rfl⟩
  replace H : ((table_Run.f k t125 0 y128).bind fun t131 => (if (t131.length : Int) = 3 then (if 0 < (t131.length : Int) then (if ((rd_T30 t131 0).f0) = 2 then (if 1 < (t131.length : Int) then (if ((rd_T30 t131 1).f0) = 1 then (if 2 < (t131.length : Int) then (if ((rd_T30 t131 2).f0) = 0 then (some (((rd_T30 t131 2).f1) == 4)) else (some false)) else (none)) else (some false)) else (none)) else (some false)) else (none)) else (some false))) = some r := by first | (rw [hy128]; with_reducible exact H) | (have H2_ := (Option.bind_some _ _).symm.trans H; rw [hy128]; with_reducible exact H2_) | (have H2_ := (Option.bind_some _ _).symm.trans H; with_reducible exact H2_) | with_reducible exact H | (rw [hy128]; exact H) | exact H
  have Ny128 := Aside0.mk hy128
  clear hy128
  replace H := Option.bind_eq_some_iff.mp H
  obtain ⟨t131, A20, H⟩ := H
  replace H : (if (t131.length : Int) = 3 then (if 0 < (t131.length : Int) then (if ((rd_T30 t131 0).f0) = 2 then (if 1 < (t131.length : Int) then (if ((rd_T30 t131 1).f0) = 1 then (if 2 < (t131.length : Int) then (if ((rd_T30 t131 2).f0) = 0 then (some (((rd_T30 t131 2).f1) == 4)) else (some false)) else (none)) else (some false)) else (none)) else (some false)) else (none)) else (some false)) = some r := H
  have A2 := Aside0.mk A20
  clear A20
  by_cases c3 : (t131.length : Int) = 3
  · rw [if_pos c3] at H
    have c3b0 : ((t131.length : Int) == 3) = true := beq_iff_eq.mpr c3
    have c3b1 : ((t131.length : Int) != 3) = false := bne_eq_false_iff_eq.mpr c3
    clear c3
    by_cases c4 : 0 < (t131.length : Int)
    · rw [if_pos c4] at H
      have c4b0 : decide (0 < (t131.length : Int)) = true := decide_eq_true c4
      have c4b1 : decide (0 < t131.length) = true := decide_eq_true (by omega)
      clear c4
      by_cases c5 : ((rd_T30 t131 0).f0) = 2
      · rw [if_pos c5] at H
        have c5b0 : (((rd_T30 t131 0).f0) == 2) = true := beq_iff_eq.mpr c5
        have c5b1 : (((rd_T30 t131 0).f0) != 2) = false := bne_eq_false_iff_eq.mpr c5
        clear c5
        by_cases c6 : 1 < (t131.length : Int)
        · rw [if_pos c6] at H
          have c6b0 : decide (1 < (t131.length : Int)) = true := decide_eq_true c6
          have c6b1 : decide (1 < t131.length) = true := decide_eq_true (by omega)
          clear c6
          by_cases c7 : ((rd_T30 t131 1).f0) = 1
          · rw [if_pos c7] at H
            have c7b0 : (((rd_T30 t131 1).f0) == 1) = true := beq_iff_eq.mpr c7
            have c7b1 : (((rd_T30 t131 1).f0) != 1) = false := bne_eq_false_iff_eq.mpr c7
            clear c7
            by_cases c8 : 2 < (t131.length : Int)
            · rw [if_pos c8] at H
              have c8b0 : decide (2 < (t131.length : Int)) = true := decide_eq_true c8
              have c8b1 : decide (2 < t131.length) = true := decide_eq_true (by omega)
              clear c8
              by_cases c9 : ((rd_T30 t131 2).f0) = 0
              · rw [if_pos c9] at H
                have c9b0 : (((rd_T30 t131 2).f0) == 0) = true := beq_iff_eq.mpr c9
                have c9b1 : (((rd_T30 t131 2).f0) != 0) = false := bne_eq_false_iff_eq.mpr c9
                clear c9
                obtain rfl := Option.some.inj H
                go_enter Try.func14, Try.ntmps14
                go_wp2_with (first | ((with_reducible refine gate_callee (f := 18) rfl ?_); refine goesL_ (some 2) rfl rfl Try.func18 (by kernel_rfl) rfl #[] rfl (by (try simp only [List.map_toArray, List.map_cons, List.map_nil]); first | done | rfl | (simp only [List.length_drop, List.length_take]; rfl)) ?_; (with_reducible refine (table_Registrar.calls  t125 _ A1.out).mono ?_); rintro e w10 ⟨v126, rfl, ho0, hb⟩; refine ⟨_, rfl, ?_⟩; have n0_ := Aside0.mk (Kd.N_lower (Kd.N_mono (ok' := fun k_ => True) ho0 (fun k_ hk_ => trivial)) (below_size (by repeat (first | (with_reducible first | exact HB.out | apply below_alloc | apply pw_below_drewN | apply below_drew1) | exact HB.out)))); have n1_ := Aside0.mk (below_step (by repeat (first | (with_reducible first | exact HB.out | apply below_alloc | apply pw_below_drewN | apply below_drew1) | exact HB.out)) hb); clear HB; have HO127 := n0_; have HB := n1_; clear n0_ n1_; (try clear hb); (try clear hb2); (try clear hk); (try clear hi); (try clear ho0)) | ((with_reducible refine gate_dst (N := 3) rfl ?_); refine Kd.R_lit (Kd.int .i64) _ 3 ?hg (N := 3) ?hd (xs := ([0, 1, 3] : List Int)) (inner := [.int .i64 0, .int .i64 1, .int .i64 3]) (ok := fun _ => True) (okp := fun _ => True) ?hr ?hp (fun _ hk => hk) trivial (Below.refl _ _) (Nat.le_refl _) (by simp) ?_; (case hd => rfl); (case hg => rfl); (case hr => first | (go_simp; done) | (go_simp; rfl)); (case hp => exact (Reps.one (show Kd.M (Kd.int .i64) _ _ _ 0 [.int .i64 0] from rfl) (Reps.one (show Kd.M (Kd.int .i64) _ _ _ 1 [.int .i64 1] from rfl) (Reps.one (show Kd.M (Kd.int .i64) _ _ _ 3 [.int .i64 3] from rfl) (Reps.none _ _))))); intro v129 w11 ho12 hb hg_ hnew_; clear hg_ hnew_; (first | rw [← Ny128.out] at ho12 | (simp only [Int.reduceToNat] at ho12; rw [← Ny128.out] at ho12)); have n0_ := Aside0.mk (Kd.N_elder' (by (with_reducible repeat (first | apply Kd.N_alloc | apply Kd.N_drewN | apply Kd.N_drew)); exact HO127.out) (Kd.R_base ho12) hb); have n1_ := Aside0.mk (Kd.R_lower ho12 (below_size (by repeat (first | (with_reducible first | exact HB.out | apply below_alloc | apply pw_below_drewN | apply below_drew1) | exact HB.out)))); have n2_ := Aside0.mk (below_step (by repeat (first | (with_reducible first | exact HB.out | apply below_alloc | apply pw_below_drewN | apply below_drew1) | exact HB.out)) hb); clear HO127; clear HB; have HO127 := n0_; have HO130 := n1_; have HB := n2_; clear n0_ n1_ n2_; clear hb ho12; obtain ⟨Ao13, co13, eo13⟩ := Kd.N_slice HO127.out; subst eo13; obtain ⟨Ao14, co14, eo14⟩ := Kd.R_slice HO130.out; subst eo14) | ((with_reducible refine gate_callee (f := 16) rfl ?_); refine goesL_ (some 4) rfl rfl Try.func16 (by kernel_rfl) rfl #[.slice Ao13 t125.length co13, .int .i64 0, .slice Ao14 y128.length co14] rfl (by (try simp only [List.map_toArray, List.map_cons, List.map_nil]); first | done | rfl | (simp only [List.length_drop, List.length_take]; rfl)) ?_; (with_reducible refine (table_Run.calls k _ _ t125 0 _ _ y128 t131 _ ?side1 ?side2 ?side3 ?side4 A2.out).mono ?_); (case side1 => repeat (first | exact (Kd.N_reads' HO127.out).2.2 | (with_reducible refine Kd.C_alloc ?_ _) | (with_reducible refine Kd.C_drewN ?_ _) | (with_reducible refine Kd.C_drew ?_))); (case side2 => exact (Kd.N_reads' HO127.out).2.1); (case side3 => repeat (first | exact (Kd.R_reads' HO130.out).2.2 | (with_reducible refine Kd.C_alloc ?_ _) | (with_reducible refine Kd.C_drewN ?_ _) | (with_reducible refine Kd.C_drew ?_))); (case side4 => exact (Kd.R_reads' HO130.out).2.1); rintro e w15 ⟨v132, rfl, ho0, hb⟩; refine ⟨_, rfl, ?_⟩; have n0_ := Aside0.mk (Kd.N_elder' (by (with_reducible repeat (first | apply Kd.N_alloc | apply Kd.N_drewN | apply Kd.N_drew)); exact HO127.out) (Kd.R_base ho0) hb); have n1_ := Aside0.mk (Kd.R_below (by (with_reducible repeat (first | apply Kd.R_alloc | apply Kd.R_drewN | apply Kd.R_drew)); exact HO130.out) hb); have n2_ := Aside0.mk (Kd.R_lower ho0 (below_size (by repeat (first | (with_reducible first | exact HB.out | apply below_alloc | apply pw_below_drewN | apply below_drew1) | exact HB.out)))); have n3_ := Aside0.mk (below_step (by repeat (first | (with_reducible first | exact HB.out | apply below_alloc | apply pw_below_drewN | apply below_drew1) | exact HB.out)) hb); clear HO127; clear HO130; clear HB; have HO127 := n0_; have HO130 := n1_; have HO133 := n2_; have HB := n3_; clear n0_ n1_ n2_ n3_; (try clear hb); (try clear hb2); (try clear hk); (try clear hi); (try clear ho0); obtain ⟨Ao16, co16, eo16⟩ := Kd.R_slice HO133.out; subst eo16; have p134 : 0 ≤ (0 : Int) := (by omega); have q134 : 0 < (t131.length : Int) := of_decide_eq_true (by first | (with_reducible assumption) | assumption); obtain ⟨ad134, e134, hx134_0, hx134_1⟩ := at_T30 (Kd.R_reads' HO133.out).2.2 0 p134 q134; cases e134; have qi134 : (0 < t131.length) = True := eq_true (by omega); (try rw [show ((0 : Int)).toNat = 0 from rfl] at hx134_0); (try rw [show 0 * 2 = 0 from rfl] at hx134_0); (try rw [Addr.add_zero'] at hx134_0); (try rw [show ((0 : Int)).toNat = 0 from rfl] at hx134_1); (try rw [show 0 * 2 = 0 from rfl] at hx134_1); (try rw [Addr.add_zero'] at hx134_1); replace p134 := eq_true p134; replace q134 := eq_true q134; have p135 : 0 ≤ (1 : Int) := (by omega); have q135 : 1 < (t131.length : Int) := of_decide_eq_true (by first | (with_reducible assumption) | assumption); obtain ⟨ad135, e135, hx135_0, hx135_1⟩ := at_T30 (Kd.R_reads' HO133.out).2.2 1 p135 q135; obtain rfl : ad134 = ad135 := (by injection e135); (try simp only [show (1 : Int).toNat = 1 from rfl, Nat.reduceMul, Nat.reduceEqDiff, Go.Addr.add, ↓reduceIte] at hx135_0); (try simp only [show (1 : Int).toNat = 1 from rfl, Nat.reduceMul, Nat.reduceEqDiff, Go.Addr.add, ↓reduceIte] at hx135_1); have qi135 : (1 < t131.length) = True := eq_true (by omega); (try rw [show ((1 : Int)).toNat = 1 from rfl] at hx135_0); (try rw [show 1 * 2 = 2 from rfl] at hx135_0); (try rw [show ((1 : Int)).toNat = 1 from rfl] at hx135_1); (try rw [show 1 * 2 = 2 from rfl] at hx135_1); replace p135 := eq_true p135; replace q135 := eq_true q135; have p136 : 0 ≤ (2 : Int) := (by omega); have q136 : 2 < (t131.length : Int) := of_decide_eq_true (by first | (with_reducible assumption) | assumption); obtain ⟨ad136, e136, hx136_0, hx136_1⟩ := at_T30 (Kd.R_reads' HO133.out).2.2 2 p136 q136; obtain rfl : ad134 = ad136 := (by injection e136); (try simp only [show (2 : Int).toNat = 2 from rfl, Nat.reduceMul, Nat.reduceEqDiff, Go.Addr.add, ↓reduceIte] at hx136_0); (try simp only [show (2 : Int).toNat = 2 from rfl, Nat.reduceMul, Nat.reduceEqDiff, Go.Addr.add, ↓reduceIte] at hx136_1); have qi136 : (2 < t131.length) = True := eq_true (by omega); (try rw [show ((2 : Int)).toNat = 2 from rfl] at hx136_0); (try rw [show 2 * 2 = 4 from rfl] at hx136_0); (try rw [show ((2 : Int)).toNat = 2 from rfl] at hx136_1); (try rw [show 2 * 2 = 4 from rfl] at hx136_1); replace p136 := eq_true p136; replace q136 := eq_true q136; have p137 : 0 ≤ (2 : Int) := (by omega); have q137 : 2 < (t131.length : Int) := of_decide_eq_true (by first | (with_reducible assumption) | assumption); obtain ⟨ad137, e137, hx137_0, hx137_1⟩ := at_T30 (Kd.R_reads' HO133.out).2.2 2 p137 q137; obtain rfl : ad134 = ad137 := (by injection e137); (try simp only [show (2 : Int).toNat = 2 from rfl, Nat.reduceMul, Nat.reduceEqDiff, Go.Addr.add, ↓reduceIte] at hx137_0); (try simp only [show (2 : Int).toNat = 2 from rfl, Nat.reduceMul, Nat.reduceEqDiff, Go.Addr.add, ↓reduceIte] at hx137_1); have qi137 : (2 < t131.length) = True := eq_true (by omega); (try rw [show ((2 : Int)).toNat = 2 from rfl] at hx137_0); (try rw [show 2 * 2 = 4 from rfl] at hx137_0); (try rw [show ((2 : Int)).toNat = 2 from rfl] at hx137_1); (try rw [show 2 * 2 = 4 from rfl] at hx137_1); replace p137 := eq_true p137; replace q137 := eq_true q137))
                go_ret
                exact ⟨by first | rfl | (simp [errW_none, errW_some] <;> rfl) | (simp [*, errW_none, errW_some] <;> rfl), by repeat (first | (with_reducible first | exact HB.out | apply below_alloc | apply pw_below_drewN | apply below_drew1) | exact HB.out)⟩
              · rw [if_neg c9] at H
                have c9b0 : (((rd_T30 t131 2).f0) == 0) = false := beq_eq_false_iff_ne.mpr c9
                have c9b1 : (((rd_T30 t131 2).f0) != 0) = true := bne_iff_ne.mpr c9
                obtain rfl := Option.some.inj H
                go_enter Try.func14, Try.ntmps14
                go_wp2_with (first | ((with_reducible refine gate_callee (f := 18) rfl ?_); refine goesL_ (some 2) rfl rfl Try.func18 (by kernel_rfl) rfl #[] rfl (by (try simp only [List.map_toArray, List.map_cons, List.map_nil]); first | done | rfl | (simp only [List.length_drop, List.length_take]; rfl)) ?_; (with_reducible refine (table_Registrar.calls  t125 _ A1.out).mono ?_); rintro e w17 ⟨v126, rfl, ho0, hb⟩; refine ⟨_, rfl, ?_⟩; have n0_ := Aside0.mk (Kd.N_lower (Kd.N_mono (ok' := fun k_ => True) ho0 (fun k_ hk_ => trivial)) (below_size (by repeat (first | (with_reducible first | exact HB.out | apply below_alloc | apply pw_below_drewN | apply below_drew1) | exact HB.out)))); have n1_ := Aside0.mk (below_step (by repeat (first | (with_reducible first | exact HB.out | apply below_alloc | apply pw_below_drewN | apply below_drew1) | exact HB.out)) hb); clear HB; have HO127 := n0_; have HB := n1_; clear n0_ n1_; (try clear hb); (try clear hb2); (try clear hk); (try clear hi); (try clear ho0)) | ((with_reducible refine gate_dst (N := 3) rfl ?_); refine Kd.R_lit (Kd.int .i64) _ 3 ?hg (N := 3) ?hd (xs := ([0, 1, 3] : List Int)) (inner := [.int .i64 0, .int .i64 1, .int .i64 3]) (ok := fun _ => True) (okp := fun _ => True) ?hr ?hp (fun _ hk => hk) trivial (Below.refl _ _) (Nat.le_refl _) (by simp) ?_; (case hd => rfl); (case hg => rfl); (case hr => first | (go_simp; done) | (go_simp; rfl)); (case hp => exact (Reps.one (show Kd.M (Kd.int .i64) _ _ _ 0 [.int .i64 0] from rfl) (Reps.one (show Kd.M (Kd.int .i64) _ _ _ 1 [.int .i64 1] from rfl) (Reps.one (show Kd.M (Kd.int .i64) _ _ _ 3 [.int .i64 3] from rfl) (Reps.none _ _))))); intro v129 w18 ho19 hb hg_ hnew_; clear hg_ hnew_; (first | rw [← Ny128.out] at ho19 | (simp only [Int.reduceToNat] at ho19; rw [← Ny128.out] at ho19)); have n0_ := Aside0.mk (Kd.N_elder' (by (with_reducible repeat (first | apply Kd.N_alloc | apply Kd.N_drewN | apply Kd.N_drew)); exact HO127.out) (Kd.R_base ho19) hb); have n1_ := Aside0.mk (Kd.R_lower ho19 (below_size (by repeat (first | (with_reducible first | exact HB.out | apply below_alloc | apply pw_below_drewN | apply below_drew1) | exact HB.out)))); have n2_ := Aside0.mk (below_step (by repeat (first | (with_reducible first | exact HB.out | apply below_alloc | apply pw_below_drewN | apply below_drew1) | exact HB.out)) hb); clear HO127; clear HB; have HO127 := n0_; have HO130 := n1_; have HB := n2_; clear n0_ n1_ n2_; clear hb ho19; obtain ⟨Ao20, co20, eo20⟩ := Kd.N_slice HO127.out; subst eo20; obtain ⟨Ao21, co21, eo21⟩ := Kd.R_slice HO130.out; subst eo21) | ((with_reducible refine gate_callee (f := 16) rfl ?_); refine goesL_ (some 4) rfl rfl Try.func16 (by kernel_rfl) rfl #[.slice Ao20 t125.length co20, .int .i64 0, .slice Ao21 y128.length co21] rfl (by (try simp only [List.map_toArray, List.map_cons, List.map_nil]); first | done | rfl | (simp only [List.length_drop, List.length_take]; rfl)) ?_; (with_reducible refine (table_Run.calls k _ _ t125 0 _ _ y128 t131 _ ?side1 ?side2 ?side3 ?side4 A2.out).mono ?_); (case side1 => repeat (first | exact (Kd.N_reads' HO127.out).2.2 | (with_reducible refine Kd.C_alloc ?_ _) | (with_reducible refine Kd.C_drewN ?_ _) | (with_reducible refine Kd.C_drew ?_))); (case side2 => exact (Kd.N_reads' HO127.out).2.1); (case side3 => repeat (first | exact (Kd.R_reads' HO130.out).2.2 | (with_reducible refine Kd.C_alloc ?_ _) | (with_reducible refine Kd.C_drewN ?_ _) | (with_reducible refine Kd.C_drew ?_))); (case side4 => exact (Kd.R_reads' HO130.out).2.1); rintro e w22 ⟨v132, rfl, ho0, hb⟩; refine ⟨_, rfl, ?_⟩; have n0_ := Aside0.mk (Kd.N_elder' (by (with_reducible repeat (first | apply Kd.N_alloc | apply Kd.N_drewN | apply Kd.N_drew)); exact HO127.out) (Kd.R_base ho0) hb); have n1_ := Aside0.mk (Kd.R_below (by (with_reducible repeat (first | apply Kd.R_alloc | apply Kd.R_drewN | apply Kd.R_drew)); exact HO130.out) hb); have n2_ := Aside0.mk (Kd.R_lower ho0 (below_size (by repeat (first | (with_reducible first | exact HB.out | apply below_alloc | apply pw_below_drewN | apply below_drew1) | exact HB.out)))); have n3_ := Aside0.mk (below_step (by repeat (first | (with_reducible first | exact HB.out | apply below_alloc | apply pw_below_drewN | apply below_drew1) | exact HB.out)) hb); clear HO127; clear HO130; clear HB; have HO127 := n0_; have HO130 := n1_; have HO133 := n2_; have HB := n3_; clear n0_ n1_ n2_ n3_; (try clear hb); (try clear hb2); (try clear hk); (try clear hi); (try clear ho0); obtain ⟨Ao23, co23, eo23⟩ := Kd.R_slice HO133.out; subst eo23; have p134 : 0 ≤ (0 : Int) := (by omega); have q134 : 0 < (t131.length : Int) := of_decide_eq_true (by first | (with_reducible assumption) | assumption); obtain ⟨ad134, e134, hx134_0, hx134_1⟩ := at_T30 (Kd.R_reads' HO133.out).2.2 0 p134 q134; cases e134; have qi134 : (0 < t131.length) = True := eq_true (by omega); (try rw [show ((0 : Int)).toNat = 0 from rfl] at hx134_0); (try rw [show 0 * 2 = 0 from rfl] at hx134_0); (try rw [Addr.add_zero'] at hx134_0); (try rw [show ((0 : Int)).toNat = 0 from rfl] at hx134_1); (try rw [show 0 * 2 = 0 from rfl] at hx134_1); (try rw [Addr.add_zero'] at hx134_1); replace p134 := eq_true p134; replace q134 := eq_true q134; have p135 : 0 ≤ (1 : Int) := (by omega); have q135 : 1 < (t131.length : Int) := of_decide_eq_true (by first | (with_reducible assumption) | assumption); obtain ⟨ad135, e135, hx135_0, hx135_1⟩ := at_T30 (Kd.R_reads' HO133.out).2.2 1 p135 q135; obtain rfl : ad134 = ad135 := (by injection e135); (try simp only [show (1 : Int).toNat = 1 from rfl, Nat.reduceMul, Nat.reduceEqDiff, Go.Addr.add, ↓reduceIte] at hx135_0); (try simp only [show (1 : Int).toNat = 1 from rfl, Nat.reduceMul, Nat.reduceEqDiff, Go.Addr.add, ↓reduceIte] at hx135_1); have qi135 : (1 < t131.length) = True := eq_true (by omega); (try rw [show ((1 : Int)).toNat = 1 from rfl] at hx135_0); (try rw [show 1 * 2 = 2 from rfl] at hx135_0); (try rw [show ((1 : Int)).toNat = 1 from rfl] at hx135_1); (try rw [show 1 * 2 = 2 from rfl] at hx135_1); replace p135 := eq_true p135; replace q135 := eq_true q135; have p136 : 0 ≤ (2 : Int) := (by omega); have q136 : 2 < (t131.length : Int) := of_decide_eq_true (by first | (with_reducible assumption) | assumption); obtain ⟨ad136, e136, hx136_0, hx136_1⟩ := at_T30 (Kd.R_reads' HO133.out).2.2 2 p136 q136; obtain rfl : ad134 = ad136 := (by injection e136); (try simp only [show (2 : Int).toNat = 2 from rfl, Nat.reduceMul, Nat.reduceEqDiff, Go.Addr.add, ↓reduceIte] at hx136_0); (try simp only [show (2 : Int).toNat = 2 from rfl, Nat.reduceMul, Nat.reduceEqDiff, Go.Addr.add, ↓reduceIte] at hx136_1); have qi136 : (2 < t131.length) = True := eq_true (by omega); (try rw [show ((2 : Int)).toNat = 2 from rfl] at hx136_0); (try rw [show 2 * 2 = 4 from rfl] at hx136_0); (try rw [show ((2 : Int)).toNat = 2 from rfl] at hx136_1); (try rw [show 2 * 2 = 4 from rfl] at hx136_1); replace p136 := eq_true p136; replace q136 := eq_true q136))
                go_ret
                exact ⟨by first | rfl | (simp [errW_none, errW_some] <;> rfl) | (simp [*, errW_none, errW_some] <;> rfl), by repeat (first | (with_reducible first | exact HB.out | apply below_alloc | apply pw_below_drewN | apply below_drew1) | exact HB.out)⟩
            · rw [if_neg c8] at H
              exact absurd H (by simp)
          · rw [if_neg c7] at H
            have c7b0 : (((rd_T30 t131 1).f0) == 1) = false := beq_eq_false_iff_ne.mpr c7
            have c7b1 : (((rd_T30 t131 1).f0) != 1) = true := bne_iff_ne.mpr c7
            obtain rfl := Option.some.inj H
            go_enter Try.func14, Try.ntmps14
            go_wp2_with (first | ((with_reducible refine gate_callee (f := 18) rfl ?_); refine goesL_ (some 2) rfl rfl Try.func18 (by kernel_rfl) rfl #[] rfl (by (try simp only [List.map_toArray, List.map_cons, List.map_nil]); first | done | rfl | (simp only [List.length_drop, List.length_take]; rfl)) ?_; (with_reducible refine (table_Registrar.calls  t125 _ A1.out).mono ?_); rintro e w24 ⟨v126, rfl, ho0, hb⟩; refine ⟨_, rfl, ?_⟩; have n0_ := Aside0.mk (Kd.N_lower (Kd.N_mono (ok' := fun k_ => True) ho0 (fun k_ hk_ => trivial)) (below_size (by repeat (first | (with_reducible first | exact HB.out | apply below_alloc | apply pw_below_drewN | apply below_drew1) | exact HB.out)))); have n1_ := Aside0.mk (below_step (by repeat (first | (with_reducible first | exact HB.out | apply below_alloc | apply pw_below_drewN | apply below_drew1) | exact HB.out)) hb); clear HB; have HO127 := n0_; have HB := n1_; clear n0_ n1_; (try clear hb); (try clear hb2); (try clear hk); (try clear hi); (try clear ho0)) | ((with_reducible refine gate_dst (N := 3) rfl ?_); refine Kd.R_lit (Kd.int .i64) _ 3 ?hg (N := 3) ?hd (xs := ([0, 1, 3] : List Int)) (inner := [.int .i64 0, .int .i64 1, .int .i64 3]) (ok := fun _ => True) (okp := fun _ => True) ?hr ?hp (fun _ hk => hk) trivial (Below.refl _ _) (Nat.le_refl _) (by simp) ?_; (case hd => rfl); (case hg => rfl); (case hr => first | (go_simp; done) | (go_simp; rfl)); (case hp => exact (Reps.one (show Kd.M (Kd.int .i64) _ _ _ 0 [.int .i64 0] from rfl) (Reps.one (show Kd.M (Kd.int .i64) _ _ _ 1 [.int .i64 1] from rfl) (Reps.one (show Kd.M (Kd.int .i64) _ _ _ 3 [.int .i64 3] from rfl) (Reps.none _ _))))); intro v129 w25 ho26 hb hg_ hnew_; clear hg_ hnew_; (first | rw [← Ny128.out] at ho26 | (simp only [Int.reduceToNat] at ho26; rw [← Ny128.out] at ho26)); have n0_ := Aside0.mk (Kd.N_elder' (by (with_reducible repeat (first | apply Kd.N_alloc | apply Kd.N_drewN | apply Kd.N_drew)); exact HO127.out) (Kd.R_base ho26) hb); have n1_ := Aside0.mk (Kd.R_lower ho26 (below_size (by repeat (first | (with_reducible first | exact HB.out | apply below_alloc | apply pw_below_drewN | apply below_drew1) | exact HB.out)))); have n2_ := Aside0.mk (below_step (by repeat (first | (with_reducible first | exact HB.out | apply below_alloc | apply pw_below_drewN | apply below_drew1) | exact HB.out)) hb); clear HO127; clear HB; have HO127 := n0_; have HO130 := n1_; have HB := n2_; clear n0_ n1_ n2_; clear hb ho26; obtain ⟨Ao27, co27, eo27⟩ := Kd.N_slice HO127.out; subst eo27; obtain ⟨Ao28, co28, eo28⟩ := Kd.R_slice HO130.out; subst eo28) | ((with_reducible refine gate_callee (f := 16) rfl ?_); refine goesL_ (some 4) rfl rfl Try.func16 (by kernel_rfl) rfl #[.slice Ao27 t125.length co27, .int .i64 0, .slice Ao28 y128.length co28] rfl (by (try simp only [List.map_toArray, List.map_cons, List.map_nil]); first | done | rfl | (simp only [List.length_drop, List.length_take]; rfl)) ?_; (with_reducible refine (table_Run.calls k _ _ t125 0 _ _ y128 t131 _ ?side1 ?side2 ?side3 ?side4 A2.out).mono ?_); (case side1 => repeat (first | exact (Kd.N_reads' HO127.out).2.2 | (with_reducible refine Kd.C_alloc ?_ _) | (with_reducible refine Kd.C_drewN ?_ _) | (with_reducible refine Kd.C_drew ?_))); (case side2 => exact (Kd.N_reads' HO127.out).2.1); (case side3 => repeat (first | exact (Kd.R_reads' HO130.out).2.2 | (with_reducible refine Kd.C_alloc ?_ _) | (with_reducible refine Kd.C_drewN ?_ _) | (with_reducible refine Kd.C_drew ?_))); (case side4 => exact (Kd.R_reads' HO130.out).2.1); rintro e w29 ⟨v132, rfl, ho0, hb⟩; refine ⟨_, rfl, ?_⟩; have n0_ := Aside0.mk (Kd.N_elder' (by (with_reducible repeat (first | apply Kd.N_alloc | apply Kd.N_drewN | apply Kd.N_drew)); exact HO127.out) (Kd.R_base ho0) hb); have n1_ := Aside0.mk (Kd.R_below (by (with_reducible repeat (first | apply Kd.R_alloc | apply Kd.R_drewN | apply Kd.R_drew)); exact HO130.out) hb); have n2_ := Aside0.mk (Kd.R_lower ho0 (below_size (by repeat (first | (with_reducible first | exact HB.out | apply below_alloc | apply pw_below_drewN | apply below_drew1) | exact HB.out)))); have n3_ := Aside0.mk (below_step (by repeat (first | (with_reducible first | exact HB.out | apply below_alloc | apply pw_below_drewN | apply below_drew1) | exact HB.out)) hb); clear HO127; clear HO130; clear HB; have HO127 := n0_; have HO130 := n1_; have HO133 := n2_; have HB := n3_; clear n0_ n1_ n2_ n3_; (try clear hb); (try clear hb2); (try clear hk); (try clear hi); (try clear ho0); obtain ⟨Ao30, co30, eo30⟩ := Kd.R_slice HO133.out; subst eo30; have p134 : 0 ≤ (0 : Int) := (by omega); have q134 : 0 < (t131.length : Int) := of_decide_eq_true (by first | (with_reducible assumption) | assumption); obtain ⟨ad134, e134, hx134_0, hx134_1⟩ := at_T30 (Kd.R_reads' HO133.out).2.2 0 p134 q134; cases e134; have qi134 : (0 < t131.length) = True := eq_true (by omega); (try rw [show ((0 : Int)).toNat = 0 from rfl] at hx134_0); (try rw [show 0 * 2 = 0 from rfl] at hx134_0); (try rw [Addr.add_zero'] at hx134_0); (try rw [show ((0 : Int)).toNat = 0 from rfl] at hx134_1); (try rw [show 0 * 2 = 0 from rfl] at hx134_1); (try rw [Addr.add_zero'] at hx134_1); replace p134 := eq_true p134; replace q134 := eq_true q134; have p135 : 0 ≤ (1 : Int) := (by omega); have q135 : 1 < (t131.length : Int) := of_decide_eq_true (by first | (with_reducible assumption) | assumption); obtain ⟨ad135, e135, hx135_0, hx135_1⟩ := at_T30 (Kd.R_reads' HO133.out).2.2 1 p135 q135; obtain rfl : ad134 = ad135 := (by injection e135); (try simp only [show (1 : Int).toNat = 1 from rfl, Nat.reduceMul, Nat.reduceEqDiff, Go.Addr.add, ↓reduceIte] at hx135_0); (try simp only [show (1 : Int).toNat = 1 from rfl, Nat.reduceMul, Nat.reduceEqDiff, Go.Addr.add, ↓reduceIte] at hx135_1); have qi135 : (1 < t131.length) = True := eq_true (by omega); (try rw [show ((1 : Int)).toNat = 1 from rfl] at hx135_0); (try rw [show 1 * 2 = 2 from rfl] at hx135_0); (try rw [show ((1 : Int)).toNat = 1 from rfl] at hx135_1); (try rw [show 1 * 2 = 2 from rfl] at hx135_1); replace p135 := eq_true p135; replace q135 := eq_true q135))
            go_ret
            exact ⟨by first | rfl | (simp [errW_none, errW_some] <;> rfl) | (simp [*, errW_none, errW_some] <;> rfl), by repeat (first | (with_reducible first | exact HB.out | apply below_alloc | apply pw_below_drewN | apply below_drew1) | exact HB.out)⟩
        · rw [if_neg c6] at H
          exact absurd H (by simp)
      · rw [if_neg c5] at H
        have c5b0 : (((rd_T30 t131 0).f0) == 2) = false := beq_eq_false_iff_ne.mpr c5
        have c5b1 : (((rd_T30 t131 0).f0) != 2) = true := bne_iff_ne.mpr c5
        obtain rfl := Option.some.inj H
        go_enter Try.func14, Try.ntmps14
        go_wp2_with (first | ((with_reducible refine gate_callee (f := 18) rfl ?_); refine goesL_ (some 2) rfl rfl Try.func18 (by kernel_rfl) rfl #[] rfl (by (try simp only [List.map_toArray, List.map_cons, List.map_nil]); first | done | rfl | (simp only [List.length_drop, List.length_take]; rfl)) ?_; (with_reducible refine (table_Registrar.calls  t125 _ A1.out).mono ?_); rintro e w31 ⟨v126, rfl, ho0, hb⟩; refine ⟨_, rfl, ?_⟩; have n0_ := Aside0.mk (Kd.N_lower (Kd.N_mono (ok' := fun k_ => True) ho0 (fun k_ hk_ => trivial)) (below_size (by repeat (first | (with_reducible first | exact HB.out | apply below_alloc | apply pw_below_drewN | apply below_drew1) | exact HB.out)))); have n1_ := Aside0.mk (below_step (by repeat (first | (with_reducible first | exact HB.out | apply below_alloc | apply pw_below_drewN | apply below_drew1) | exact HB.out)) hb); clear HB; have HO127 := n0_; have HB := n1_; clear n0_ n1_; (try clear hb); (try clear hb2); (try clear hk); (try clear hi); (try clear ho0)) | ((with_reducible refine gate_dst (N := 3) rfl ?_); refine Kd.R_lit (Kd.int .i64) _ 3 ?hg (N := 3) ?hd (xs := ([0, 1, 3] : List Int)) (inner := [.int .i64 0, .int .i64 1, .int .i64 3]) (ok := fun _ => True) (okp := fun _ => True) ?hr ?hp (fun _ hk => hk) trivial (Below.refl _ _) (Nat.le_refl _) (by simp) ?_; (case hd => rfl); (case hg => rfl); (case hr => first | (go_simp; done) | (go_simp; rfl)); (case hp => exact (Reps.one (show Kd.M (Kd.int .i64) _ _ _ 0 [.int .i64 0] from rfl) (Reps.one (show Kd.M (Kd.int .i64) _ _ _ 1 [.int .i64 1] from rfl) (Reps.one (show Kd.M (Kd.int .i64) _ _ _ 3 [.int .i64 3] from rfl) (Reps.none _ _))))); intro v129 w32 ho33 hb hg_ hnew_; clear hg_ hnew_; (first | rw [← Ny128.out] at ho33 | (simp only [Int.reduceToNat] at ho33; rw [← Ny128.out] at ho33)); have n0_ := Aside0.mk (Kd.N_elder' (by (with_reducible repeat (first | apply Kd.N_alloc | apply Kd.N_drewN | apply Kd.N_drew)); exact HO127.out) (Kd.R_base ho33) hb); have n1_ := Aside0.mk (Kd.R_lower ho33 (below_size (by repeat (first | (with_reducible first | exact HB.out | apply below_alloc | apply pw_below_drewN | apply below_drew1) | exact HB.out)))); have n2_ := Aside0.mk (below_step (by repeat (first | (with_reducible first | exact HB.out | apply below_alloc | apply pw_below_drewN | apply below_drew1) | exact HB.out)) hb); clear HO127; clear HB; have HO127 := n0_; have HO130 := n1_; have HB := n2_; clear n0_ n1_ n2_; clear hb ho33; obtain ⟨Ao34, co34, eo34⟩ := Kd.N_slice HO127.out; subst eo34; obtain ⟨Ao35, co35, eo35⟩ := Kd.R_slice HO130.out; subst eo35) | ((with_reducible refine gate_callee (f := 16) rfl ?_); refine goesL_ (some 4) rfl rfl Try.func16 (by kernel_rfl) rfl #[.slice Ao34 t125.length co34, .int .i64 0, .slice Ao35 y128.length co35] rfl (by (try simp only [List.map_toArray, List.map_cons, List.map_nil]); first | done | rfl | (simp only [List.length_drop, List.length_take]; rfl)) ?_; (with_reducible refine (table_Run.calls k _ _ t125 0 _ _ y128 t131 _ ?side1 ?side2 ?side3 ?side4 A2.out).mono ?_); (case side1 => repeat (first | exact (Kd.N_reads' HO127.out).2.2 | (with_reducible refine Kd.C_alloc ?_ _) | (with_reducible refine Kd.C_drewN ?_ _) | (with_reducible refine Kd.C_drew ?_))); (case side2 => exact (Kd.N_reads' HO127.out).2.1); (case side3 => repeat (first | exact (Kd.R_reads' HO130.out).2.2 | (with_reducible refine Kd.C_alloc ?_ _) | (with_reducible refine Kd.C_drewN ?_ _) | (with_reducible refine Kd.C_drew ?_))); (case side4 => exact (Kd.R_reads' HO130.out).2.1); rintro e w36 ⟨v132, rfl, ho0, hb⟩; refine ⟨_, rfl, ?_⟩; have n0_ := Aside0.mk (Kd.N_elder' (by (with_reducible repeat (first | apply Kd.N_alloc | apply Kd.N_drewN | apply Kd.N_drew)); exact HO127.out) (Kd.R_base ho0) hb); have n1_ := Aside0.mk (Kd.R_below (by (with_reducible repeat (first | apply Kd.R_alloc | apply Kd.R_drewN | apply Kd.R_drew)); exact HO130.out) hb); have n2_ := Aside0.mk (Kd.R_lower ho0 (below_size (by repeat (first | (with_reducible first | exact HB.out | apply below_alloc | apply pw_below_drewN | apply below_drew1) | exact HB.out)))); have n3_ := Aside0.mk (below_step (by repeat (first | (with_reducible first | exact HB.out | apply below_alloc | apply pw_below_drewN | apply below_drew1) | exact HB.out)) hb); clear HO127; clear HO130; clear HB; have HO127 := n0_; have HO130 := n1_; have HO133 := n2_; have HB := n3_; clear n0_ n1_ n2_ n3_; (try clear hb); (try clear hb2); (try clear hk); (try clear hi); (try clear ho0); obtain ⟨Ao37, co37, eo37⟩ := Kd.R_slice HO133.out; subst eo37; have p134 : 0 ≤ (0 : Int) := (by omega); have q134 : 0 < (t131.length : Int) := of_decide_eq_true (by first | (with_reducible assumption) | assumption); obtain ⟨ad134, e134, hx134_0, hx134_1⟩ := at_T30 (Kd.R_reads' HO133.out).2.2 0 p134 q134; cases e134; have qi134 : (0 < t131.length) = True := eq_true (by omega); (try rw [show ((0 : Int)).toNat = 0 from rfl] at hx134_0); (try rw [show 0 * 2 = 0 from rfl] at hx134_0); (try rw [Addr.add_zero'] at hx134_0); (try rw [show ((0 : Int)).toNat = 0 from rfl] at hx134_1); (try rw [show 0 * 2 = 0 from rfl] at hx134_1); (try rw [Addr.add_zero'] at hx134_1); replace p134 := eq_true p134; replace q134 := eq_true q134))
        go_ret
        exact ⟨by first | rfl | (simp [errW_none, errW_some] <;> rfl) | (simp [*, errW_none, errW_some] <;> rfl), by repeat (first | (with_reducible first | exact HB.out | apply below_alloc | apply pw_below_drewN | apply below_drew1) | exact HB.out)⟩
    · rw [if_neg c4] at H
      exact absurd H (by simp)
  · rw [if_neg c3] at H
    have c3b0 : ((t131.length : Int) == 3) = false := beq_eq_false_iff_ne.mpr c3
    have c3b1 : ((t131.length : Int) != 3) = true := bne_iff_ne.mpr c3
    obtain rfl := Option.some.inj H
    go_enter Try.func14, Try.ntmps14
    go_wp2_with (first | ((with_reducible refine gate_callee (f := 18) rfl ?_); refine goesL_ (some 2) rfl rfl Try.func18 (by kernel_rfl) rfl #[] rfl (by (try simp only [List.map_toArray, List.map_cons, List.map_nil]); first | done | rfl | (simp only [List.length_drop, List.length_take]; rfl)) ?_; (with_reducible refine (table_Registrar.calls  t125 _ A1.out).mono ?_); rintro e w38 ⟨v126, rfl, ho0, hb⟩; refine ⟨_, rfl, ?_⟩; have n0_ := Aside0.mk (Kd.N_lower (Kd.N_mono (ok' := fun k_ => True) ho0 (fun k_ hk_ => trivial)) (below_size (by repeat (first | (with_reducible first | exact HB.out | apply below_alloc | apply pw_below_drewN | apply below_drew1) | exact HB.out)))); have n1_ := Aside0.mk (below_step (by repeat (first | (with_reducible first | exact HB.out | apply below_alloc | apply pw_below_drewN | apply below_drew1) | exact HB.out)) hb); clear HB; have HO127 := n0_; have HB := n1_; clear n0_ n1_; (try clear hb); (try clear hb2); (try clear hk); (try clear hi); (try clear ho0)) | ((with_reducible refine gate_dst (N := 3) rfl ?_); refine Kd.R_lit (Kd.int .i64) _ 3 ?hg (N := 3) ?hd (xs := ([0, 1, 3] : List Int)) (inner := [.int .i64 0, .int .i64 1, .int .i64 3]) (ok := fun _ => True) (okp := fun _ => True) ?hr ?hp (fun _ hk => hk) trivial (Below.refl _ _) (Nat.le_refl _) (by simp) ?_; (case hd => rfl); (case hg => rfl); (case hr => first | (go_simp; done) | (go_simp; rfl)); (case hp => exact (Reps.one (show Kd.M (Kd.int .i64) _ _ _ 0 [.int .i64 0] from rfl) (Reps.one (show Kd.M (Kd.int .i64) _ _ _ 1 [.int .i64 1] from rfl) (Reps.one (show Kd.M (Kd.int .i64) _ _ _ 3 [.int .i64 3] from rfl) (Reps.none _ _))))); intro v129 w39 ho40 hb hg_ hnew_; clear hg_ hnew_; (first | rw [← Ny128.out] at ho40 | (simp only [Int.reduceToNat] at ho40; rw [← Ny128.out] at ho40)); have n0_ := Aside0.mk (Kd.N_elder' (by (with_reducible repeat (first | apply Kd.N_alloc | apply Kd.N_drewN | apply Kd.N_drew)); exact HO127.out) (Kd.R_base ho40) hb); have n1_ := Aside0.mk (Kd.R_lower ho40 (below_size (by repeat (first | (with_reducible first | exact HB.out | apply below_alloc | apply pw_below_drewN | apply below_drew1) | exact HB.out)))); have n2_ := Aside0.mk (below_step (by repeat (first | (with_reducible first | exact HB.out | apply below_alloc | apply pw_below_drewN | apply below_drew1) | exact HB.out)) hb); clear HO127; clear HB; have HO127 := n0_; have HO130 := n1_; have HB := n2_; clear n0_ n1_ n2_; clear hb ho40; obtain ⟨Ao41, co41, eo41⟩ := Kd.N_slice HO127.out; subst eo41; obtain ⟨Ao42, co42, eo42⟩ := Kd.R_slice HO130.out; subst eo42) | ((with_reducible refine gate_callee (f := 16) rfl ?_); refine goesL_ (some 4) rfl rfl Try.func16 (by kernel_rfl) rfl #[.slice Ao41 t125.length co41, .int .i64 0, .slice Ao42 y128.length co42] rfl (by (try simp only [List.map_toArray, List.map_cons, List.map_nil]); first | done | rfl | (simp only [List.length_drop, List.length_take]; rfl)) ?_; (with_reducible refine (table_Run.calls k _ _ t125 0 _ _ y128 t131 _ ?side1 ?side2 ?side3 ?side4 A2.out).mono ?_); (case side1 => repeat (first | exact (Kd.N_reads' HO127.out).2.2 | (with_reducible refine Kd.C_alloc ?_ _) | (with_reducible refine Kd.C_drewN ?_ _) | (with_reducible refine Kd.C_drew ?_))); (case side2 => exact (Kd.N_reads' HO127.out).2.1); (case side3 => repeat (first | exact (Kd.R_reads' HO130.out).2.2 | (with_reducible refine Kd.C_alloc ?_ _) | (with_reducible refine Kd.C_drewN ?_ _) | (with_reducible refine Kd.C_drew ?_))); (case side4 => exact (Kd.R_reads' HO130.out).2.1); rintro e w43 ⟨v132, rfl, ho0, hb⟩; refine ⟨_, rfl, ?_⟩; have n0_ := Aside0.mk (Kd.N_elder' (by (with_reducible repeat (first | apply Kd.N_alloc | apply Kd.N_drewN | apply Kd.N_drew)); exact HO127.out) (Kd.R_base ho0) hb); have n1_ := Aside0.mk (Kd.R_below (by (with_reducible repeat (first | apply Kd.R_alloc | apply Kd.R_drewN | apply Kd.R_drew)); exact HO130.out) hb); have n2_ := Aside0.mk (Kd.R_lower ho0 (below_size (by repeat (first | (with_reducible first | exact HB.out | apply below_alloc | apply pw_below_drewN | apply below_drew1) | exact HB.out)))); have n3_ := Aside0.mk (below_step (by repeat (first | (with_reducible first | exact HB.out | apply below_alloc | apply pw_below_drewN | apply below_drew1) | exact HB.out)) hb); clear HO127; clear HO130; clear HB; have HO127 := n0_; have HO130 := n1_; have HO133 := n2_; have HB := n3_; clear n0_ n1_ n2_ n3_; (try clear hb); (try clear hb2); (try clear hk); (try clear hi); (try clear ho0); obtain ⟨Ao44, co44, eo44⟩ := Kd.R_slice HO133.out; subst eo44))
    go_ret
    exact ⟨by first | rfl | (simp [errW_none, errW_some] <;> rfl) | (simp [*, errW_none, errW_some] <;> rfl), by repeat (first | (with_reducible first | exact HB.out | apply below_alloc | apply pw_below_drewN | apply below_drew1) | exact HB.out)⟩
mutual
def table_Good.l0 : Nat → List (List (S30)) → List (List (S30)) → Int → Int → Option (Bool)
  | 0, _, _, _, _ => none
  | k + 1, x0, x7, x8, x9 => if x9 < x8 then (if 0 ≤ x9 then (if x9 < (x7.length : Int) then (if 0 < (x0.length : Int) then (if ((rd_L2 x7 x9).length : Int) = ((rd_L2 x0 0).length : Int) then (table_Good.l1 k x0 x7 x8 x9 (rd_L2 x7 x9) ((rd_L2 x7 x9).length : Int) 0) else (some false)) else (none)) else (none)) else (none)) else (some (decide ((x0.length : Int) > 0)))
def table_Good.l1 : Nat → List (List (S30)) → List (List (S30)) → Int → Int → List (S30) → Int → Int → Option (Bool)
  | 0, _, _, _, _, _, _, _ => none
  | k + 1, x0, x7, x8, x9, x20, x21, x22 => if x22 < x21 then (if 0 ≤ x22 then (if x22 < (x20.length : Int) then (if ((rd_T30 x20 x22).f0) < 0 then (some false) else (if ((rd_T30 x20 x22).f0) ≥ (x0.length : Int) then (some false) else (table_Good.l1 k x0 x7 x8 x9 x20 x21 (wrap64 (x22 + 1))))) else (none)) else (none)) else (table_Good.l0 k x0 x7 x8 (wrap64 (x9 + 1)))
end
def table_Good.f (k : Nat) (l0 : List (List (S30))) : Option (Bool) := table_Good.l0 k l0 l0 (l0.length : Int) 0
theorem table_Good.mono_l : ∀ k, (∀ y0 y1 y2 y3, LeO (table_Good.l0 k y0 y1 y2 y3) (table_Good.l0 (k + 1) y0 y1 y2 y3)) ∧ (∀ y0 y1 y2 y3 y4 y5 y6, LeO (table_Good.l1 k y0 y1 y2 y3 y4 y5 y6) (table_Good.l1 (k + 1) y0 y1 y2 y3 y4 y5 y6))
  | 0 => ⟨fun _ _ _ _ r h => by simp [table_Good.l0] at h, fun _ _ _ _ _ _ _ r h => by simp [table_Good.l1] at h⟩
  | k + 1 => by
    obtain ⟨ih0, ih1⟩ := table_Good.mono_l k
    refine ⟨?_, ?_⟩
    · intro y0 y1 y2 y3
      unfold table_Good.l0
      repeat' first
      | (with_reducible exact ih0 _ _ _ _)
      | (with_reducible exact ih1 _ _ _ _ _ _ _)
      | (with_reducible exact LeO.refl _)
      | (with_reducible exact LeO.none _)
      | (with_reducible refine LeO.ite ?_ ?_)
      | (with_reducible refine LeO.bind ?_ (fun _ => ?_))
      | exact ih0 _ _ _ _
      | exact ih1 _ _ _ _ _ _ _
      | exact LeO.none _
      | refine LeO.ite ?_ ?_
      | refine LeO.bind ?_ (fun _ => ?_)
    · intro y0 y1 y2 y3 y4 y5 y6
      unfold table_Good.l1
      repeat' first
      | (with_reducible exact ih0 _ _ _ _)
      | (with_reducible exact ih1 _ _ _ _ _ _ _)
      | (with_reducible exact LeO.refl _)
      | (with_reducible exact LeO.none _)
      | (with_reducible refine LeO.ite ?_ ?_)
      | (with_reducible refine LeO.bind ?_ (fun _ => ?_))
      | exact ih0 _ _ _ _
      | exact ih1 _ _ _ _ _ _ _
      | exact LeO.none _
      | refine LeO.ite ?_ ?_
      | refine LeO.bind ?_ (fun _ => ?_)
theorem table_Good.mono : ∀ a0 k, LeO (table_Good.f k a0) (table_Good.f (k + 1) a0) := by
  intro a0 k
  obtain ⟨ih0, ih1⟩ := table_Good.mono_l k
  unfold table_Good.f
  repeat' first
      | (with_reducible exact ih0 _ _ _ _)
      | (with_reducible exact ih1 _ _ _ _ _ _ _)
      | (with_reducible exact LeO.refl _)
      | (with_reducible exact LeO.none _)
      | (with_reducible refine LeO.ite ?_ ?_)
      | (with_reducible refine LeO.bind ?_ (fun _ => ?_))
      | exact ih0 _ _ _ _
      | exact ih1 _ _ _ _ _ _ _
      | exact LeO.none _
      | refine LeO.ite ?_ ?_
      | refine LeO.bind ?_ (fun _ => ?_)
set_option maxHeartbeats 8000000 in
set_option maxRecDepth 100000 in
theorem table_Good.calls (k : Nat) (A0 : Option Addr) (c0 : Nat) (l0 : List (List (S30))) (r : Bool) (w : World) (hr0 : Kd.C (Kd.slice 30 k30) w A0 l0.length l0) (hc0 : l0.length ≤ c0) (h : table_Good.f k l0 = some r) :
    Calls Try.prog 26 #[.slice A0 l0.length c0] w fun e w' => e = .returned (.bool r) ∧ Below w.heap.size w w' := by
  have hu30 := Try.underlying30
  have HR0 := Aside0.mk hr0
  have HC0 := Aside0.mk hc0
  clear hr0 hc0
  have HB := Aside0.mk (Below.refl w.heap.size w)
  have H : (table_Good.l0 k l0 l0 (l0.length : Int) 0) = some r := h
  clear h
  have H' := Aside0.mk H
  clear H
  go_enter Try.func26, Try.ntmps26
  go_wp2
  go_loopg [9] k (fun kq v9 w' => ∃ (x9_1 : Int), v9 = .int .i64 x9_1 ∧ Aside0 (table_Good.l0 kq l0 l0 (l0.length : Int) x9_1 = some r) ∧ Aside0 (kq ≤ k) ∧ Aside0 (Below w.heap.size w w'))
  case atStart => exact ⟨(0), (by first | rfl | (simp; done) | (simp [*]; done)), H', ⟨Nat.le_refl _⟩, ⟨by repeat (first | (with_reducible first | exact HB.out | apply below_alloc | apply pw_below_drewN | apply below_drew1) | exact HB.out)⟩⟩
  case round =>
    clear H'
    obtain ⟨x9_1, rfl, HA, HK1, HB⟩ := hrel
    cases gk with
    | zero => exact absurd HA.out (by simp [table_Good.l0])
    | succ k1 =>
      have H := HA.out
      clear HA
      simp only [table_Good.l0] at H
      by_cases c2 : x9_1 < (l0.length : Int)
      · rw [if_pos c2] at H
        have c2b0 : decide (x9_1 < (l0.length : Int)) = true := decide_eq_true c2
        clear c2
        by_cases c3 : 0 ≤ x9_1
        · rw [if_pos c3] at H
          have c3b0 : decide (0 ≤ x9_1) = true := decide_eq_true c3
          clear c3
          by_cases c4 : x9_1 < (l0.length : Int)
          · rw [if_pos c4] at H
            have c4b0 : decide (x9_1 < (l0.length : Int)) = true := decide_eq_true c4
            clear c4
            by_cases c5 : 0 < (l0.length : Int)
            · rw [if_pos c5] at H
              have c5b0 : decide (0 < (l0.length : Int)) = true := decide_eq_true c5
              have c5b1 : decide (0 < l0.length) = true := decide_eq_true (by omega)
              clear c5
              by_cases c6 : ((rd_L2 l0 x9_1).length : Int) = ((rd_L2 l0 0).length : Int)
              · rw [if_pos c6] at H
                have c6b0 : (((rd_L2 l0 x9_1).length : Int) == ((rd_L2 l0 0).length : Int)) = true := beq_iff_eq.mpr c6
                have c6b1 : (((rd_L2 l0 x9_1).length : Int) != ((rd_L2 l0 0).length : Int)) = false := bne_eq_false_iff_eq.mpr c6
                have c6b2 : ((rd_L2 l0 x9_1).length == (rd_L2 l0 0).length) = true := by first | simpa using c6 | (simp at c6 ⊢; omega)
                clear c6
                have H' := Aside0.mk H
                clear H
                have p138 : 0 ≤ (x9_1 : Int) := of_decide_eq_true (by first | (with_reducible assumption) | assumption)
                have q138 : x9_1 < (l0.length : Int) := of_decide_eq_true (by first | (with_reducible assumption) | assumption)
                obtain ⟨ad138, A138_0, c138_0, e138, hx138_0, hl138_0, hi138_0⟩ := at_L2 HR0.out x9_1 p138 q138
                cases e138
                replace hx138_0 := (HB.out.cell (World.block_lt_of_cell? w _ hx138_0)).trans hx138_0
                have HR138_0 := Aside0.mk hi138_0
                have HC138_0 := Aside0.mk hl138_0
                clear hi138_0 hl138_0
                replace p138 := eq_true p138
                replace q138 := eq_true q138
                have p139 : 0 ≤ (0 : Int) := (by omega)
                have q139 : 0 < (l0.length : Int) := of_decide_eq_true (by first | (with_reducible assumption) | assumption)
                obtain ⟨ad139, A139_0, c139_0, e139, hx139_0, hl139_0, hi139_0⟩ := at_L2 HR0.out 0 p139 q139
                obtain rfl : ad138 = ad139 := (by injection e139)
                have qi139 : (0 < l0.length) = True := eq_true (by omega)
                (try rw [show ((0 : Int)).toNat = 0 from rfl] at hx139_0)
                (try rw [Addr.add_zero'] at hx139_0)
                replace hx139_0 := (HB.out.cell (World.block_lt_of_cell? w _ hx139_0)).trans hx139_0
                have HR139_0 := Aside0.mk hi139_0
                have HC139_0 := Aside0.mk hl139_0
                clear hi139_0 hl139_0
                replace p139 := eq_true p139
                replace q139 := eq_true q139
                go_wp2
                go_loopg [22] k1 (fun kq v22 w' => ∃ (x22_2 : Int), v22 = .int .i64 x22_2 ∧ Aside0 (table_Good.l1 kq l0 l0 (l0.length : Int) x9_1 (rd_L2 l0 x9_1) ((rd_L2 l0 x9_1).length : Int) x22_2 = some r) ∧ Aside0 (kq ≤ k1) ∧ Aside0 (Below w.heap.size w w'))
                case atStart => exact ⟨(0), (by first | rfl | (simp; done) | (simp [*]; done)), H', ⟨Nat.le_refl _⟩, ⟨by repeat (first | (with_reducible first | exact HB.out | apply below_alloc | apply pw_below_drewN | apply below_drew1) | exact HB.out)⟩⟩
                case round =>
                  clear H'
                  try clear c1
                  try clear p1
                  try clear q1
                  try clear hx1
                  try clear qi1
                  try clear c2
                  try clear c2b0
                  try clear p2
                  try clear c3
                  try clear c3b0
                  try clear c4
                  try clear c4b0
                  try clear c5
                  try clear c5b0
                  try clear c5b1
                  try clear c6
                  try clear c6b0
                  try clear c6b1
                  try clear c6b2
                  try clear hx138_0
                  try clear hx139_0
                  try clear p138
                  try clear p139
                  try clear q138
                  try clear q139
                  obtain ⟨x22_2, rfl, HA, HK2, HB⟩ := hrel
                  cases gk with
                  | zero => exact absurd HA.out (by simp [table_Good.l1])
                  | succ k2 =>
                    have H := HA.out
                    clear HA
                    simp only [table_Good.l1] at H
                    by_cases c7 : x22_2 < ((rd_L2 l0 x9_1).length : Int)
                    · rw [if_pos c7] at H
                      have c7b0 : decide (x22_2 < ((rd_L2 l0 x9_1).length : Int)) = true := decide_eq_true c7
                      clear c7
                      by_cases c8 : 0 ≤ x22_2
                      · rw [if_pos c8] at H
                        have c8b0 : decide (0 ≤ x22_2) = true := decide_eq_true c8
                        clear c8
                        by_cases c9 : x22_2 < ((rd_L2 l0 x9_1).length : Int)
                        · rw [if_pos c9] at H
                          have c9b0 : decide (x22_2 < ((rd_L2 l0 x9_1).length : Int)) = true := decide_eq_true c9
                          clear c9
                          by_cases c10 : ((rd_T30 (rd_L2 l0 x9_1) x22_2).f0) < 0
                          · rw [if_pos c10] at H
                            have c10b0 : decide (((rd_T30 (rd_L2 l0 x9_1) x22_2).f0) < 0) = true := decide_eq_true c10
                            clear c10
                            obtain rfl := Option.some.inj H
                            have p140 : 0 ≤ (x22_2 : Int) := of_decide_eq_true (by first | (with_reducible assumption) | assumption)
                            have q140 : x22_2 < ((rd_L2 l0 x9_1).length : Int) := of_decide_eq_true (by first | (with_reducible assumption) | assumption)
                            obtain ⟨ad140, e140, hx140_0, hx140_1⟩ := at_T30 HR138_0.out x22_2 p140 q140
                            cases e140
                            replace hx140_0 := (HB.out.cell (World.block_lt_of_cell? w _ hx140_0)).trans hx140_0
                            replace hx140_1 := (HB.out.cell (World.block_lt_of_cell? w _ hx140_1)).trans hx140_1
                            replace p140 := eq_true p140
                            replace q140 := eq_true q140
                            go_wp2_with (first | ((with_reducible refine gate_dst (N := 6) rfl ?_); (try (refine gate_guard (by rfl) ?_; dsimp only)); refine box_event ?hg (N := 6) ?hd (cs := #[.int .i64 0, .int .i64 0]) (t := 30) ?hr ?_; (case hd => rfl); (case hg => rfl); (case hr => first | (go_simp; done) | (go_simp; rfl)); intro gb141 hg w11 hbox hb; have n0_ := Aside0.mk (below_step (by repeat (first | (with_reducible first | exact HB.out | apply below_alloc | apply pw_below_drewN | apply below_drew1) | exact HB.out)) hb); have n1_ := Aside0.mk (hbox); have n2_ := Aside0.mk ((by rw [hg]; exact (below_size (by repeat (first | (with_reducible first | exact HB.out | apply below_alloc | apply pw_below_drewN | apply below_drew1) | exact HB.out))) : w.heap.size ≤ gb141)); have n3_ := Aside0.mk ((by rw [hg]; exact (below_size (by repeat (first | (with_reducible first | exact HB.out | apply below_alloc | apply pw_below_drewN | apply below_drew1) | exact HB.out))) : w.heap.size ≤ gb141)); clear HB; have HB := n0_; have BK141 := n1_; have GW141 := n2_; have GE141 := n3_; clear n0_ n1_ n2_ n3_; clear hb hbox hg; have hcz12_0 : w11.cell? ⟨gb141, 0, none⟩ = some (.int .i64 0) := (blk_cell BK141.out 0).trans rfl; have hcz12_1 : w11.cell? ⟨gb141, 1, none⟩ = some (.int .i64 0) := (blk_cell BK141.out 1).trans rfl; have hfz12_0 := blk_frozen BK141.out 0; have hfz12_1 := blk_frozen BK141.out 1))
                            go_ret
                            exact ⟨by first | rfl | (simp [errW_none, errW_some] <;> rfl) | (simp [*, errW_none, errW_some] <;> rfl), by repeat (first | (with_reducible first | exact HB.out | apply below_alloc | apply pw_below_drewN | apply below_drew1 | refine below_set ?_ GE141.out) | exact HB.out)⟩
                          · rw [if_neg c10] at H
                            have c10b0 : decide (((rd_T30 (rd_L2 l0 x9_1) x22_2).f0) < 0) = false := decide_eq_false c10
                            clear c10
                            by_cases c13 : ((rd_T30 (rd_L2 l0 x9_1) x22_2).f0) ≥ (l0.length : Int)
                            · rw [if_pos c13] at H
                              have c13b0 : decide ((l0.length : Int) ≤ ((rd_T30 (rd_L2 l0 x9_1) x22_2).f0)) = true := decide_eq_true c13
                              clear c13
                              obtain rfl := Option.some.inj H
                              have p140 : 0 ≤ (x22_2 : Int) := of_decide_eq_true (by first | (with_reducible assumption) | assumption)
                              have q140 : x22_2 < ((rd_L2 l0 x9_1).length : Int) := of_decide_eq_true (by first | (with_reducible assumption) | assumption)
                              obtain ⟨ad140, e140, hx140_0, hx140_1⟩ := at_T30 HR138_0.out x22_2 p140 q140
                              cases e140
                              replace hx140_0 := (HB.out.cell (World.block_lt_of_cell? w _ hx140_0)).trans hx140_0
                              replace hx140_1 := (HB.out.cell (World.block_lt_of_cell? w _ hx140_1)).trans hx140_1
                              replace p140 := eq_true p140
                              replace q140 := eq_true q140
                              go_wp2_with (first | ((with_reducible refine gate_dst (N := 6) rfl ?_); (try (refine gate_guard (by rfl) ?_; dsimp only)); refine box_event ?hg (N := 6) ?hd (cs := #[.int .i64 0, .int .i64 0]) (t := 30) ?hr ?_; (case hd => rfl); (case hg => rfl); (case hr => first | (go_simp; done) | (go_simp; rfl)); intro gb141 hg w14 hbox hb; have n0_ := Aside0.mk (below_step (by repeat (first | (with_reducible first | exact HB.out | apply below_alloc | apply pw_below_drewN | apply below_drew1) | exact HB.out)) hb); have n1_ := Aside0.mk (hbox); have n2_ := Aside0.mk ((by rw [hg]; exact (below_size (by repeat (first | (with_reducible first | exact HB.out | apply below_alloc | apply pw_below_drewN | apply below_drew1) | exact HB.out))) : w.heap.size ≤ gb141)); have n3_ := Aside0.mk ((by rw [hg]; exact (below_size (by repeat (first | (with_reducible first | exact HB.out | apply below_alloc | apply pw_below_drewN | apply below_drew1) | exact HB.out))) : w.heap.size ≤ gb141)); clear HB; have HB := n0_; have BK141 := n1_; have GW141 := n2_; have GE141 := n3_; clear n0_ n1_ n2_ n3_; clear hb hbox hg; have hcz15_0 : w14.cell? ⟨gb141, 0, none⟩ = some (.int .i64 0) := (blk_cell BK141.out 0).trans rfl; have hcz15_1 : w14.cell? ⟨gb141, 1, none⟩ = some (.int .i64 0) := (blk_cell BK141.out 1).trans rfl; have hfz15_0 := blk_frozen BK141.out 0; have hfz15_1 := blk_frozen BK141.out 1))
                              go_ret
                              exact ⟨by first | rfl | (simp [errW_none, errW_some] <;> rfl) | (simp [*, errW_none, errW_some] <;> rfl), by repeat (first | (with_reducible first | exact HB.out | apply below_alloc | apply pw_below_drewN | apply below_drew1 | refine below_set ?_ GE141.out) | exact HB.out)⟩
                            · rw [if_neg c13] at H
                              have c13b0 : decide ((l0.length : Int) ≤ ((rd_T30 (rd_L2 l0 x9_1) x22_2).f0)) = false := decide_eq_false c13
                              clear c13
                              have H' := Aside0.mk H
                              clear H
                              have p140 : 0 ≤ (x22_2 : Int) := of_decide_eq_true (by first | (with_reducible assumption) | assumption)
                              have q140 : x22_2 < ((rd_L2 l0 x9_1).length : Int) := of_decide_eq_true (by first | (with_reducible assumption) | assumption)
                              obtain ⟨ad140, e140, hx140_0, hx140_1⟩ := at_T30 HR138_0.out x22_2 p140 q140
                              cases e140
                              replace hx140_0 := (HB.out.cell (World.block_lt_of_cell? w _ hx140_0)).trans hx140_0
                              replace hx140_1 := (HB.out.cell (World.block_lt_of_cell? w _ hx140_1)).trans hx140_1
                              replace p140 := eq_true p140
                              replace q140 := eq_true q140
                              go_wp2_with (first | ((with_reducible refine gate_dst (N := 6) rfl ?_); (try (refine gate_guard (by rfl) ?_; dsimp only)); refine box_event ?hg (N := 6) ?hd (cs := #[.int .i64 0, .int .i64 0]) (t := 30) ?hr ?_; (case hd => rfl); (case hg => rfl); (case hr => first | (go_simp; done) | (go_simp; rfl)); intro gb141 hg w16 hbox hb; have n0_ := Aside0.mk (below_step (by repeat (first | (with_reducible first | exact HB.out | apply below_alloc | apply pw_below_drewN | apply below_drew1) | exact HB.out)) hb); have n1_ := Aside0.mk (hbox); have n2_ := Aside0.mk ((by rw [hg]; exact (below_size (by repeat (first | (with_reducible first | exact HB.out | apply below_alloc | apply pw_below_drewN | apply below_drew1) | exact HB.out))) : w.heap.size ≤ gb141)); have n3_ := Aside0.mk ((by rw [hg]; exact (below_size (by repeat (first | (with_reducible first | exact HB.out | apply below_alloc | apply pw_below_drewN | apply below_drew1) | exact HB.out))) : w.heap.size ≤ gb141)); clear HB; have HB := n0_; have BK141 := n1_; have GW141 := n2_; have GE141 := n3_; clear n0_ n1_ n2_ n3_; clear hb hbox hg; have hcz17_0 : w16.cell? ⟨gb141, 0, none⟩ = some (.int .i64 0) := (blk_cell BK141.out 0).trans rfl; have hcz17_1 : w16.cell? ⟨gb141, 1, none⟩ = some (.int .i64 0) := (blk_cell BK141.out 1).trans rfl; have hfz17_0 := blk_frozen BK141.out 0; have hfz17_1 := blk_frozen BK141.out 1))
                              go_roundg k2
                              case measure => have := HK1.out; have := HK2.out; omega
                              case rel => exact ⟨(wrap64 (x22_2 + 1)), (by first | rfl | (simp; done) | (simp [*]; done)), H', ⟨by have := HK1.out; have := HK2.out; omega⟩, ⟨by repeat (first | (with_reducible first | exact HB.out | apply below_alloc | apply pw_below_drewN | apply below_drew1 | refine below_set ?_ GE141.out) | exact HB.out)⟩⟩
                        · rw [if_neg c9] at H
                          exact absurd H (by simp)
                      · rw [if_neg c8] at H
                        exact absurd H (by simp)
                    · rw [if_neg c7] at H
                      have c7b0 : decide (x22_2 < ((rd_L2 l0 x9_1).length : Int)) = false := decide_eq_false c7
                      clear c7
                      have H' := Aside0.mk H
                      clear H
                      go_wp2
                      go_roundg k2
                      case measure => have := HK1.out; have := HK2.out; omega
                      case rel => exact ⟨(wrap64 (x9_1 + 1)), (by first | rfl | (simp; done) | (simp [*]; done)), H', ⟨by have := HK1.out; have := HK2.out; omega⟩, ⟨by repeat (first | (with_reducible first | exact HB.out | apply below_alloc | apply pw_below_drewN | apply below_drew1) | exact HB.out)⟩⟩
              · rw [if_neg c6] at H
                have c6b0 : (((rd_L2 l0 x9_1).length : Int) == ((rd_L2 l0 0).length : Int)) = false := beq_eq_false_iff_ne.mpr c6
                have c6b1 : (((rd_L2 l0 x9_1).length : Int) != ((rd_L2 l0 0).length : Int)) = true := bne_iff_ne.mpr c6
                have c6b2 : ((rd_L2 l0 x9_1).length == (rd_L2 l0 0).length) = false := by first | simpa using c6 | (simp at c6 ⊢; omega)
                obtain rfl := Option.some.inj H
                have p138 : 0 ≤ (x9_1 : Int) := of_decide_eq_true (by first | (with_reducible assumption) | assumption)
                have q138 : x9_1 < (l0.length : Int) := of_decide_eq_true (by first | (with_reducible assumption) | assumption)
                obtain ⟨ad138, A138_0, c138_0, e138, hx138_0, hl138_0, hi138_0⟩ := at_L2 HR0.out x9_1 p138 q138
                cases e138
                replace hx138_0 := (HB.out.cell (World.block_lt_of_cell? w _ hx138_0)).trans hx138_0
                have HR138_0 := Aside0.mk hi138_0
                have HC138_0 := Aside0.mk hl138_0
                clear hi138_0 hl138_0
                replace p138 := eq_true p138
                replace q138 := eq_true q138
                have p139 : 0 ≤ (0 : Int) := (by omega)
                have q139 : 0 < (l0.length : Int) := of_decide_eq_true (by first | (with_reducible assumption) | assumption)
                obtain ⟨ad139, A139_0, c139_0, e139, hx139_0, hl139_0, hi139_0⟩ := at_L2 HR0.out 0 p139 q139
                obtain rfl : ad138 = ad139 := (by injection e139)
                have qi139 : (0 < l0.length) = True := eq_true (by omega)
                (try rw [show ((0 : Int)).toNat = 0 from rfl] at hx139_0)
                (try rw [Addr.add_zero'] at hx139_0)
                replace hx139_0 := (HB.out.cell (World.block_lt_of_cell? w _ hx139_0)).trans hx139_0
                have HR139_0 := Aside0.mk hi139_0
                have HC139_0 := Aside0.mk hl139_0
                clear hi139_0 hl139_0
                replace p139 := eq_true p139
                replace q139 := eq_true q139
                go_wp2
                go_ret
                exact ⟨by first | rfl | (simp [errW_none, errW_some] <;> rfl) | (simp [*, errW_none, errW_some] <;> rfl), by repeat (first | (with_reducible first | exact HB.out | apply below_alloc | apply pw_below_drewN | apply below_drew1) | exact HB.out)⟩
            · rw [if_neg c5] at H
              exact absurd H (by simp)
          · rw [if_neg c4] at H
            exact absurd H (by simp)
        · rw [if_neg c3] at H
          exact absurd H (by simp)
      · rw [if_neg c2] at H
        have c2b0 : decide (x9_1 < (l0.length : Int)) = false := decide_eq_false c2
        clear c2
        obtain rfl := Option.some.inj H
        go_wp2
        go_ret
        exact ⟨by first | rfl | (simp [errW_none, errW_some] <;> rfl) | (simp [*, errW_none, errW_some] <;> rfl), by repeat (first | (with_reducible first | exact HB.out | apply below_alloc | apply pw_below_drewN | apply below_drew1) | exact HB.out)⟩
def table_Applicant.f  : Option ((List (List (S30)))) := some (([(([(⟨1, 0⟩ : S30), (⟨0, 0⟩ : S30), (⟨0, 0⟩ : S30), (⟨0, 0⟩ : S30), (⟨0, 0⟩ : S30), (⟨1, 0⟩ : S30)] : List (S30))), (([(⟨1, 0⟩ : S30), (⟨4, 0⟩ : S30), (⟨1, 0⟩ : S30), (⟨1, 0⟩ : S30), (⟨2, 1⟩ : S30), (⟨1, 0⟩ : S30)] : List (S30))), (([(⟨2, 0⟩ : S30), (⟨4, 0⟩ : S30), (⟨2, 0⟩ : S30), (⟨2, 0⟩ : S30), (⟨3, 2⟩ : S30), (⟨1, 0⟩ : S30)] : List (S30))), (([(⟨3, 0⟩ : S30), (⟨4, 0⟩ : S30), (⟨2, 0⟩ : S30), (⟨2, 0⟩ : S30), (⟨3, 0⟩ : S30), (⟨1, 0⟩ : S30)] : List (S30))), (([(⟨2, 0⟩ : S30), (⟨4, 0⟩ : S30), (⟨4, 0⟩ : S30), (⟨4, 0⟩ : S30), (⟨0, 3⟩ : S30), (⟨1, 0⟩ : S30)] : List (S30)))] : List (List (S30))))
set_option maxHeartbeats 8000000 in
set_option maxRecDepth 100000 in
theorem table_Applicant.calls  (r : List (List (S30))) (w : World) (h : table_Applicant.f  = some r) :
    Calls Try.prog 25 #[] w fun e w' => ∃ v0_ : Value, e = .returned (v0_) ∧ Kd.N (Kd.slice 30 k30) 27 w' w.heap.size (fun k_ => (w.heap.size ≤ k_)) v0_ r ∧ Below w.heap.size w w' := by
  have hu30 := Try.underlying30
  have HB := Aside0.mk (Below.refl w.heap.size w)
  have H : (some (([(([(⟨1, 0⟩ : S30), (⟨0, 0⟩ : S30), (⟨0, 0⟩ : S30), (⟨0, 0⟩ : S30), (⟨0, 0⟩ : S30), (⟨1, 0⟩ : S30)] : List (S30))), (([(⟨1, 0⟩ : S30), (⟨4, 0⟩ : S30), (⟨1, 0⟩ : S30), (⟨1, 0⟩ : S30), (⟨2, 1⟩ : S30), (⟨1, 0⟩ : S30)] : List (S30))), (([(⟨2, 0⟩ : S30), (⟨4, 0⟩ : S30), (⟨2, 0⟩ : S30), (⟨2, 0⟩ : S30), (⟨3, 2⟩ : S30), (⟨1, 0⟩ : S30)] : List (S30))), (([(⟨3, 0⟩ : S30), (⟨4, 0⟩ : S30), (⟨2, 0⟩ : S30), (⟨2, 0⟩ : S30), (⟨3, 0⟩ : S30), (⟨1, 0⟩ : S30)] : List (S30))), (([(⟨2, 0⟩ : S30), (⟨4, 0⟩ : S30), (⟨4, 0⟩ : S30), (⟨4, 0⟩ : S30), (⟨0, 3⟩ : S30), (⟨1, 0⟩ : S30)] : List (S30)))] : List (List (S30))))) = some r := h
  clear h
  obtain ⟨y142, hy142⟩ : ∃ y_ : List (S30), y_ = (([(⟨1, 0⟩ : S30), (⟨0, 0⟩ : S30), (⟨0, 0⟩ : S30), (⟨0, 0⟩ : S30), (⟨0, 0⟩ : S30), (⟨1, 0⟩ : S30)] : List (S30))) := ⟨_, rfl⟩
  replace H : (some (([y142, (([(⟨1, 0⟩ : S30), (⟨4, 0⟩ : S30), (⟨1, 0⟩ : S30), (⟨1, 0⟩ : S30), (⟨2, 1⟩ : S30), (⟨1, 0⟩ : S30)] : List (S30))), (([(⟨2, 0⟩ : S30), (⟨4, 0⟩ : S30), (⟨2, 0⟩ : S30), (⟨2, 0⟩ : S30), (⟨3, 2⟩ : S30), (⟨1, 0⟩ : S30)] : List (S30))), (([(⟨3, 0⟩ : S30), (⟨4, 0⟩ : S30), (⟨2, 0⟩ : S30), (⟨2, 0⟩ : S30), (⟨3, 0⟩ : S30), (⟨1, 0⟩ : S30)] : List (S30))), (([(⟨2, 0⟩ : S30), (⟨4, 0⟩ : S30), (⟨4, 0⟩ : S30), (⟨4, 0⟩ : S30), (⟨0, 3⟩ : S30), (⟨1, 0⟩ : S30)] : List (S30)))] : List (List (S30))))) = some r := by first | (rw [hy142]; with_reducible exact H) | (have H2_ := (Option.bind_some _ _).symm.trans H; rw [hy142]; with_reducible exact H2_) | (have H2_ := (Option.bind_some _ _).symm.trans H; with_reducible exact H2_) | with_reducible exact H | (rw [hy142]; exact H) | exact H
  have Ny142 := Aside0.mk hy142
  clear hy142
  obtain ⟨y145, hy145⟩ : ∃ y_ : List (S30), y_ = (([(⟨1, 0⟩ : S30), (⟨4, 0⟩ : S30), (⟨1, 0⟩ : S30), (⟨1, 0⟩ : S30), (⟨2, 1⟩ : S30), (⟨1, 0⟩ : S30)] : List (S30))) := ⟨_, rfl⟩
  replace H : (some (([y142, y145, (([(⟨2, 0⟩ : S30), (⟨4, 0⟩ : S30), (⟨2, 0⟩ : S30), (⟨2, 0⟩ : S30), (⟨3, 2⟩ : S30), (⟨1, 0⟩ : S30)] : List (S30))), (([(⟨3, 0⟩ : S30), (⟨4, 0⟩ : S30), (⟨2, 0⟩ : S30), (⟨2, 0⟩ : S30), (⟨3, 0⟩ : S30), (⟨1, 0⟩ : S30)] : List (S30))), (([(⟨2, 0⟩ : S30), (⟨4, 0⟩ : S30), (⟨4, 0⟩ : S30), (⟨4, 0⟩ : S30), (⟨0, 3⟩ : S30), (⟨1, 0⟩ : S30)] : List (S30)))] : List (List (S30))))) = some r := by first | (rw [hy145]; with_reducible exact H) | (have H2_ := (Option.bind_some _ _).symm.trans H; rw [hy145]; with_reducible exact H2_) | (have H2_ := (Option.bind_some _ _).symm.trans H; with_reducible exact H2_) | with_reducible exact H | (rw [hy145]; exact H) | exact H
  have Ny145 := Aside0.mk hy145
  clear hy145
  obtain ⟨y148, hy148⟩ : ∃ y_ : List (S30), y_ = (([(⟨2, 0⟩ : S30), (⟨4, 0⟩ : S30), (⟨2, 0⟩ : S30), (⟨2, 0⟩ : S30), (⟨3, 2⟩ : S30), (⟨1, 0⟩ : S30)] : List (S30))) := ⟨_, rfl⟩
  replace H : (some (([y142, y145, y148, (([(⟨3, 0⟩ : S30), (⟨4, 0⟩ : S30), (⟨2, 0⟩ : S30), (⟨2, 0⟩ : S30), (⟨3, 0⟩ : S30), (⟨1, 0⟩ : S30)] : List (S30))), (([(⟨2, 0⟩ : S30), (⟨4, 0⟩ : S30), (⟨4, 0⟩ : S30), (⟨4, 0⟩ : S30), (⟨0, 3⟩ : S30), (⟨1, 0⟩ : S30)] : List (S30)))] : List (List (S30))))) = some r := by first | (rw [hy148]; with_reducible exact H) | (have H2_ := (Option.bind_some _ _).symm.trans H; rw [hy148]; with_reducible exact H2_) | (have H2_ := (Option.bind_some _ _).symm.trans H; with_reducible exact H2_) | with_reducible exact H | (rw [hy148]; exact H) | exact H
  have Ny148 := Aside0.mk hy148
  clear hy148
  obtain ⟨y151, hy151⟩ : ∃ y_ : List (S30), y_ = (([(⟨3, 0⟩ : S30), (⟨4, 0⟩ : S30), (⟨2, 0⟩ : S30), (⟨2, 0⟩ : S30), (⟨3, 0⟩ : S30), (⟨1, 0⟩ : S30)] : List (S30))) := ⟨_, rfl⟩
  replace H : (some (([y142, y145, y148, y151, (([(⟨2, 0⟩ : S30), (⟨4, 0⟩ : S30), (⟨4, 0⟩ : S30), (⟨4, 0⟩ : S30), (⟨0, 3⟩ : S30), (⟨1, 0⟩ : S30)] : List (S30)))] : List (List (S30))))) = some r := by first | (rw [hy151]; with_reducible exact H) | (have H2_ := (Option.bind_some _ _).symm.trans H; rw [hy151]; with_reducible exact H2_) | (have H2_ := (Option.bind_some _ _).symm.trans H; with_reducible exact H2_) | with_reducible exact H | (rw [hy151]; exact H) | exact H
  have Ny151 := Aside0.mk hy151
  clear hy151
  obtain ⟨y154, hy154⟩ : ∃ y_ : List (S30), y_ = (([(⟨2, 0⟩ : S30), (⟨4, 0⟩ : S30), (⟨4, 0⟩ : S30), (⟨4, 0⟩ : S30), (⟨0, 3⟩ : S30), (⟨1, 0⟩ : S30)] : List (S30))) := ⟨_, rfl⟩
  replace H : (some (([y142, y145, y148, y151, y154] : List (List (S30))))) = some r := by first | (rw [hy154]; with_reducible exact H) | (have H2_ := (Option.bind_some _ _).symm.trans H; rw [hy154]; with_reducible exact H2_) | (have H2_ := (Option.bind_some _ _).symm.trans H; with_reducible exact H2_) | with_reducible exact H | (rw [hy154]; exact H) | exact H
  have Ny154 := Aside0.mk hy154
  clear hy154
  obtain ⟨y157, hy157⟩ : ∃ y_ : List (List (S30)), y_ = (([y142, y145, y148, y151, y154] : List (List (S30)))) := ⟨_, rfl⟩
  replace H : (some y157) = some r := by first | (rw [hy157]; with_reducible exact H) | (have H2_ := (Option.bind_some _ _).symm.trans H; rw [hy157]; with_reducible exact H2_) | (have H2_ := (Option.bind_some _ _).symm.trans H; with_reducible exact H2_) | with_reducible exact H | (rw [hy157]; exact H) | exact H
  have Ny157 := Aside0.mk hy157
  clear hy157
  obtain rfl := Option.some.inj H
  go_enter Try.func25, Try.ntmps25
  go_wp2_with (first | ((with_reducible refine gate_dst (N := 7) rfl ?_); refine Kd.R_lit k30 _ 30 ?hg (N := 7) ?hd (xs := ([(⟨1, 0⟩ : S30), (⟨0, 0⟩ : S30), (⟨0, 0⟩ : S30), (⟨0, 0⟩ : S30), (⟨0, 0⟩ : S30), (⟨1, 0⟩ : S30)] : List (S30))) (inner := [.int .i64 1, .int .i64 0, .int .i64 0, .int .i64 0, .int .i64 0, .int .i64 0, .int .i64 0, .int .i64 0, .int .i64 0, .int .i64 0, .int .i64 1, .int .i64 0]) (ok := fun _ => True) (okp := fun _ => True) ?hr ?hp (fun _ hk => hk) trivial (Below.refl _ _) (Nat.le_refl _) (by simp) ?_; (case hd => rfl); (case hg => rfl); (case hr => first | (go_simp; done) | (go_simp; rfl)); (case hp => exact (Reps.c2 (show Kd.M k30 _ _ _ (⟨1, 0⟩ : S30) [.int .i64 1, .int .i64 0] from (k30_mkM _ _ _ (⟨1, 0⟩ : S30) )) (Reps.c2 (show Kd.M k30 _ _ _ (⟨0, 0⟩ : S30) [.int .i64 0, .int .i64 0] from (k30_mkM _ _ _ (⟨0, 0⟩ : S30) )) (Reps.c2 (show Kd.M k30 _ _ _ (⟨0, 0⟩ : S30) [.int .i64 0, .int .i64 0] from (k30_mkM _ _ _ (⟨0, 0⟩ : S30) )) (Reps.c2 (show Kd.M k30 _ _ _ (⟨0, 0⟩ : S30) [.int .i64 0, .int .i64 0] from (k30_mkM _ _ _ (⟨0, 0⟩ : S30) )) (Reps.c2 (show Kd.M k30 _ _ _ (⟨0, 0⟩ : S30) [.int .i64 0, .int .i64 0] from (k30_mkM _ _ _ (⟨0, 0⟩ : S30) )) (Reps.c2 (show Kd.M k30 _ _ _ (⟨1, 0⟩ : S30) [.int .i64 1, .int .i64 0] from (k30_mkM _ _ _ (⟨1, 0⟩ : S30) )) (Reps.none _ _)))))))); intro v143 w1 ho2 hb hg_ hnew_; clear hg_ hnew_; (first | rw [← Ny142.out] at ho2 | (simp only [Int.reduceToNat] at ho2; rw [← Ny142.out] at ho2)); have n0_ := Aside0.mk (Kd.R_lower (Kd.R_newM (M := fun k_ => (w.heap.size ≤ k_)) ho2 (below_size (by repeat (first | (with_reducible first | exact HB.out | apply below_alloc | apply pw_below_drewN | apply below_drew1) | exact HB.out))) (fun k_ h_ => h_)) (below_size (by repeat (first | (with_reducible first | exact HB.out | apply below_alloc | apply pw_below_drewN | apply below_drew1) | exact HB.out)))); have n1_ := Aside0.mk (below_step (by repeat (first | (with_reducible first | exact HB.out | apply below_alloc | apply pw_below_drewN | apply below_drew1) | exact HB.out)) hb); clear HB; have HO144 := n0_; have HB := n1_; clear n0_ n1_; clear hb ho2) | ((with_reducible refine gate_dst (N := 14) rfl ?_); refine Kd.R_lit k30 _ 30 ?hg (N := 14) ?hd (xs := ([(⟨1, 0⟩ : S30), (⟨4, 0⟩ : S30), (⟨1, 0⟩ : S30), (⟨1, 0⟩ : S30), (⟨2, 1⟩ : S30), (⟨1, 0⟩ : S30)] : List (S30))) (inner := [.int .i64 1, .int .i64 0, .int .i64 4, .int .i64 0, .int .i64 1, .int .i64 0, .int .i64 1, .int .i64 0, .int .i64 2, .int .i64 1, .int .i64 1, .int .i64 0]) (ok := fun _ => True) (okp := fun _ => True) ?hr ?hp (fun _ hk => hk) trivial (Below.refl _ _) (Nat.le_refl _) (by simp) ?_; (case hd => rfl); (case hg => rfl); (case hr => first | (go_simp; done) | (go_simp; rfl)); (case hp => exact (Reps.c2 (show Kd.M k30 _ _ _ (⟨1, 0⟩ : S30) [.int .i64 1, .int .i64 0] from (k30_mkM _ _ _ (⟨1, 0⟩ : S30) )) (Reps.c2 (show Kd.M k30 _ _ _ (⟨4, 0⟩ : S30) [.int .i64 4, .int .i64 0] from (k30_mkM _ _ _ (⟨4, 0⟩ : S30) )) (Reps.c2 (show Kd.M k30 _ _ _ (⟨1, 0⟩ : S30) [.int .i64 1, .int .i64 0] from (k30_mkM _ _ _ (⟨1, 0⟩ : S30) )) (Reps.c2 (show Kd.M k30 _ _ _ (⟨1, 0⟩ : S30) [.int .i64 1, .int .i64 0] from (k30_mkM _ _ _ (⟨1, 0⟩ : S30) )) (Reps.c2 (show Kd.M k30 _ _ _ (⟨2, 1⟩ : S30) [.int .i64 2, .int .i64 1] from (k30_mkM _ _ _ (⟨2, 1⟩ : S30) )) (Reps.c2 (show Kd.M k30 _ _ _ (⟨1, 0⟩ : S30) [.int .i64 1, .int .i64 0] from (k30_mkM _ _ _ (⟨1, 0⟩ : S30) )) (Reps.none _ _)))))))); intro v146 w3 ho4 hb hg_ hnew_; clear hg_ hnew_; (first | rw [← Ny145.out] at ho4 | (simp only [Int.reduceToNat] at ho4; rw [← Ny145.out] at ho4)); have n0_ := Aside0.mk (Kd.R_elder' (by (with_reducible repeat (first | apply Kd.R_alloc | apply Kd.R_drewN | apply Kd.R_drew)); exact HO144.out) (Kd.R_base ho4) hb); have n1_ := Aside0.mk (Kd.R_lower (Kd.R_new' (Kd.R_newM (M := fun k_ => (w.heap.size ≤ k_)) ho4 (below_size (by repeat (first | (with_reducible first | exact HB.out | apply below_alloc | apply pw_below_drewN | apply below_drew1) | exact HB.out))) (fun k_ h_ => h_)) (Kd.R_lt (by (with_reducible repeat (first | apply Kd.R_alloc | apply Kd.R_drewN | apply Kd.R_drew)); exact HO144.out))) (below_size (by repeat (first | (with_reducible first | exact HB.out | apply below_alloc | apply pw_below_drewN | apply below_drew1) | exact HB.out)))); have n2_ := Aside0.mk (below_step (by repeat (first | (with_reducible first | exact HB.out | apply below_alloc | apply pw_below_drewN | apply below_drew1) | exact HB.out)) hb); clear HO144; clear HB; have HO144 := n0_; have HO147 := n1_; have HB := n2_; clear n0_ n1_ n2_; clear hb ho4) | ((with_reducible refine gate_dst (N := 21) rfl ?_); refine Kd.R_lit k30 _ 30 ?hg (N := 21) ?hd (xs := ([(⟨2, 0⟩ : S30), (⟨4, 0⟩ : S30), (⟨2, 0⟩ : S30), (⟨2, 0⟩ : S30), (⟨3, 2⟩ : S30), (⟨1, 0⟩ : S30)] : List (S30))) (inner := [.int .i64 2, .int .i64 0, .int .i64 4, .int .i64 0, .int .i64 2, .int .i64 0, .int .i64 2, .int .i64 0, .int .i64 3, .int .i64 2, .int .i64 1, .int .i64 0]) (ok := fun _ => True) (okp := fun _ => True) ?hr ?hp (fun _ hk => hk) trivial (Below.refl _ _) (Nat.le_refl _) (by simp) ?_; (case hd => rfl); (case hg => rfl); (case hr => first | (go_simp; done) | (go_simp; rfl)); (case hp => exact (Reps.c2 (show Kd.M k30 _ _ _ (⟨2, 0⟩ : S30) [.int .i64 2, .int .i64 0] from (k30_mkM _ _ _ (⟨2, 0⟩ : S30) )) (Reps.c2 (show Kd.M k30 _ _ _ (⟨4, 0⟩ : S30) [.int .i64 4, .int .i64 0] from (k30_mkM _ _ _ (⟨4, 0⟩ : S30) )) (Reps.c2 (show Kd.M k30 _ _ _ (⟨2, 0⟩ : S30) [.int .i64 2, .int .i64 0] from (k30_mkM _ _ _ (⟨2, 0⟩ : S30) )) (Reps.c2 (show Kd.M k30 _ _ _ (⟨2, 0⟩ : S30) [.int .i64 2, .int .i64 0] from (k30_mkM _ _ _ (⟨2, 0⟩ : S30) )) (Reps.c2 (show Kd.M k30 _ _ _ (⟨3, 2⟩ : S30) [.int .i64 3, .int .i64 2] from (k30_mkM _ _ _ (⟨3, 2⟩ : S30) )) (Reps.c2 (show Kd.M k30 _ _ _ (⟨1, 0⟩ : S30) [.int .i64 1, .int .i64 0] from (k30_mkM _ _ _ (⟨1, 0⟩ : S30) )) (Reps.none _ _)))))))); intro v149 w5 ho6 hb hg_ hnew_; clear hg_ hnew_; (first | rw [← Ny148.out] at ho6 | (simp only [Int.reduceToNat] at ho6; rw [← Ny148.out] at ho6)); have n0_ := Aside0.mk (Kd.R_elder' (by (with_reducible repeat (first | apply Kd.R_alloc | apply Kd.R_drewN | apply Kd.R_drew)); exact HO144.out) (Kd.R_base ho6) hb); have n1_ := Aside0.mk (Kd.R_elder' (by (with_reducible repeat (first | apply Kd.R_alloc | apply Kd.R_drewN | apply Kd.R_drew)); exact HO147.out) (Kd.R_base ho6) hb); have n2_ := Aside0.mk (Kd.R_lower (Kd.R_new' (Kd.R_new' (Kd.R_newM (M := fun k_ => (w.heap.size ≤ k_)) ho6 (below_size (by repeat (first | (with_reducible first | exact HB.out | apply below_alloc | apply pw_below_drewN | apply below_drew1) | exact HB.out))) (fun k_ h_ => h_)) (Kd.R_lt (by (with_reducible repeat (first | apply Kd.R_alloc | apply Kd.R_drewN | apply Kd.R_drew)); exact HO144.out))) (Kd.R_lt (by (with_reducible repeat (first | apply Kd.R_alloc | apply Kd.R_drewN | apply Kd.R_drew)); exact HO147.out))) (below_size (by repeat (first | (with_reducible first | exact HB.out | apply below_alloc | apply pw_below_drewN | apply below_drew1) | exact HB.out)))); have n3_ := Aside0.mk (below_step (by repeat (first | (with_reducible first | exact HB.out | apply below_alloc | apply pw_below_drewN | apply below_drew1) | exact HB.out)) hb); clear HO144; clear HO147; clear HB; have HO144 := n0_; have HO147 := n1_; have HO150 := n2_; have HB := n3_; clear n0_ n1_ n2_ n3_; clear hb ho6) | ((with_reducible refine gate_dst (N := 28) rfl ?_); refine Kd.R_lit k30 _ 30 ?hg (N := 28) ?hd (xs := ([(⟨3, 0⟩ : S30), (⟨4, 0⟩ : S30), (⟨2, 0⟩ : S30), (⟨2, 0⟩ : S30), (⟨3, 0⟩ : S30), (⟨1, 0⟩ : S30)] : List (S30))) (inner := [.int .i64 3, .int .i64 0, .int .i64 4, .int .i64 0, .int .i64 2, .int .i64 0, .int .i64 2, .int .i64 0, .int .i64 3, .int .i64 0, .int .i64 1, .int .i64 0]) (ok := fun _ => True) (okp := fun _ => True) ?hr ?hp (fun _ hk => hk) trivial (Below.refl _ _) (Nat.le_refl _) (by simp) ?_; (case hd => rfl); (case hg => rfl); (case hr => first | (go_simp; done) | (go_simp; rfl)); (case hp => exact (Reps.c2 (show Kd.M k30 _ _ _ (⟨3, 0⟩ : S30) [.int .i64 3, .int .i64 0] from (k30_mkM _ _ _ (⟨3, 0⟩ : S30) )) (Reps.c2 (show Kd.M k30 _ _ _ (⟨4, 0⟩ : S30) [.int .i64 4, .int .i64 0] from (k30_mkM _ _ _ (⟨4, 0⟩ : S30) )) (Reps.c2 (show Kd.M k30 _ _ _ (⟨2, 0⟩ : S30) [.int .i64 2, .int .i64 0] from (k30_mkM _ _ _ (⟨2, 0⟩ : S30) )) (Reps.c2 (show Kd.M k30 _ _ _ (⟨2, 0⟩ : S30) [.int .i64 2, .int .i64 0] from (k30_mkM _ _ _ (⟨2, 0⟩ : S30) )) (Reps.c2 (show Kd.M k30 _ _ _ (⟨3, 0⟩ : S30) [.int .i64 3, .int .i64 0] from (k30_mkM _ _ _ (⟨3, 0⟩ : S30) )) (Reps.c2 (show Kd.M k30 _ _ _ (⟨1, 0⟩ : S30) [.int .i64 1, .int .i64 0] from (k30_mkM _ _ _ (⟨1, 0⟩ : S30) )) (Reps.none _ _)))))))); intro v152 w7 ho8 hb hg_ hnew_; clear hg_ hnew_; (first | rw [← Ny151.out] at ho8 | (simp only [Int.reduceToNat] at ho8; rw [← Ny151.out] at ho8)); have n0_ := Aside0.mk (Kd.R_elder' (by (with_reducible repeat (first | apply Kd.R_alloc | apply Kd.R_drewN | apply Kd.R_drew)); exact HO144.out) (Kd.R_base ho8) hb); have n1_ := Aside0.mk (Kd.R_elder' (by (with_reducible repeat (first | apply Kd.R_alloc | apply Kd.R_drewN | apply Kd.R_drew)); exact HO147.out) (Kd.R_base ho8) hb); have n2_ := Aside0.mk (Kd.R_elder' (by (with_reducible repeat (first | apply Kd.R_alloc | apply Kd.R_drewN | apply Kd.R_drew)); exact HO150.out) (Kd.R_base ho8) hb); have n3_ := Aside0.mk (Kd.R_lower (Kd.R_new' (Kd.R_new' (Kd.R_new' (Kd.R_newM (M := fun k_ => (w.heap.size ≤ k_)) ho8 (below_size (by repeat (first | (with_reducible first | exact HB.out | apply below_alloc | apply pw_below_drewN | apply below_drew1) | exact HB.out))) (fun k_ h_ => h_)) (Kd.R_lt (by (with_reducible repeat (first | apply Kd.R_alloc | apply Kd.R_drewN | apply Kd.R_drew)); exact HO144.out))) (Kd.R_lt (by (with_reducible repeat (first | apply Kd.R_alloc | apply Kd.R_drewN | apply Kd.R_drew)); exact HO147.out))) (Kd.R_lt (by (with_reducible repeat (first | apply Kd.R_alloc | apply Kd.R_drewN | apply Kd.R_drew)); exact HO150.out))) (below_size (by repeat (first | (with_reducible first | exact HB.out | apply below_alloc | apply pw_below_drewN | apply below_drew1) | exact HB.out)))); have n4_ := Aside0.mk (below_step (by repeat (first | (with_reducible first | exact HB.out | apply below_alloc | apply pw_below_drewN | apply below_drew1) | exact HB.out)) hb); clear HO144; clear HO147; clear HO150; clear HB; have HO144 := n0_; have HO147 := n1_; have HO150 := n2_; have HO153 := n3_; have HB := n4_; clear n0_ n1_ n2_ n3_ n4_; clear hb ho8) | ((with_reducible refine gate_dst (N := 35) rfl ?_); refine Kd.R_lit k30 _ 30 ?hg (N := 35) ?hd (xs := ([(⟨2, 0⟩ : S30), (⟨4, 0⟩ : S30), (⟨4, 0⟩ : S30), (⟨4, 0⟩ : S30), (⟨0, 3⟩ : S30), (⟨1, 0⟩ : S30)] : List (S30))) (inner := [.int .i64 2, .int .i64 0, .int .i64 4, .int .i64 0, .int .i64 4, .int .i64 0, .int .i64 4, .int .i64 0, .int .i64 0, .int .i64 3, .int .i64 1, .int .i64 0]) (ok := fun _ => True) (okp := fun _ => True) ?hr ?hp (fun _ hk => hk) trivial (Below.refl _ _) (Nat.le_refl _) (by simp) ?_; (case hd => rfl); (case hg => rfl); (case hr => first | (go_simp; done) | (go_simp; rfl)); (case hp => exact (Reps.c2 (show Kd.M k30 _ _ _ (⟨2, 0⟩ : S30) [.int .i64 2, .int .i64 0] from (k30_mkM _ _ _ (⟨2, 0⟩ : S30) )) (Reps.c2 (show Kd.M k30 _ _ _ (⟨4, 0⟩ : S30) [.int .i64 4, .int .i64 0] from (k30_mkM _ _ _ (⟨4, 0⟩ : S30) )) (Reps.c2 (show Kd.M k30 _ _ _ (⟨4, 0⟩ : S30) [.int .i64 4, .int .i64 0] from (k30_mkM _ _ _ (⟨4, 0⟩ : S30) )) (Reps.c2 (show Kd.M k30 _ _ _ (⟨4, 0⟩ : S30) [.int .i64 4, .int .i64 0] from (k30_mkM _ _ _ (⟨4, 0⟩ : S30) )) (Reps.c2 (show Kd.M k30 _ _ _ (⟨0, 3⟩ : S30) [.int .i64 0, .int .i64 3] from (k30_mkM _ _ _ (⟨0, 3⟩ : S30) )) (Reps.c2 (show Kd.M k30 _ _ _ (⟨1, 0⟩ : S30) [.int .i64 1, .int .i64 0] from (k30_mkM _ _ _ (⟨1, 0⟩ : S30) )) (Reps.none _ _)))))))); intro v155 w9 ho10 hb hg_ hnew_; clear hg_ hnew_; (first | rw [← Ny154.out] at ho10 | (simp only [Int.reduceToNat] at ho10; rw [← Ny154.out] at ho10)); have n0_ := Aside0.mk (Kd.R_elder' (by (with_reducible repeat (first | apply Kd.R_alloc | apply Kd.R_drewN | apply Kd.R_drew)); exact HO144.out) (Kd.R_base ho10) hb); have n1_ := Aside0.mk (Kd.R_elder' (by (with_reducible repeat (first | apply Kd.R_alloc | apply Kd.R_drewN | apply Kd.R_drew)); exact HO147.out) (Kd.R_base ho10) hb); have n2_ := Aside0.mk (Kd.R_elder' (by (with_reducible repeat (first | apply Kd.R_alloc | apply Kd.R_drewN | apply Kd.R_drew)); exact HO150.out) (Kd.R_base ho10) hb); have n3_ := Aside0.mk (Kd.R_elder' (by (with_reducible repeat (first | apply Kd.R_alloc | apply Kd.R_drewN | apply Kd.R_drew)); exact HO153.out) (Kd.R_base ho10) hb); have n4_ := Aside0.mk (Kd.R_lower (Kd.R_new' (Kd.R_new' (Kd.R_new' (Kd.R_new' (Kd.R_newM (M := fun k_ => (w.heap.size ≤ k_)) ho10 (below_size (by repeat (first | (with_reducible first | exact HB.out | apply below_alloc | apply pw_below_drewN | apply below_drew1) | exact HB.out))) (fun k_ h_ => h_)) (Kd.R_lt (by (with_reducible repeat (first | apply Kd.R_alloc | apply Kd.R_drewN | apply Kd.R_drew)); exact HO144.out))) (Kd.R_lt (by (with_reducible repeat (first | apply Kd.R_alloc | apply Kd.R_drewN | apply Kd.R_drew)); exact HO147.out))) (Kd.R_lt (by (with_reducible repeat (first | apply Kd.R_alloc | apply Kd.R_drewN | apply Kd.R_drew)); exact HO150.out))) (Kd.R_lt (by (with_reducible repeat (first | apply Kd.R_alloc | apply Kd.R_drewN | apply Kd.R_drew)); exact HO153.out))) (below_size (by repeat (first | (with_reducible first | exact HB.out | apply below_alloc | apply pw_below_drewN | apply below_drew1) | exact HB.out)))); have n5_ := Aside0.mk (below_step (by repeat (first | (with_reducible first | exact HB.out | apply below_alloc | apply pw_below_drewN | apply below_drew1) | exact HB.out)) hb); clear HO144; clear HO147; clear HO150; clear HO153; clear HB; have HO144 := n0_; have HO147 := n1_; have HO150 := n2_; have HO153 := n3_; have HO156 := n4_; have HB := n5_; clear n0_ n1_ n2_ n3_ n4_ n5_; clear hb ho10; obtain ⟨Ao11, co11, eo11⟩ := Kd.R_slice HO144.out; subst eo11; obtain ⟨Ao12, co12, eo12⟩ := Kd.R_slice HO147.out; subst eo12; obtain ⟨Ao13, co13, eo13⟩ := Kd.R_slice HO150.out; subst eo13; obtain ⟨Ao14, co14, eo14⟩ := Kd.R_slice HO153.out; subst eo14; obtain ⟨Ao15, co15, eo15⟩ := Kd.R_slice HO156.out; subst eo15) | ((with_reducible refine gate_dst (N := 36) rfl ?_); refine Kd.N_lit (Kd.slice 30 k30) _ 27 ?hg (N' := 36) ?hd (xs := ([y142, y145, y148, y151, y154] : List (List (S30)))) (inner := [.slice Ao11 y142.length co11, .slice Ao12 y145.length co12, .slice Ao13 y148.length co13, .slice Ao14 y151.length co14, .slice Ao15 y154.length co15]) (ok := (fun k_ => (w.heap.size ≤ k_))) (okp := (fun k_ => (w.heap.size ≤ k_))) ?hr ?hp (fun _ hk => hk) ((show ∀ k_, w9.heap.size ≤ k_ → (fun k_ => (w.heap.size ≤ k_)) k_ from fun k_ hk => (Nat.le_trans (below_size (by repeat (first | (with_reducible first | exact HB.out | apply below_alloc | apply pw_below_drewN | apply below_drew1) | exact HB.out))) hk)) _ (Nat.le_refl _)) (Below.refl _ _) (Nat.le_refl _) (by simp) ?_; (case hd => rfl); (case hg => rfl); (case hr => first | (go_simp; done) | (go_simp; rfl)); (case hp => exact (Reps.one (show Kd.FK (Kd.slice 30 k30) _ _ y142 [.slice Ao11 y142.length co11] from (Kd.FK_slice_mk (Kd.R_reads' (Kd.R_mono (ok' := (fun k_ => (w.heap.size ≤ k_))) (HO144.out) (fun k_ hk => hk.1.1.1.1.1))).2.1 (Kd.R_F (Kd.R_mono (ok' := (fun k_ => (w.heap.size ≤ k_))) (HO144.out) (fun k_ hk => hk.1.1.1.1.1))))) (Reps.one (show Kd.FK (Kd.slice 30 k30) _ _ y145 [.slice Ao12 y145.length co12] from (Kd.FK_slice_mk (Kd.R_reads' (Kd.R_mono (ok' := (fun k_ => (w.heap.size ≤ k_))) (HO147.out) (fun k_ hk => hk.1.1.1.1.1))).2.1 (Kd.R_F (Kd.R_mono (ok' := (fun k_ => (w.heap.size ≤ k_))) (HO147.out) (fun k_ hk => hk.1.1.1.1.1))))) (Reps.one (show Kd.FK (Kd.slice 30 k30) _ _ y148 [.slice Ao13 y148.length co13] from (Kd.FK_slice_mk (Kd.R_reads' (Kd.R_mono (ok' := (fun k_ => (w.heap.size ≤ k_))) (HO150.out) (fun k_ hk => hk.1.1.1.1.1))).2.1 (Kd.R_F (Kd.R_mono (ok' := (fun k_ => (w.heap.size ≤ k_))) (HO150.out) (fun k_ hk => hk.1.1.1.1.1))))) (Reps.one (show Kd.FK (Kd.slice 30 k30) _ _ y151 [.slice Ao14 y151.length co14] from (Kd.FK_slice_mk (Kd.R_reads' (Kd.R_mono (ok' := (fun k_ => (w.heap.size ≤ k_))) (HO153.out) (fun k_ hk => hk.1.1.1.1.1))).2.1 (Kd.R_F (Kd.R_mono (ok' := (fun k_ => (w.heap.size ≤ k_))) (HO153.out) (fun k_ hk => hk.1.1.1.1.1))))) (Reps.one (show Kd.FK (Kd.slice 30 k30) _ _ y154 [.slice Ao15 y154.length co15] from (Kd.FK_slice_mk (Kd.R_reads' (Kd.R_mono (ok' := (fun k_ => (w.heap.size ≤ k_))) (HO156.out) (fun k_ hk => hk.1.1.1.1.1))).2.1 (Kd.R_F (Kd.R_mono (ok' := (fun k_ => (w.heap.size ≤ k_))) (HO156.out) (fun k_ hk => hk.1.1.1.1.1))))) (Reps.none _ _))))))); intro v158 w16 ho17 hb hg_ hnew_; clear hg_ hnew_; (first | rw [← Ny157.out] at ho17 | (simp only [Int.reduceToNat] at ho17; rw [← Ny157.out] at ho17)); have n0_ := Aside0.mk (Kd.N_lower ho17 (below_size (by repeat (first | (with_reducible first | exact HB.out | apply below_alloc | apply pw_below_drewN | apply below_drew1) | exact HB.out)))); have n1_ := Aside0.mk (below_step (by repeat (first | (with_reducible first | exact HB.out | apply below_alloc | apply pw_below_drewN | apply below_drew1) | exact HB.out)) hb); clear HB; clear HO144; clear HO147; clear HO150; clear HO153; clear HO156; have HO159 := n0_; have HB := n1_; clear n0_ n1_; clear hb ho17))
  go_ret
  exact ⟨_, by first | rfl | (simp [errW_none, errW_some] <;> rfl) | (simp [*, errW_none, errW_some] <;> rfl), by (with_reducible repeat (first | apply Kd.N_alloc | apply Kd.N_drewN | apply Kd.N_drew)); exact HO159.out, by repeat (first | (with_reducible first | exact HB.out | apply below_alloc | apply pw_below_drewN | apply below_drew1) | exact HB.out)⟩
def kissgatelaw13_one.f (a0 : Bool) : Option ((List (List (S30)))) := if a0 = true then ((table_Applicant.f).bind fun t160 => (some t160)) else ((table_Registrar.f).bind fun t163 => (some t163))
set_option maxHeartbeats 8000000 in
set_option maxRecDepth 100000 in
theorem kissgatelaw13_one.calls (a0 : Bool) (r : List (List (S30))) (w : World) (h : kissgatelaw13_one.f a0 = some r) :
    Calls Try.prog 27 #[.bool a0] w fun e w' => ∃ v0_ : Value, e = .returned (v0_) ∧ Kd.N (Kd.slice 30 k30) 27 w' w.heap.size (fun k_ => (w.heap.size ≤ k_)) v0_ r ∧ Below w.heap.size w w' := by
  have HB := Aside0.mk (Below.refl w.heap.size w)
  have H : (if a0 = true then ((table_Applicant.f).bind fun t160 => (some t160)) else ((table_Registrar.f).bind fun t163 => (some t163))) = some r := h
  clear h
  by_cases c2 : a0 = true
  · subst c2
    have H1 : ((table_Applicant.f).bind fun t160 => (some t160)) = some r := by rw [if_pos rfl] at H; exact H
    clear H
    have H := H1
    clear H1
    replace H := Option.bind_eq_some_iff.mp H
    obtain ⟨t160, A30, H⟩ := H
    replace H : (some t160) = some r := H
    have A3 := Aside0.mk A30
    clear A30
    obtain rfl := Option.some.inj H
    go_enter Try.func27, Try.ntmps27
    go_wp2_with (first | ((with_reducible refine gate_callee (f := 25) rfl ?_); refine goesL_ (some 4) rfl rfl Try.func25 (by kernel_rfl) rfl #[] rfl (by (try simp only [List.map_toArray, List.map_cons, List.map_nil]); first | done | rfl | (simp only [List.length_drop, List.length_take]; rfl)) ?_; (with_reducible refine (table_Applicant.calls  t160 _ A3.out).mono ?_); rintro e w4 ⟨v161, rfl, ho0, hb⟩; refine ⟨_, rfl, ?_⟩; have n0_ := Aside0.mk (Kd.N_lower (Kd.N_mono (ok' := fun k_ => (w.heap.size ≤ k_)) ho0 (fun k_ hk_ => (Nat.le_trans (below_size (by repeat (first | (with_reducible first | exact HB.out | apply below_alloc | apply pw_below_drewN | apply below_drew1) | exact HB.out))) hk_))) (below_size (by repeat (first | (with_reducible first | exact HB.out | apply below_alloc | apply pw_below_drewN | apply below_drew1) | exact HB.out)))); have n1_ := Aside0.mk (below_step (by repeat (first | (with_reducible first | exact HB.out | apply below_alloc | apply pw_below_drewN | apply below_drew1) | exact HB.out)) hb); clear HB; have HO162 := n0_; have HB := n1_; clear n0_ n1_; (try clear hb); (try clear hb2); (try clear hk); (try clear hi); (try clear ho0)))
    go_ret
    exact ⟨_, by first | rfl | (simp [errW_none, errW_some] <;> rfl) | (simp [*, errW_none, errW_some] <;> rfl), by (with_reducible repeat (first | apply Kd.N_alloc | apply Kd.N_drewN | apply Kd.N_drew)); exact HO162.out, by repeat (first | (with_reducible first | exact HB.out | apply below_alloc | apply pw_below_drewN | apply below_drew1) | exact HB.out)⟩
  · replace c2 := Bool.eq_false_iff.mpr c2
    subst c2
    have H1 : ((table_Registrar.f).bind fun t163 => (some t163)) = some r := by rw [if_neg (show ¬ (false = true) by decide)] at H; exact H
    clear H
    have H := H1
    clear H1
    replace H := Option.bind_eq_some_iff.mp H
    obtain ⟨t163, A50, H⟩ := H
    replace H : (some t163) = some r := H
    have A5 := Aside0.mk A50
    clear A50
    obtain rfl := Option.some.inj H
    go_enter Try.func27, Try.ntmps27
    go_wp2_with (first | ((with_reducible refine gate_callee (f := 18) rfl ?_); refine goesL_ (some 5) rfl rfl Try.func18 (by kernel_rfl) rfl #[] rfl (by (try simp only [List.map_toArray, List.map_cons, List.map_nil]); first | done | rfl | (simp only [List.length_drop, List.length_take]; rfl)) ?_; (with_reducible refine (table_Registrar.calls  t163 _ A5.out).mono ?_); rintro e w6 ⟨v164, rfl, ho0, hb⟩; refine ⟨_, rfl, ?_⟩; have n0_ := Aside0.mk (Kd.N_lower (Kd.N_mono (ok' := fun k_ => (w.heap.size ≤ k_)) ho0 (fun k_ hk_ => (Nat.le_trans (below_size (by repeat (first | (with_reducible first | exact HB.out | apply below_alloc | apply pw_below_drewN | apply below_drew1) | exact HB.out))) hk_))) (below_size (by repeat (first | (with_reducible first | exact HB.out | apply below_alloc | apply pw_below_drewN | apply below_drew1) | exact HB.out)))); have n1_ := Aside0.mk (below_step (by repeat (first | (with_reducible first | exact HB.out | apply below_alloc | apply pw_below_drewN | apply below_drew1) | exact HB.out)) hb); clear HB; have HO165 := n0_; have HB := n1_; clear n0_ n1_; (try clear hb); (try clear hb2); (try clear hk); (try clear hi); (try clear ho0)))
    go_ret
    exact ⟨_, by first | rfl | (simp [errW_none, errW_some] <;> rfl) | (simp [*, errW_none, errW_some] <;> rfl), by (with_reducible repeat (first | apply Kd.N_alloc | apply Kd.N_drewN | apply Kd.N_drew)); exact HO165.out, by repeat (first | (with_reducible first | exact HB.out | apply below_alloc | apply pw_below_drewN | apply below_drew1) | exact HB.out)⟩
def kissgateref13_States.f (a0 : Bool) : Option (Int) := if a0 = true then (some 5) else (some 3)
set_option maxHeartbeats 8000000 in
set_option maxRecDepth 100000 in
theorem kissgateref13_States.calls (a0 : Bool) (r : Int) (w : World) (h : kissgateref13_States.f a0 = some r) :
    Calls Try.prog 28 #[.bool a0] w fun e w' => e = .returned (.int .i64 r) ∧ Drawn0 w w' := by
  have H : (if a0 = true then (some 5) else (some 3)) = some r := h
  clear h
  by_cases c2 : a0 = true
  · subst c2
    have H1 : (some 5) = some r := by rw [if_pos rfl] at H; exact H
    clear H
    have H := H1
    clear H1
    obtain rfl := Option.some.inj H
    go_enter Try.func28, Try.ntmps28
    go_wp2
    go_ret
    exact ⟨by first | rfl | (simp; done) | (simp [*]; done), by repeat (first | exact Drawn0.refl _ | apply Drawn0.step)⟩
  · replace c2 := Bool.eq_false_iff.mpr c2
    subst c2
    have H1 : (some 3) = some r := by rw [if_neg (show ¬ (false = true) by decide)] at H; exact H
    clear H
    have H := H1
    clear H1
    obtain rfl := Option.some.inj H
    go_enter Try.func28, Try.ntmps28
    go_wp2
    go_ret
    exact ⟨by first | rfl | (simp; done) | (simp [*]; done), by repeat (first | exact Drawn0.refl _ | apply Drawn0.step)⟩
def kissgateref13_Events.f (a0 : Bool) : Option (Int) := if a0 = true then (some 6) else (some 5)
set_option maxHeartbeats 8000000 in
set_option maxRecDepth 100000 in
theorem kissgateref13_Events.calls (a0 : Bool) (r : Int) (w : World) (h : kissgateref13_Events.f a0 = some r) :
    Calls Try.prog 29 #[.bool a0] w fun e w' => e = .returned (.int .i64 r) ∧ Drawn0 w w' := by
  have H : (if a0 = true then (some 6) else (some 5)) = some r := h
  clear h
  by_cases c2 : a0 = true
  · subst c2
    have H1 : (some 6) = some r := by rw [if_pos rfl] at H; exact H
    clear H
    have H := H1
    clear H1
    obtain rfl := Option.some.inj H
    go_enter Try.func29, Try.ntmps29
    go_wp2
    go_ret
    exact ⟨by first | rfl | (simp; done) | (simp [*]; done), by repeat (first | exact Drawn0.refl _ | apply Drawn0.step)⟩
  · replace c2 := Bool.eq_false_iff.mpr c2
    subst c2
    have H1 : (some 5) = some r := by rw [if_neg (show ¬ (false = true) by decide)] at H; exact H
    clear H
    have H := H1
    clear H1
    obtain rfl := Option.some.inj H
    go_enter Try.func29, Try.ntmps29
    go_wp2
    go_ret
    exact ⟨by first | rfl | (simp; done) | (simp [*]; done), by repeat (first | exact Drawn0.refl _ | apply Drawn0.step)⟩
end Go.Proofs.Ytbcngajkokjfjaa.QTabI
