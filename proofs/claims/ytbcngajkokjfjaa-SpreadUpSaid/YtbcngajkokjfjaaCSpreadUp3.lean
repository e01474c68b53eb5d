/- Functions of the program as plain Lean functions, what their calls do, and what follows of it. Conditions: each theorem's own. -/
import Derived.Test.YtbcngajkokjfjaaCSpreadUp2
import Derived.Test.YtbcngajkokjfjaaProg
import Derived.Test.YtbcngajkokjfjaaRows
namespace Go.Proofs.Ytbcngajkokjfjaa.spreadUp
open Go.ChangeShapes Go.WideShapes Go.ChangeAt
open Go.RowKit Go.Proofs.YtbcngajkokjfjaaW.PrintWords Go.Proofs.YtbcngajkokjfjaaW.PrintLast Go.Proofs.YtbcngajkokjfjaaW.PrintMore Go.Proofs.Ytbcngajkokjfjaa.QSps
open Go.ChangeMaps (open_string shut_string)
set_option linter.unusedVariables false
set_option linter.unusedSimpArgs false
theorem own : ownKnob Try.prog.godebug = none := by kernel_rfl
theorem laidOut : laidOutB Try.prog = true := by kernel_rfl
theorem opens38 : Opn.Opens Try.prog 38 k38 G38 :=
  Opn.opens_imp (Opn.opens_iso (fun x : S38 => (x.f0, x.f1)) (fun p => (⟨p.1, p.2⟩ : S38)) (fun _ => rfl) (Opn.opens_struct Try.underlying38 (by kernel_rfl) (Opn.opensFs_cons rfl (by kernel_rfl) (Opn.opens_int Try.underlying3) (Opn.opensFs_one rfl (by kernel_rfl) (Opn.opens_int Try.underlying3))))) (fun _ h => h)
theorem opens49 : Opn.Opens Try.prog 49 k49 G49 :=
  Opn.opens_imp (Opn.opens_iso (fun x : S49 => (x.f0, x.f1, x.f2)) (fun p => (⟨p.1, p.2.1, p.2.2⟩ : S49)) (fun _ => rfl) (Opn.opens_struct Try.underlying49 (by kernel_rfl) (Opn.opensFs_cons rfl (by kernel_rfl) (Opn.opens_bool Try.underlying4) (Opn.opensFs_cons rfl (by kernel_rfl) (Opn.opens_slice Try.underlying45 (by kernel_rfl) (B := 16) (by kernel_rfl) opens38) (Opn.opensFs_one rfl (by kernel_rfl) (Opn.opens_slice Try.underlying24 (by kernel_rfl) (B := 8) (by kernel_rfl) (Opn.opens_int Try.underlying3))))))) (fun _ h => h)
set_option maxRecDepth 100000 in
theorem lifted (os : Os) (started : os.Started) (H : Type) (enc : TypeId × Value → H) (PP : Pure) :
    ReturnsInHanded {} Try.checked os 8 .any (Rows.spreadUpSpec.pre6 enc Try.prog Try.f8 Rows.spreadUpRow.domain false) (Rows.spreadUpSpec.post enc Try.prog Try.f8 false true false false) := by
  refine returnsInHanded_of_change_sized (C := Try.checked) own started (by kernel_rfl) Try.func8
    (ChangeSpec.witness6 (enc := enc) (C := Try.checked) false ⟨#[], #[.slice none 0 0, .agg #[.int .i64 0, .int .i64 0], .int .i64 0, .int .i64 0, .int .i64 0], []⟩ 8 (by kernel_rfl) (by kernel_rfl) (by kernel_rfl) (by kernel_rfl)) ?_
  intro W base args ds gs before hval0 hW hcnd hsz0 _
  have hsz : (DataW.weightsEach Try.prog (Try.f8.params.toList ++ Rows.spreadUpSpec.plain.varTypes Try.prog) (ds ++ gs)).all (· ≤ reachBytes) = true := hsz0
  have hval : ∀ (j : Nat) t v, Try.f8.params[j]? = some t → args[j]? = some v → Value.okWide Try.prog W .any base t v := hval0
  have hW' := hW
  obtain ⟨p, q, hA0, hV, rfl, hfz, hnd⟩ := hW
  have hA : DataW.TrodAll enc Try.prog W 0 (fun _ => true) true Try.f8.params.toList args.toList ds p := hA0
  rw [Try.params8] at hA hval hsz
  obtain ⟨v0, vs0, d0, ds0, p0, q0, hargs, rfl, rfl, h0, r0⟩ := trodAll_cons hA
  obtain ⟨v1, vs1, d1, ds1, p1, q1, rfl, rfl, rfl, h1, r1⟩ := trodAll_cons r0
  obtain ⟨v2, vs2, d2, ds2, p2, q2, rfl, rfl, rfl, h2, r2⟩ := trodAll_cons r1
  obtain ⟨v3, vs3, d3, ds3, p3, q3, rfl, rfl, rfl, h3, r3⟩ := trodAll_cons r2
  obtain ⟨v4, vs4, d4, ds4, p4, q4, rfl, rfl, rfl, h4, r4⟩ := trodAll_cons r3
  obtain ⟨rfl, rfl, rfl⟩ := trodAll_nil r4
  obtain rfl : args = #[v0, v1, v2, v3, v4] := by cases args; simp_all
  obtain ⟨rfl, rfl⟩ := trodVars_none hV
  have k0 := h0
  have lt0 : ∀ x ∈ p0, x.block < W.heap.size := by obtain ⟨m, hm⟩ := k0; exact DataW.trod_lt m _ _ _ hm
  obtain ⟨A0, c0, x0, rfl, hc0, hr0, m0, b0, g0⟩ := Opn.arg_slice Try.underlying36 (by kernel_rfl) (B := 56) (by kernel_rfl) opens49 (hval 0 36 v0 rfl rfl) h0 (Opn.weights_of hsz (j := 0) rfl rfl)
  have k1 := h1
  have lt1 : ∀ x ∈ p1, x.block < W.heap.size := by obtain ⟨m, hm⟩ := k1; exact DataW.trod_lt m _ _ _ hm
  obtain ⟨x1, cs1, rfl, hk1, g1⟩ := Opn.arg_struct Try.underlying38 opens38 (hval 1 38 v1 rfl rfl) h1 (Opn.weights_of hsz (j := 1) rfl rfl)
  have k2 := h2
  have lt2 : ∀ x ∈ p2, x.block < W.heap.size := by obtain ⟨m, hm⟩ := k2; exact DataW.trod_lt m _ _ _ hm
  obtain ⟨x2, rfl, g2⟩ := Opn.arg_int Try.underlying3 (hval 2 3 v2 rfl rfl) h2
  have k3 := h3
  have lt3 : ∀ x ∈ p3, x.block < W.heap.size := by obtain ⟨m, hm⟩ := k3; exact DataW.trod_lt m _ _ _ hm
  obtain ⟨x3, rfl, g3⟩ := Opn.arg_int Try.underlying3 (hval 3 3 v3 rfl rfl) h3
  have k4 := h4
  have lt4 : ∀ x ∈ p4, x.block < W.heap.size := by obtain ⟨m, hm⟩ := k4; exact DataW.trod_lt m _ _ _ hm
  obtain ⟨x4, rfl, g4⟩ := Opn.arg_int Try.underlying3 (hval 4 3 v4 rfl rfl) h4
  unfold k38 at hk1
  obtain ⟨ca_0_1, cb_0_1, rfl, ha_0_1, hb_0_1⟩ := hk1
  cases ha_0_1
  cases hb_0_1
  clear hA0 hval0 hsz0 hsz
  obtain ⟨k, hf⟩ := PP x0 x1 x2 x3 x4 ⟨m0, b0, g0⟩ g1 g2 g3 g4
  refine (kissgatelaw17_SpreadUp.calls k (fun k_ => k_ < W.heap.size) _ _ _ _ _ _ _ _ true W ⟨_, _, rfl, hc0, Kd.C_F k49_heap hr0⟩ hf).mono fun e W' hq => ?_
  obtain ⟨he, bel0⟩ := hq
  have bel : Below W.heap.size W W' := bel0
  subst he
  exact ⟨_, rfl, _, _, _, [], _, [], hW', trodAll_mk1 (shut_bool Try.underlying4 _), (trodAll_cons_mk (Below.trod laidOut (by kernel_rfl) (of_decide_eq_true (by kernel_rfl)) k0 bel lt0) (trodAll_cons_mk (Below.trod laidOut (by kernel_rfl) (of_decide_eq_true (by kernel_rfl)) k1 bel lt1) (trodAll_cons_mk (Below.trod laidOut (by kernel_rfl) (of_decide_eq_true (by kernel_rfl)) k2 bel lt2) (trodAll_cons_mk (Below.trod laidOut (by kernel_rfl) (of_decide_eq_true (by kernel_rfl)) k3 bel lt3) (trodAll_cons_mk (Below.trod laidOut (by kernel_rfl) (of_decide_eq_true (by kernel_rfl)) k4 bel lt4) trodAll_mk0))))), rfl, bel.frame _, fun h => by cases h⟩
theorem over (PP : Pure) : Rows.spreadUpRow.holds Try.pinned (OpenSpec.ofChange Rows.spreadUpSpec) :=
  OpenClaim.holds_of_wide 8 Try.f8 rfl rfl rfl rfl rfl rfl rfl ⟨rfl, rfl, rfl, rfl, rfl⟩ rfl rfl rfl rfl rfl (by kernel_rfl) Try.func8 (by kernel_rfl)
    (of_decide_eq_true (by kernel_rfl)) (by unfold Func.isWrapper; first | (rw [if_pos (by decide +kernel)]; kernel_rfl) | (rw [if_neg (by decide +kernel)]; exact ⟨rfl, rfl⟩))
    (fun os started H enc _ => lifted os started H enc PP)
theorem proved : Rows.SpreadUpSaid := over pure
end Go.Proofs.Ytbcngajkokjfjaa.spreadUp
namespace Go.Proofs.Ytbcngajkokjfjaa
theorem spreadUp_holds : Rows.SpreadUpSaid := spreadUp.proved
end Go.Proofs.Ytbcngajkokjfjaa
