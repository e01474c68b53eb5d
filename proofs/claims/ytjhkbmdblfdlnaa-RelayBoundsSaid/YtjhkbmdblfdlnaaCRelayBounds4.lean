/- Functions of the program as plain Lean functions, what their calls do, and what follows of it. Conditions: each theorem's own. -/
import Derived.Test.YtjhkbmdblfdlnaaCRelayBounds3
import Derived.Test.YtjhkbmdblfdlnaaProg
import Derived.Test.YtjhkbmdblfdlnaaRows
namespace Go.Proofs.Ytjhkbmdblfdlnaa.relayBounds
open Go.ChangeShapes Go.WideShapes Go.ChangeAt
open Go.RowKit Go.Proofs.YtjhkbmdblfdlnaaW.PrintWords Go.Proofs.YtjhkbmdblfdlnaaW.PrintLast Go.Proofs.YtjhkbmdblfdlnaaW.PrintMore Go.Proofs.Ytjhkbmdblfdlnaa.QRlb
open Go.ChangeMaps (open_string shut_string)
set_option linter.unusedVariables false
set_option linter.unusedSimpArgs false
theorem own : ownKnob Try.prog.godebug = none := by kernel_rfl
theorem laidOut : laidOutB Try.prog = true := by kernel_rfl
theorem opens54 : Opn.Opens Try.prog 54 k54 G54 :=
  Opn.opens_imp (Opn.opens_iso (fun x : S54 => (x.f0, x.f1, x.f2, x.f3)) (fun p => (⟨p.1, p.2.1, p.2.2.1, p.2.2.2⟩ : S54)) (fun _ => rfl) (Opn.opens_struct Try.underlying54 (by kernel_rfl) (Opn.opensFs_cons rfl (by kernel_rfl) (Opn.opens_int Try.underlying3) (Opn.opensFs_cons rfl (by kernel_rfl) (Opn.opens_int Try.underlying3) (Opn.opensFs_cons rfl (by kernel_rfl) (Opn.opens_bool Try.underlying4) (Opn.opensFs_one rfl (by kernel_rfl) (Opn.opens_slice Try.underlying40 (by kernel_rfl) (B := 8) (by kernel_rfl) (Opn.opens_int Try.underlying3)))))))) (fun _ h => h)
theorem opens49 : Opn.Opens Try.prog 49 k49 G49 :=
  Opn.opens_imp (Opn.opens_iso (fun x : S49 => (x.f0, x.f1, x.f2, x.f3, x.f4, x.f5, x.f6)) (fun p => (⟨p.1, p.2.1, p.2.2.1, p.2.2.2.1, p.2.2.2.2.1, p.2.2.2.2.2.1, p.2.2.2.2.2.2⟩ : S49)) (fun _ => rfl) (Opn.opens_struct Try.underlying49 (by kernel_rfl) (Opn.opensFs_cons rfl (by kernel_rfl) (Opn.opens_int Try.underlying3) (Opn.opensFs_cons rfl (by kernel_rfl) (Opn.opens_int Try.underlying3) (Opn.opensFs_cons rfl (by kernel_rfl) (Opn.opens_bool Try.underlying4) (Opn.opensFs_cons rfl (by kernel_rfl) (Opn.opens_int Try.underlying3) (Opn.opensFs_cons rfl (by kernel_rfl) (Opn.opens_int Try.underlying3) (Opn.opensFs_cons rfl (by kernel_rfl) (Opn.opens_int Try.underlying3) (Opn.opensFs_one rfl (by kernel_rfl) (Opn.opens_string Try.underlying9)))))))))) (fun _ h => h)
theorem opens84 : Opn.Opens Try.prog 84 k84 G84 :=
  Opn.opens_imp (Opn.opens_iso (fun x : S84 => (x.f0, x.f1, x.f2, x.f3, x.f4)) (fun p => (⟨p.1, p.2.1, p.2.2.1, p.2.2.2.1, p.2.2.2.2⟩ : S84)) (fun _ => rfl) (Opn.opens_struct Try.underlying84 (by kernel_rfl) (Opn.opensFs_cons rfl (by kernel_rfl) (Opn.opens_int Try.underlying3) (Opn.opensFs_cons rfl (by kernel_rfl) (Opn.opens_int Try.underlying3) (Opn.opensFs_cons rfl (by kernel_rfl) (Opn.opens_int Try.underlying3) (Opn.opensFs_cons rfl (by kernel_rfl) (Opn.opens_int Try.underlying3) (Opn.opensFs_one rfl (by kernel_rfl) (Opn.opens_bool Try.underlying4)))))))) (fun _ h => h)
set_option maxRecDepth 100000 in
theorem lifted (os : Os) (started : os.Started) (H : Type) (enc : TypeId × Value → H) (PP : Pure) :
    ReturnsInHanded {} Try.checked os 10 .any (Rows.relayBoundsSpec.pre6 enc Try.prog Try.f10 Rows.relayBoundsRow.domain false) (Rows.relayBoundsSpec.post enc Try.prog Try.f10 false true false false) := by
  refine returnsInHanded_of_change_sized (C := Try.checked) own started (by kernel_rfl) Try.func10
    (ChangeSpec.witness6 (enc := enc) (C := Try.checked) false ⟨#[], #[.slice none 0 0, .int .i64 0, .agg #[.int .i64 0, .int .i64 0, .bool false, .int .i64 0, .int .i64 0, .int .i64 0, .string ByteArray.empty], .slice none 0 0], []⟩ 8 (by kernel_rfl) (by kernel_rfl) (by kernel_rfl) (by kernel_rfl)) ?_
  intro W base args ds gs before hval0 hW hcnd hsz0 _
  have hsz : (DataW.weightsEach Try.prog (Try.f10.params.toList ++ Rows.relayBoundsSpec.plain.varTypes Try.prog) (ds ++ gs)).all (· ≤ reachBytes) = true := hsz0
  have hval : ∀ (j : Nat) t v, Try.f10.params[j]? = some t → args[j]? = some v → Value.okWide Try.prog W .any base t v := hval0
  have hW' := hW
  obtain ⟨p, q, hA0, hV, rfl, hfz, hnd⟩ := hW
  have hA : DataW.TrodAll enc Try.prog W 0 (fun _ => true) true Try.f10.params.toList args.toList ds p := hA0
  rw [Try.params10] at hA hval hsz
  obtain ⟨v0, vs0, d0, ds0, p0, q0, hargs, rfl, rfl, h0, r0⟩ := trodAll_cons hA
  obtain ⟨v1, vs1, d1, ds1, p1, q1, rfl, rfl, rfl, h1, r1⟩ := trodAll_cons r0
  obtain ⟨v2, vs2, d2, ds2, p2, q2, rfl, rfl, rfl, h2, r2⟩ := trodAll_cons r1
  obtain ⟨v3, vs3, d3, ds3, p3, q3, rfl, rfl, rfl, h3, r3⟩ := trodAll_cons r2
  obtain ⟨rfl, rfl, rfl⟩ := trodAll_nil r3
  obtain rfl : args = #[v0, v1, v2, v3] := by cases args; simp_all
  obtain ⟨rfl, rfl⟩ := trodVars_none hV
  have k0 := h0
  have lt0 : ∀ x ∈ p0, x.block < W.heap.size := by obtain ⟨m, hm⟩ := k0; exact DataW.trod_lt m _ _ _ hm
  obtain ⟨A0, c0, x0, rfl, hc0, hr0, m0, b0, g0⟩ := Opn.arg_slice Try.underlying47 (by kernel_rfl) (B := 48) (by kernel_rfl) opens54 (hval 0 47 v0 rfl rfl) h0 (Opn.weights_of hsz (j := 0) rfl rfl)
  have k1 := h1
  have lt1 : ∀ x ∈ p1, x.block < W.heap.size := by obtain ⟨m, hm⟩ := k1; exact DataW.trod_lt m _ _ _ hm
  obtain ⟨x1, rfl, g1⟩ := Opn.arg_int Try.underlying3 (hval 1 3 v1 rfl rfl) h1
  have k2 := h2
  have lt2 : ∀ x ∈ p2, x.block < W.heap.size := by obtain ⟨m, hm⟩ := k2; exact DataW.trod_lt m _ _ _ hm
  obtain ⟨x2, cs2, rfl, hk2, g2⟩ := Opn.arg_struct Try.underlying49 opens49 (hval 2 49 v2 rfl rfl) h2 (Opn.weights_of hsz (j := 2) rfl rfl)
  have k3 := h3
  have lt3 : ∀ x ∈ p3, x.block < W.heap.size := by obtain ⟨m, hm⟩ := k3; exact DataW.trod_lt m _ _ _ hm
  obtain ⟨A3, c3, x3, rfl, hc3, hr3, m3, b3, g3⟩ := Opn.arg_slice Try.underlying60 (by kernel_rfl) (B := 40) (by kernel_rfl) opens84 (hval 3 60 v3 rfl rfl) h3 (Opn.weights_of hsz (j := 3) rfl rfl)
  unfold k49 at hk2
  obtain ⟨ca_0_2, cb_0_2, rfl, ha_0_2, hb_0_2⟩ := hk2
  cases ha_0_2
  obtain ⟨ca_1_2, cb_1_2, rfl, ha_1_2, hb_1_2⟩ := hb_0_2
  cases ha_1_2
  obtain ⟨ca_2_2, cb_2_2, rfl, ha_2_2, hb_2_2⟩ := hb_1_2
  cases ha_2_2
  obtain ⟨ca_3_2, cb_3_2, rfl, ha_3_2, hb_3_2⟩ := hb_2_2
  cases ha_3_2
  obtain ⟨ca_4_2, cb_4_2, rfl, ha_4_2, hb_4_2⟩ := hb_3_2
  cases ha_4_2
  obtain ⟨ca_5_2, cb_5_2, rfl, ha_5_2, hb_5_2⟩ := hb_4_2
  cases ha_5_2
  cases hb_5_2
  clear hA0 hval0 hsz0 hsz
  obtain ⟨k, hf⟩ := PP x0 x1 x2 x3 ⟨m0, b0, g0⟩ g1 g2 ⟨m3, b3, g3⟩
  refine (kissgatelaw19_RelayBounds.calls k _ _ _ _ _ _ _ _ _ _ _ _ _ _ true rfl W hr0 hc0 hr3 hc3 hf).mono fun e W' hq => ?_
  obtain ⟨he, bel0⟩ := hq
  have bel : Below W.heap.size W W' := bel0
  subst he
  exact ⟨_, rfl, _, _, _, [], _, [], hW', trodAll_mk1 (shut_bool Try.underlying4 _), (trodAll_cons_mk (Below.trod laidOut (by kernel_rfl) (of_decide_eq_true (by kernel_rfl)) k0 bel lt0) (trodAll_cons_mk (Below.trod laidOut (by kernel_rfl) (of_decide_eq_true (by kernel_rfl)) k1 bel lt1) (trodAll_cons_mk (Below.trod laidOut (by kernel_rfl) (of_decide_eq_true (by kernel_rfl)) k2 bel lt2) (trodAll_cons_mk (Below.trod laidOut (by kernel_rfl) (of_decide_eq_true (by kernel_rfl)) k3 bel lt3) trodAll_mk0)))), rfl, bel.frame _, fun h => by cases h⟩
theorem over (PP : Pure) : Rows.relayBoundsRow.holds Try.pinned (OpenSpec.ofChange Rows.relayBoundsSpec) :=
  OpenClaim.holds_of_wide 10 Try.f10 rfl rfl rfl rfl rfl rfl rfl ⟨rfl, rfl, rfl, rfl, rfl⟩ rfl rfl rfl rfl rfl (by kernel_rfl) Try.func10 (by kernel_rfl)
    (of_decide_eq_true (by kernel_rfl)) (by unfold Func.isWrapper; first | (rw [if_pos (by decide +kernel)]; kernel_rfl) | (rw [if_neg (by decide +kernel)]; exact ⟨rfl, rfl⟩))
    (fun os started H enc _ => lifted os started H enc PP)
theorem proved : Rows.RelayBoundsSaid := over pure
end Go.Proofs.Ytjhkbmdblfdlnaa.relayBounds
namespace Go.Proofs.Ytjhkbmdblfdlnaa
theorem relayBounds_holds : Rows.RelayBoundsSaid := relayBounds.proved
end Go.Proofs.Ytjhkbmdblfdlnaa
