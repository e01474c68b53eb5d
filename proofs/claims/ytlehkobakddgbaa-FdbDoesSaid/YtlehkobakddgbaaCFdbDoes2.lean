/- Functions of the program as plain Lean functions, what their calls do, and what follows of it. Conditions: each theorem's own. -/
import Derived.Test.YtlehkobakddgbaaCFdbDoes1
import Derived.Test.YtlehkobakddgbaaProg
import Derived.Test.YtlehkobakddgbaaRows
namespace Go.Proofs.Ytlehkobakddgbaa.fdbDoes
open Go.ChangeShapes Go.WideShapes Go.ChangeAt
open Go.RowKit Go.Proofs.YtlehkobakddgbaaW.PrintWords Go.Proofs.YtlehkobakddgbaaW.PrintLast Go.Proofs.YtlehkobakddgbaaW.PrintMore Go.Proofs.Ytlehkobakddgbaa.QFdb
open Go.ChangeMaps (open_string shut_string)
set_option linter.unusedVariables false
set_option linter.unusedSimpArgs false
theorem own : ownKnob Try.prog.godebug = none := by kernel_rfl
theorem laidOut : laidOutB Try.prog = true := by kernel_rfl
theorem opens32 : Opn.Opens Try.prog 32 k32 G32 :=
  Opn.opens_imp (Opn.opens_iso (fun x : S32 => (x.f0, x.f1, x.f2, x.f3, x.f4)) (fun p => (⟨p.1, p.2.1, p.2.2.1, p.2.2.2.1, p.2.2.2.2⟩ : S32)) (fun _ => rfl) (Opn.opens_struct Try.underlying32 (by kernel_rfl) (Opn.opensFs_cons rfl (by kernel_rfl) (Opn.opens_int Try.underlying3) (Opn.opensFs_cons rfl (by kernel_rfl) (Opn.opens_int Try.underlying3) (Opn.opensFs_cons rfl (by kernel_rfl) (Opn.opens_int Try.underlying3) (Opn.opensFs_cons rfl (by kernel_rfl) (Opn.opens_int Try.underlying3) (Opn.opensFs_one rfl (by kernel_rfl) (Opn.opens_int Try.underlying3)))))))) (fun _ h => h)
set_option maxRecDepth 100000 in
theorem lifted (os : Os) (started : os.Started) (H : Type) (enc : TypeId × Value → H) (PP : Pure) :
    ReturnsInHanded {} Try.checked os 5 .any (Rows.fdbDoesSpec.pre6 enc Try.prog Try.f5 Rows.fdbDoesRow.domain false) (Rows.fdbDoesSpec.post enc Try.prog Try.f5 false true false false) := by
  refine returnsInHanded_of_change_sized (C := Try.checked) own started (by kernel_rfl) Try.func5
    (ChangeSpec.witness6 (enc := enc) (C := Try.checked) false ⟨#[], #[.slice none 0 0], []⟩ 8 (by kernel_rfl) (by kernel_rfl) (by kernel_rfl) (by kernel_rfl)) ?_
  intro W base args ds gs before hval0 hW hcnd hsz0 _
  have hsz : (DataW.weightsEach Try.prog (Try.f5.params.toList ++ Rows.fdbDoesSpec.plain.varTypes Try.prog) (ds ++ gs)).all (· ≤ reachBytes) = true := hsz0
  have hval : ∀ (j : Nat) t v, Try.f5.params[j]? = some t → args[j]? = some v → Value.okWide Try.prog W .any base t v := hval0
  have hW' := hW
  obtain ⟨p, q, hA0, hV, rfl, hfz, hnd⟩ := hW
  have hA : DataW.TrodAll enc Try.prog W 0 (fun _ => true) true Try.f5.params.toList args.toList ds p := hA0
  rw [Try.params5] at hA hval hsz
  obtain ⟨v0, vs0, d0, ds0, p0, q0, hargs, rfl, rfl, h0, r0⟩ := trodAll_cons hA
  obtain ⟨rfl, rfl, rfl⟩ := trodAll_nil r0
  obtain rfl : args = #[v0] := by cases args; simp_all
  obtain ⟨rfl, rfl⟩ := trodVars_none hV
  have k0 := h0
  have lt0 : ∀ x ∈ p0, x.block < W.heap.size := by obtain ⟨m, hm⟩ := k0; exact DataW.trod_lt m _ _ _ hm
  obtain ⟨A0, c0, x0, rfl, hc0, hr0, m0, b0, g0⟩ := Opn.arg_slice Try.underlying22 (by kernel_rfl) (B := 40) (by kernel_rfl) opens32 (hval 0 22 v0 rfl rfl) h0 (Opn.weights_of hsz (j := 0) rfl rfl)
  clear hA0 hval0 hsz0 hsz
  have hf := PP x0 ⟨m0, b0, g0⟩
  refine (kissgatelaw18_FdbDoes.calls _ _ _ true W hr0 hc0 rfl hf).mono fun e W' hq => ?_
  obtain ⟨he, bel0⟩ := hq
  have bel : Below W.heap.size W W' := bel0
  subst he
  exact ⟨_, rfl, _, _, _, [], _, [], hW', trodAll_mk1 (shut_bool Try.underlying4 _), (trodAll_cons_mk (Below.trod laidOut (by kernel_rfl) (of_decide_eq_true (by kernel_rfl)) k0 bel lt0) trodAll_mk0), rfl, bel.frame _, fun h => by cases h⟩
theorem over (PP : Pure) : Rows.fdbDoesRow.holds Try.pinned (OpenSpec.ofChange Rows.fdbDoesSpec) :=
  OpenClaim.holds_of_wide 5 Try.f5 rfl rfl rfl rfl rfl rfl rfl ⟨rfl, rfl, rfl, rfl, rfl⟩ rfl rfl rfl rfl rfl (by kernel_rfl) Try.func5 (by kernel_rfl)
    (of_decide_eq_true (by kernel_rfl)) (by unfold Func.isWrapper; first | (rw [if_pos (by decide +kernel)]; kernel_rfl) | (rw [if_neg (by decide +kernel)]; exact ⟨rfl, rfl⟩))
    (fun os started H enc _ => lifted os started H enc PP)
theorem proved : Rows.FdbDoesSaid := over pure
end Go.Proofs.Ytlehkobakddgbaa.fdbDoes
namespace Go.Proofs.Ytlehkobakddgbaa
theorem fdbDoes_holds : Rows.FdbDoesSaid := fdbDoes.proved
end Go.Proofs.Ytlehkobakddgbaa
