/- Functions of the program as plain Lean functions, what their calls do, and what follows of it. Conditions: each theorem's own. -/
import Derived.Test.YtfimhaodgekkgaaDoorCTreeSpans5
import Derived.Test.YtfimhaodgekkgaaDoorCards
import Derived.Test.YtfimhaodgekkgaaDoorProg
import Derived.Test.YtfimhaodgekkgaaDoorRows
import Derived.Test.YtfimhaodgekkgaaDoorTie
namespace Go.Proofs.YtfimhaodgekkgaaDoor.treeSpans
open Go.ChangeShapes Go.WideShapes Go.ChangeAt
open Go.RowKit Go.Proofs.YtfimhaodgekkgaaDoorW.PrintWords Go.Proofs.YtfimhaodgekkgaaDoorW.PrintLast Go.Proofs.YtfimhaodgekkgaaDoorW.PrintMore Go.Proofs.YtfimhaodgekkgaaDoor.QSpn
open Go.ChangeMaps (open_string shut_string)
open Go.Proofs.YtfimhaodgekkgaaDoor.QTre (laid1 door_met of_laid)
set_option linter.unusedVariables false
set_option linter.unusedSimpArgs false
theorem own : ownKnob Tryd.prog.godebug = none := by kernel_rfl
theorem laidOut : laidOutB Tryd.prog = true := by kernel_rfl
theorem opens72 : Opn.Opens Tryd.prog 72 k72 G72 :=
  Opn.opens_imp (Opn.opens_iso (fun x : S72 => (x.f0, x.f1, x.f2, x.f3, x.f4, x.f5)) (fun p => (⟨p.1, p.2.1, p.2.2.1, p.2.2.2.1, p.2.2.2.2.1, p.2.2.2.2.2⟩ : S72)) (fun _ => rfl) (Opn.opens_struct Tryd.underlying72 (by kernel_rfl) (Opn.opensFs_cons rfl (by kernel_rfl) (Opn.opens_int Tryd.underlying3) (Opn.opensFs_cons rfl (by kernel_rfl) (Opn.opens_int Tryd.underlying3) (Opn.opensFs_cons rfl (by kernel_rfl) (Opn.opens_int Tryd.underlying3) (Opn.opensFs_cons rfl (by kernel_rfl) (Opn.opens_int Tryd.underlying3) (Opn.opensFs_cons rfl (by kernel_rfl) (Opn.opens_int Tryd.underlying3) (Opn.opensFs_one rfl (by kernel_rfl) (Opn.opens_int Tryd.underlying3))))))))) (fun _ h => h)
set_option maxRecDepth 100000 in
theorem lifted (os : Os) (started : os.Started) (H : Type) (enc : TypeId × Value → H) (PP : Pure) :
    ReturnsInHanded {} Tryd.checked os 3 .any (fun w args => (Rows.treeSpansSpec.pre enc Tryd.prog Tryd.f3 Rows.treeSpansRow.domain false w args ∧ laidMetH Tryd.prog laid1 w) ∧ sizedMet enc Tryd.prog Tryd.f3 (OpenSpec.ofChange Rows.treeSpansSpec) false w args) (Rows.treeSpansSpec.post enc Tryd.prog Tryd.f3 false true false false) := by
  refine returnsInHanded_of_change_and (C := Tryd.checked) (X := fun w _ => laidMetH Tryd.prog laid1 w) (fun _ _ _ hh h => h.of_heap hh) own started (by kernel_rfl) Tryd.func3
    (ChangeSpec.witness_shaped (enc := enc) (C := Tryd.checked) (os := os) (X := fun w _ => laidMetH Tryd.prog laid1 w) false (World.doorLaid Tryd.prog 400 os) #[.slice none 0 0, .slice none 0 0] 8 rfl (World.shaped_of_RefB (by kernel_rfl) (by kernel_rfl)) (by kernel_rfl) (by kernel_rfl) (by kernel_rfl) (door_met os _)) ?_
  intro W base args ds gs before hval0 hW hcnd hsz0 hL _
  obtain ⟨hng, hz⟩ := QTre.of_laid hL
  have hsz : (DataW.weightsEach Tryd.prog (Tryd.f3.params.toList ++ Rows.treeSpansSpec.plain.varTypes Tryd.prog) (ds ++ gs)).all (· ≤ reachBytes) = true := hsz0
  have hval : ∀ (j : Nat) t v, Tryd.f3.params[j]? = some t → args[j]? = some v → Value.okWide Tryd.prog W .any base t v := hval0
  have hW' := hW
  obtain ⟨p, q, hA0, hV, rfl, hfz, hnd⟩ := hW
  have hA : DataW.TrodAll enc Tryd.prog W 0 (fun _ => true) true Tryd.f3.params.toList args.toList ds p := hA0
  rw [Tryd.params3] at hA hval hsz
  obtain ⟨v0, vs0, d0, ds0, p0, q0, hargs, rfl, rfl, h0, r0⟩ := trodAll_cons hA
  obtain ⟨v1, vs1, d1, ds1, p1, q1, rfl, rfl, rfl, h1, r1⟩ := trodAll_cons r0
  obtain ⟨rfl, rfl, rfl⟩ := trodAll_nil r1
  obtain rfl : args = #[v0, v1] := by cases args; simp_all
  obtain ⟨rfl, rfl⟩ := trodVars_none hV
  have k0 := h0
  have lt0 : ∀ x ∈ p0, x.block < W.heap.size := by obtain ⟨m, hm⟩ := k0; exact DataW.trod_lt m _ _ _ hm
  obtain ⟨A0, c0, x0, rfl, hc0, hr0, m0, b0, g0⟩ := Opn.arg_slice Tryd.underlying22 (by kernel_rfl) (B := 8) (by kernel_rfl) (Opn.opens_int Tryd.underlying3) (hval 0 22 v0 rfl rfl) h0 (Opn.weights_of hsz (j := 0) rfl rfl)
  have k1 := h1
  have lt1 : ∀ x ∈ p1, x.block < W.heap.size := by obtain ⟨m, hm⟩ := k1; exact DataW.trod_lt m _ _ _ hm
  obtain ⟨A1, c1, x1, rfl, hc1, hr1, m1, b1, g1⟩ := Opn.arg_slice Tryd.underlying23 (by kernel_rfl) (B := 48) (by kernel_rfl) opens72 (hval 1 23 v1 rfl rfl) h1 (Opn.weights_of hsz (j := 1) rfl rfl)
  clear hA0 hval0 hsz0 hsz
  obtain ⟨k, hf⟩ := PP x0 x1 ⟨m0, b0, g0⟩ ⟨m1, b1, g1⟩
  refine (kissgatelaw12_TreeSpans.calls k _ _ _ _ _ _ true rfl W hng hz hr0 hc0 hr1 hc1 hf).mono fun e W' hq => ?_
  obtain ⟨he, bel0⟩ := hq
  have bel : Below W.heap.size W W' := bel0
  subst he
  exact ⟨_, rfl, _, _, _, [], _, [], hW', trodAll_mk1 (shut_bool Tryd.underlying4 _), (trodAll_cons_mk (Below.trod laidOut (by kernel_rfl) (of_decide_eq_true (by kernel_rfl)) k0 bel lt0) (trodAll_cons_mk (Below.trod laidOut (by kernel_rfl) (of_decide_eq_true (by kernel_rfl)) k1 bel lt1) trodAll_mk0)), rfl, bel.frame _, fun h => by cases h⟩
theorem over (PP : Pure) : Rows.treeSpansRow.holds Tryd.pinned (OpenSpec.ofChange Rows.treeSpansSpec) :=
  OpenClaim.holds_of_wide 3 Tryd.f3 rfl rfl rfl rfl rfl rfl rfl ⟨rfl, rfl, rfl, rfl, rfl⟩ rfl rfl rfl rfl rfl (by kernel_rfl) Tryd.func3 (by kernel_rfl)
    (of_decide_eq_true (by kernel_rfl)) (by unfold Func.isWrapper; first | (rw [if_pos (by decide +kernel)]; kernel_rfl) | (rw [if_neg (by decide +kernel)]; exact ⟨rfl, rfl⟩))
    (fun os started H enc _ => lifted os started H enc PP)
theorem proved : Rows.TreeSpansSaid := over pure
end Go.Proofs.YtfimhaodgekkgaaDoor.treeSpans
namespace Go.Proofs.YtfimhaodgekkgaaDoor
theorem treeSpans_holds : Rows.TreeSpansCardSaid :=
  Claim7.holds_tied_plain_at .later [] [.data] true (true, "fdf82fe035afffc7a157394c16ed2f1f327e12299de0c0fd487c5ca54040f60a") false
    treeSpans.proved (fun _ h => by cases h) (by kernel_rfl) (fun _ h => by cases h) treeSpans_row_tie rfl ⟨rfl, rfl⟩ (by kernel_rfl) rfl
    (fun f fn hf hfn => by
      obtain rfl : f = 3 := Option.some.inj ((show Tryd.prog.funcNamed "kissgate/kissgatelaw12.TreeSpans" = some 3 by kernel_rfl).symm.trans hf) |>.symm
      obtain rfl : fn = Tryd.f3 := (Option.some.inj (Tryd.func3.symm.trans hfn)).symm
      exact ⟨by kernel_rfl, fun j t ht => by
        rw [Tryd.params3] at ht
        have hm : t ∈ [22, 23] := by simpa using Array.mem_of_getElem? ht
        have hall : ([22, 23].all fun u => !Tryd.prog.wantsStandIn u) = true := by kernel_rfl
        exact (show Tryd.prog.wantsStandIn t = false by simpa using List.all_eq_true.1 hall t hm)⟩)
    (by kernel_rfl)
end Go.Proofs.YtfimhaodgekkgaaDoor
