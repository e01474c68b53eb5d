/- Functions of the program as plain Lean functions, what their calls do, and what follows of it. Conditions: each theorem's own. -/
import Derived.Test.YtfimhaodgekkgaaDoorCTreeDoes5
import Derived.Test.YtfimhaodgekkgaaDoorCards
import Derived.Test.YtfimhaodgekkgaaDoorProg
import Derived.Test.YtfimhaodgekkgaaDoorRows
import Derived.Test.YtfimhaodgekkgaaDoorTie
namespace Go.Proofs.YtfimhaodgekkgaaDoor.treeDoes
open Go.ChangeShapes Go.WideShapes Go.ChangeAt
open Go.RowKit Go.Proofs.YtfimhaodgekkgaaDoorW.PrintWords Go.Proofs.YtfimhaodgekkgaaDoorW.PrintLast Go.Proofs.YtfimhaodgekkgaaDoorW.PrintMore Go.Proofs.YtfimhaodgekkgaaDoor.QTre
open Go.ChangeMaps (open_string shut_string)
set_option linter.unusedVariables false
set_option linter.unusedSimpArgs false
theorem own : ownKnob Tryd.prog.godebug = none := by kernel_rfl
theorem laidOut : laidOutB Tryd.prog = true := by kernel_rfl
theorem opens36 : Opn.Opens Tryd.prog 36 k36 G36 :=
  Opn.opens_imp (Opn.opens_iso (fun x : S36 => (x.f0, x.f1, x.f2, x.f3)) (fun p => (⟨p.1, p.2.1, p.2.2.1, p.2.2.2⟩ : S36)) (fun _ => rfl) (Opn.opens_struct Tryd.underlying36 (by kernel_rfl) (Opn.opensFs_cons rfl (by kernel_rfl) (Opn.opens_int Tryd.underlying3) (Opn.opensFs_cons rfl (by kernel_rfl) (Opn.opens_int Tryd.underlying3) (Opn.opensFs_cons rfl (by kernel_rfl) (Opn.opens_int Tryd.underlying3) (Opn.opensFs_one rfl (by kernel_rfl) (Opn.opens_int Tryd.underlying3))))))) (fun _ h => h)
theorem opens38 : Opn.Opens Tryd.prog 38 k38 G38 :=
  Opn.opens_imp (Opn.opens_iso (fun x : S38 => (x.f0, x.f1, x.f2, x.f3)) (fun p => (⟨p.1, p.2.1, p.2.2.1, p.2.2.2⟩ : S38)) (fun _ => rfl) (Opn.opens_struct Tryd.underlying38 (by kernel_rfl) (Opn.opensFs_cons rfl (by kernel_rfl) opens36 (Opn.opensFs_cons rfl (by kernel_rfl) (Opn.opens_int Tryd.underlying3) (Opn.opensFs_cons rfl (by kernel_rfl) (Opn.opens_int Tryd.underlying3) (Opn.opensFs_one rfl (by kernel_rfl) (Opn.opens_bool Tryd.underlying4))))))) (fun _ h => h)
theorem opens40 : Opn.Opens Tryd.prog 40 k40 G40 :=
  Opn.opens_imp (Opn.opens_iso (fun x : S40 => (x.f0, x.f1, x.f2, x.f3, x.f4, x.f5)) (fun p => (⟨p.1, p.2.1, p.2.2.1, p.2.2.2.1, p.2.2.2.2.1, p.2.2.2.2.2⟩ : S40)) (fun _ => rfl) (Opn.opens_struct Tryd.underlying40 (by kernel_rfl) (Opn.opensFs_cons rfl (by kernel_rfl) (Opn.opens_int Tryd.underlying3) (Opn.opensFs_cons rfl (by kernel_rfl) (Opn.opens_int Tryd.underlying3) (Opn.opensFs_cons rfl (by kernel_rfl) (Opn.opens_bool Tryd.underlying4) (Opn.opensFs_cons rfl (by kernel_rfl) (Opn.opens_int Tryd.underlying3) (Opn.opensFs_cons rfl (by kernel_rfl) opens38 (Opn.opensFs_one rfl (by kernel_rfl) (Opn.opens_int Tryd.underlying3))))))))) (fun _ h => h)
set_option maxRecDepth 100000 in
theorem lifted (os : Os) (started : os.Started) (H : Type) (enc : TypeId × Value → H) (PP : Pure) :
    ReturnsInHanded {} Tryd.checked os 6 .any (fun w args => (Rows.treeDoesSpec.pre enc Tryd.prog Tryd.f6 Rows.treeDoesRow.domain false w args ∧ laidMetH Tryd.prog laid1 w) ∧ sizedMet enc Tryd.prog Tryd.f6 (OpenSpec.ofChange Rows.treeDoesSpec) false w args) (Rows.treeDoesSpec.post enc Tryd.prog Tryd.f6 false true false false) := by
  refine returnsInHanded_of_change_and (C := Tryd.checked) (X := fun w _ => laidMetH Tryd.prog laid1 w) (fun _ _ _ hh h => h.of_heap hh) own started (by kernel_rfl) Tryd.func6
    (ChangeSpec.witness_shaped (enc := enc) (C := Tryd.checked) (os := os) (X := fun w _ => laidMetH Tryd.prog laid1 w) false (World.doorLaid Tryd.prog 400 os) #[.int .i64 0, .int .i64 0, .slice none 0 0] 8 rfl (World.shaped_of_RefB (by kernel_rfl) (by kernel_rfl)) (by kernel_rfl) (by kernel_rfl) (by kernel_rfl) (door_met os _)) ?_
  intro W base args ds gs before hval0 hW hcnd hsz0 hL _
  obtain ⟨hng, hz⟩ := of_laid hL
  have hsz : (DataW.weightsEach Tryd.prog (Tryd.f6.params.toList ++ Rows.treeDoesSpec.plain.varTypes Tryd.prog) (ds ++ gs)).all (· ≤ reachBytes) = true := hsz0
  have hval : ∀ (j : Nat) t v, Tryd.f6.params[j]? = some t → args[j]? = some v → Value.okWide Tryd.prog W .any base t v := hval0
  have hW' := hW
  obtain ⟨p, q, hA0, hV, rfl, hfz, hnd⟩ := hW
  have hA : DataW.TrodAll enc Tryd.prog W 0 (fun _ => true) true Tryd.f6.params.toList args.toList ds p := hA0
  rw [Tryd.params6] at hA hval hsz
  obtain ⟨v0, vs0, d0, ds0, p0, q0, hargs, rfl, rfl, h0, r0⟩ := trodAll_cons hA
  obtain ⟨v1, vs1, d1, ds1, p1, q1, rfl, rfl, rfl, h1, r1⟩ := trodAll_cons r0
  obtain ⟨v2, vs2, d2, ds2, p2, q2, rfl, rfl, rfl, h2, r2⟩ := trodAll_cons r1
  obtain ⟨rfl, rfl, rfl⟩ := trodAll_nil r2
  obtain rfl : args = #[v0, v1, v2] := by cases args; simp_all
  obtain ⟨rfl, rfl⟩ := trodVars_none hV
  have k0 := h0
  have lt0 : ∀ x ∈ p0, x.block < W.heap.size := by obtain ⟨m, hm⟩ := k0; exact DataW.trod_lt m _ _ _ hm
  obtain ⟨x0, rfl, g0⟩ := Opn.arg_int Tryd.underlying3 (hval 0 3 v0 rfl rfl) h0
  have k1 := h1
  have lt1 : ∀ x ∈ p1, x.block < W.heap.size := by obtain ⟨m, hm⟩ := k1; exact DataW.trod_lt m _ _ _ hm
  obtain ⟨x1, rfl, g1⟩ := Opn.arg_int Tryd.underlying3 (hval 1 3 v1 rfl rfl) h1
  have k2 := h2
  have lt2 : ∀ x ∈ p2, x.block < W.heap.size := by obtain ⟨m, hm⟩ := k2; exact DataW.trod_lt m _ _ _ hm
  obtain ⟨A2, c2, x2, rfl, hc2, hr2, m2, b2, g2⟩ := Opn.arg_slice Tryd.underlying30 (by kernel_rfl) (B := 96) (by kernel_rfl) opens40 (hval 2 30 v2 rfl rfl) h2 (Opn.weights_of hsz (j := 2) rfl rfl)
  clear hA0 hval0 hsz0 hsz
  have hf := PP x0 x1 x2 g0 g1 ⟨m2, b2, g2⟩
  refine (kissgatelaw12_TreeDoes.calls _ _ _ _ _ true W hng hz hr2 hc2 rfl hf).mono fun e W' hq => ?_
  obtain ⟨he, bel0⟩ := hq
  have bel : Below W.heap.size W W' := bel0
  subst he
  exact ⟨_, rfl, _, _, _, [], _, [], hW', trodAll_mk1 (shut_bool Tryd.underlying4 _), (trodAll_cons_mk (Below.trod laidOut (by kernel_rfl) (of_decide_eq_true (by kernel_rfl)) k0 bel lt0) (trodAll_cons_mk (Below.trod laidOut (by kernel_rfl) (of_decide_eq_true (by kernel_rfl)) k1 bel lt1) (trodAll_cons_mk (Below.trod laidOut (by kernel_rfl) (of_decide_eq_true (by kernel_rfl)) k2 bel lt2) trodAll_mk0))), rfl, bel.frame _, fun h => by cases h⟩
theorem over (PP : Pure) : Rows.treeDoesRow.holds Tryd.pinned (OpenSpec.ofChange Rows.treeDoesSpec) :=
  OpenClaim.holds_of_wide 6 Tryd.f6 rfl rfl rfl rfl rfl rfl rfl ⟨rfl, rfl, rfl, rfl, rfl⟩ rfl rfl rfl rfl rfl (by kernel_rfl) Tryd.func6 (by kernel_rfl)
    (of_decide_eq_true (by kernel_rfl)) (by unfold Func.isWrapper; first | (rw [if_pos (by decide +kernel)]; kernel_rfl) | (rw [if_neg (by decide +kernel)]; exact ⟨rfl, rfl⟩))
    (fun os started H enc _ => lifted os started H enc PP)
theorem proved : Rows.TreeDoesSaid := over pure
end Go.Proofs.YtfimhaodgekkgaaDoor.treeDoes
namespace Go.Proofs.YtfimhaodgekkgaaDoor
theorem treeDoes_holds : Rows.TreeDoesCardSaid :=
  Claim7.holds_tied_plain_at .later [] [.data] true (true, "fdf82fe035afffc7a157394c16ed2f1f327e12299de0c0fd487c5ca54040f60a") false
    treeDoes.proved (fun _ h => by cases h) (by kernel_rfl) (fun _ h => by cases h) treeDoes_row_tie rfl ⟨rfl, rfl⟩ (by kernel_rfl) rfl
    (fun f fn hf hfn => by
      obtain rfl : f = 6 := Option.some.inj ((show Tryd.prog.funcNamed "kissgate/kissgatelaw12.TreeDoes" = some 6 by kernel_rfl).symm.trans hf) |>.symm
      obtain rfl : fn = Tryd.f6 := (Option.some.inj (Tryd.func6.symm.trans hfn)).symm
      exact ⟨by kernel_rfl, fun j t ht => by
        rw [Tryd.params6] at ht
        have hm : t ∈ [3, 3, 30] := by simpa using Array.mem_of_getElem? ht
        have hall : ([3, 3, 30].all fun u => !Tryd.prog.wantsStandIn u) = true := by kernel_rfl
        exact (show Tryd.prog.wantsStandIn t = false by simpa using List.all_eq_true.1 hall t hm)⟩)
    (by kernel_rfl)
end Go.Proofs.YtfimhaodgekkgaaDoor
