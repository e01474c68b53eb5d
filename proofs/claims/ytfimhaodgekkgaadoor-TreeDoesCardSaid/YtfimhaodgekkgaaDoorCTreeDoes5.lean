/- Functions of the program as plain Lean functions, what their calls do, and what follows of it. Conditions: each theorem's own. -/
import Derived.Test.YtfimhaodgekkgaaDoorCTreeDoes4
import Derived.Test.YtfimhaodgekkgaaDoorCards
import Derived.Test.YtfimhaodgekkgaaDoorProg
import Derived.Test.YtfimhaodgekkgaaDoorRows
import Derived.Test.YtfimhaodgekkgaaDoorTie
namespace Go.Proofs.YtfimhaodgekkgaaDoor.QTre
open Go.RowKit Go.Proofs.YtfimhaodgekkgaaDoorW.PrintWords Go.Proofs.YtfimhaodgekkgaaDoorW.PrintLast Go.Proofs.YtfimhaodgekkgaaDoorW.PrintMore
open Go.Proofs.YtfimhaodgekkgaaDoor.Gen (Own Trn)
open Go.Proofs.YtfimhaodgekkgaaDoor.Pri (FitH roles bestOf role brid conv)
set_option linter.unusedVariables false
set_option linter.unusedSimpArgs false
set_option maxHeartbeats 8000000 in
set_option maxRecDepth 100000 in
theorem rsame_calls (base base2 g b cap gd bd capd ob ocap : Nat) (id : Int) (P : List S84) (best : S36) (root change : Int) (D : List RP) (cd now : Int) (opens : List Bool) (w : World) (ht : Tre w base g b cap id P best root change) (hd : RTre w base2 gd bd capd ob ocap id D cd opens) (hl : D.length = P.length) (hn : P.length ≤ 100) (hf : ∀ x ∈ D, FitQ x.q) (hT : ∀ (k : Nat) (h : k < D.length), D[k].q.turns.length ≤ 1000000) (hat : AtQ now (QS D)) (h1 : now ≤ 1000000000)
    (hr : ∀ (k : Nat) (h : k < D.length), roleAt P (k : Int) = (lastTn D[k].q.turns).1) (hst : ∀ (k : Nat) (h : k < D.length), stateAt P (k : Int) now = stT (lastTn D[k].q.turns) now) (hbe : best = (bestOf id (listQ D)).1) (hro : root = (bestOf id (listQ D)).2) :
    Calls Tryd.prog 29 #[.pointer (some ⟨g, 0, none⟩), .pointer (some ⟨gd, 0, none⟩), .int .i64 now] w fun e w' => e = .returned (.bool true) ∧ Below w.heap.size w w' := by
  have e45 : ∀ args w, (callFunc 45 args).run Tryd.prog w = .ok (.enter 45 args) w := enters_of Tryd.func45 (by kernel_rfl) rfl
  have e46 : ∀ args w, (callFunc 46 args).run Tryd.prog w = .ok (.enter 46 args) w := enters_of Tryd.func46 (by kernel_rfl) rfl
  have e44 : ∀ args w, (callFunc 44 args).run Tryd.prog w = .ok (.enter 44 args) w := enters_of Tryd.func44 (by kernel_rfl) rfl
  have e20 : ∀ args w, (callFunc 20 args).run Tryd.prog w = .ok (.enter 20 args) w := enters_of Tryd.func20 (by kernel_rfl) rfl
  have e24 : ∀ args w, (callFunc 24 args).run Tryd.prog w = .ok (.enter 24 args) w := enters_of Tryd.func24 (by kernel_rfl) rfl
  have e19 : ∀ args w, (callFunc 19 args).run Tryd.prog w = .ok (.enter 19 args) w := enters_of Tryd.func19 (by kernel_rfl) rfl
  have e21 : ∀ args w, (callFunc 21 args).run Tryd.prog w = .ok (.enter 21 args) w := enters_of Tryd.func21 (by kernel_rfl) rfl
  have e25 : ∀ args w, (callFunc 25 args).run Tryd.prog w = .ok (.enter 25 args) w := enters_of Tryd.func25 (by kernel_rfl) rfl
  have e26 : ∀ args w, (callFunc 26 args).run Tryd.prog w = .ok (.enter 26 args) w := enters_of Tryd.func26 (by kernel_rfl) rfl
  have mixed : Tryd.prog.follows .mixedOrders = true := by kernel_rfl
  have hu57 := Tryd.underlying57
  have hu62 := Tryd.underlying62
  have hu36 := Tryd.underlying36
  have HBE := Aside0.mk (rbest_calls base2 gd bd capd ob ocap id D cd opens w hd (by omega) hf)
  obtain ⟨ag, HAG⟩ : ∃ ag, Aside0 (ag = ageQ D (bestOf id (listQ D)).2) := ⟨_, ⟨rfl⟩⟩
  rw [← HAG.out] at HBE
  generalize bestOf id (listQ D) = B at HBE hbe hro
  subst hbe
  subst hro
  obtain ⟨⟨b0, b1, b2, b3⟩, br⟩ := B
  dsimp only at HBE ht
  have HT := Aside0.mk ht
  have HD := Aside0.mk hd
  have HL := Aside0.mk hl
  have HTN := Aside0.mk hT
  have HAT := Aside0.mk hat
  have HR := Aside0.mk hr
  have HST := Aside0.mk hst
  clear ht hd hl hT hat hr hst hf HAG
  go_enter Tryd.func29, Tryd.ntmps29
  go_upto_region 2 with (first
    | (go_at_fn 45; refine HBE.out.mono ?_; rintro e w11 ⟨rfl, h11⟩; have HB11 := Aside0.mk h11; clear h11)
    | (((with_reducible refine gate_dst (N := 7) rfl ?_); refine box_event ?hg (N := 7) ?hd (cs := #[.int .i64 0, .int .i64 0, .int .i64 0, .int .i64 0]) (t := 36) ?hr ?_; (case hd => rfl); (case hg => rfl); (case hr => first | (go_simp; done) | (go_simp; rfl)); intro vb hg w12 hbox hb; have hcz0 : w12.cell? ⟨vb, 0, none⟩ = some (.int .i64 0) := (blk_cell hbox 0).trans rfl; have hfz0 := blk_frozen hbox 0; have hcz1 : w12.cell? ⟨vb, 1, none⟩ = some (.int .i64 0) := (blk_cell hbox 1).trans rfl; have hfz1 := blk_frozen hbox 1; have hcz2 : w12.cell? ⟨vb, 2, none⟩ = some (.int .i64 0) := (blk_cell hbox 2).trans rfl; have hfz2 := blk_frozen hbox 2; have hcz3 : w12.cell? ⟨vb, 3, none⟩ = some (.int .i64 0) := (blk_cell hbox 3).trans rfl; have hfz3 := blk_frozen hbox 3; have BX := Aside0.mk hbox; have KX := Aside0.mk hb; have HGB := Aside0.mk hg; clear hbox hb hg)))
  have B14 : Below w.heap.size w ((((w12.setCell ⟨vb, 0, none⟩ (.int .i64 b0)).setCell ⟨vb, 1, none⟩ (.int .i64 b1)).setCell ⟨vb, 2, none⟩ (.int .i64 b2)).setCell ⟨vb, 3, none⟩ (.int .i64 b3)) := below_set (below_set (below_set (below_set (below_step HB11.out KX.out) (by rw [HGB.out]; exact HB11.out.size)) (by rw [HGB.out]; exact HB11.out.size)) (by rw [HGB.out]; exact HB11.out.size)) (by rw [HGB.out]; exact HB11.out.size)
  have X14 : ((((w12.setCell ⟨vb, 0, none⟩ (.int .i64 b0)).setCell ⟨vb, 1, none⟩ (.int .i64 b1)).setCell ⟨vb, 2, none⟩ (.int .i64 b2)).setCell ⟨vb, 3, none⟩ (.int .i64 b3)).heap[vb]? = some (.cells #[.int .i64 b0, .int .i64 b1, .int .i64 b2, .int .i64 b3] 36 (0, 0)) := by
    refine blk_put (cs := #[.int .i64 b0, .int .i64 b1, .int .i64 b2, .int .i64 0]) ?_ 3 _ rfl
    refine blk_put (cs := #[.int .i64 b0, .int .i64 b1, .int .i64 0, .int .i64 0]) ?_ 2 _ rfl
    refine blk_put (cs := #[.int .i64 b0, .int .i64 0, .int .i64 0, .int .i64 0]) ?_ 1 _ rfl
    exact blk_put BX.out 0 _ rfl
  generalize (((w12.setCell ⟨vb, 0, none⟩ (.int .i64 b0)).setCell ⟨vb, 1, none⟩ (.int .i64 b1)).setCell ⟨vb, 2, none⟩ (.int .i64 b2)).setCell ⟨vb, 3, none⟩ (.int .i64 b3) = w14 at B14 X14 ⊢
  clear hcz0 hfz0 hcz1 hfz1 hcz2 hfz2 hcz3 hfz3 BX KX HGB HB11 HBE
  have HB14 := Aside0.mk B14
  have HX4 := Aside0.mk X14
  have hg14 : w14.cell? ⟨gd, 1, none⟩ = some (.slice (some ⟨bd, 0, none⟩) P.length capd) := by
    have := (HD.out.below B14).cell
    rw [HL.out] at this
    exact (blk_cell this 1).trans rfl
  clear B14 X14
  go_wp2
  go_loopg [23] P.length (fun gk s23 wr => ∃ j : Nat, s23 = .int .i64 j ∧ j ≤ P.length ∧ P.length - j ≤ gk ∧ Aside0 (Below w14.heap.size w14 wr))
  case atStart => exact ⟨0, rfl, Nat.zero_le _, by omega, ⟨Below.refl _ _⟩⟩
  case round =>
    clear hg14
    obtain ⟨j, rfl, hjl, hgk, HBR⟩ := hrel
    have HBW := Aside0.mk (below_step HB14.out HBR.out)
    by_cases hlt : j < P.length
    · have hlz : (j : Int) < (P.length : Int) := by omega
      have hpl : j < D.length := by rw [HL.out]; exact hlt
      have htw := HD.out.below HBW.out
      obtain ⟨A3, c3, ev, hc3, hC3⟩ := Gen.R_open (HD.out.turns j hpl)
      obtain ⟨hx0, hx1, hx2, hx3, hx4, hx5, hx6, hx7, hx8, hx9, hx10⟩ := rcells htw.row j hpl
      rw [ev] at hx10
      have ha := HAT.out _ (List.mem_map.2 ⟨_, List.getElem_mem hpl, rfl⟩)
      have HRL := Aside0.mk (fun (W : World) (hb : Below w.heap.size w W) => role_calls (HT.out.below hb) (j : Int))
      have HSL := Aside0.mk (fun (W : World) (hb : Below w.heap.size w W) => state_calls (HT.out.below hb) (j : Int) now)
      have HTL := Aside0.mk (fun (W : World) (hb : Below w.heap.size w W) => trole_calls A3 c3 D[j].q.turns.length D[j].q.turns W rfl (Kd.C_below hC3 hb) hc3 (HTN.out j hpl))
      have HTS := Aside0.mk (fun (W : World) (hb : Below w.heap.size w W) => tstate_calls A3 c3 D[j].q.turns.length D[j].q.turns now W rfl (Kd.C_below hC3 hb) hc3 (HTN.out j hpl) ha.1 ha.2 h1)
      rw [HR.out j hpl] at HRL
      rw [HST.out j hpl] at HSL
      clear ev hc3 hC3 ha htw
      generalize (lastTn D[j].q.turns).1 = rl at *
      generalize stT (lastTn D[j].q.turns) now = sl at *
      generalize D[j].q = x at *
      obtain ⟨u, c, ⟨⟨v0, v1, v2, v3⟩, v4, v5, v6⟩, a, T⟩ := x
      dsimp only at hx0 hx1 hx2 hx3 hx4 hx5 hx6 hx7 hx8 hx9 hx10 HTL HTS
      generalize T.length = tl at *
      go_upto_region 5 with (((with_reducible refine gate_dst (N := 11) rfl ?_); refine box_event ?hg (N := 11) ?hd (cs := #[.bool false, .int .i64 0, .int .i64 0, .int .i64 0, .int .i64 0, .int .i64 0, .int .i64 0, .int .i64 0, .bool false, .int .i64 0, .slice none 0 0]) (t := 62) ?hr ?_; (case hd => rfl); (case hg => rfl); (case hr => first | (go_simp; done) | (go_simp; rfl)); intro pb hg w5 hbox hb; have hcz0 : w5.cell? ⟨pb, 0, none⟩ = some (.bool false) := (blk_cell hbox 0).trans rfl; have hfz0 := blk_frozen hbox 0; have hcz1 : w5.cell? ⟨pb, 1, none⟩ = some (.int .i64 0) := (blk_cell hbox 1).trans rfl; have hfz1 := blk_frozen hbox 1; have hcz2 : w5.cell? ⟨pb, 2, none⟩ = some (.int .i64 0) := (blk_cell hbox 2).trans rfl; have hfz2 := blk_frozen hbox 2; have hcz3 : w5.cell? ⟨pb, 3, none⟩ = some (.int .i64 0) := (blk_cell hbox 3).trans rfl; have hfz3 := blk_frozen hbox 3; have hcz4 : w5.cell? ⟨pb, 4, none⟩ = some (.int .i64 0) := (blk_cell hbox 4).trans rfl; have hfz4 := blk_frozen hbox 4; have hcz5 : w5.cell? ⟨pb, 5, none⟩ = some (.int .i64 0) := (blk_cell hbox 5).trans rfl; have hfz5 := blk_frozen hbox 5; have hcz6 : w5.cell? ⟨pb, 6, none⟩ = some (.int .i64 0) := (blk_cell hbox 6).trans rfl; have hfz6 := blk_frozen hbox 6; have hcz7 : w5.cell? ⟨pb, 7, none⟩ = some (.int .i64 0) := (blk_cell hbox 7).trans rfl; have hfz7 := blk_frozen hbox 7; have hcz8 : w5.cell? ⟨pb, 8, none⟩ = some (.bool false) := (blk_cell hbox 8).trans rfl; have hfz8 := blk_frozen hbox 8; have hcz9 : w5.cell? ⟨pb, 9, none⟩ = some (.int .i64 0) := (blk_cell hbox 9).trans rfl; have hfz9 := blk_frozen hbox 9; have hcz10 : w5.cell? ⟨pb, 10, none⟩ = some (.slice none 0 0) := (blk_cell hbox 10).trans rfl; have hfz10 := blk_frozen hbox 10; have BX := Aside0.mk hbox; have KX := Aside0.mk hb; have HGB := Aside0.mk hg; clear hbox hb hg))
      have B6 : Below wr.heap.size wr ((((((((((((w5.setCell ⟨pb, 0, none⟩ (.bool u)).setCell ⟨pb, 1, none⟩ (.int .i64 c)).setCell ⟨pb, 2, none⟩ (.int .i64 v0)).setCell ⟨pb, 3, none⟩ (.int .i64 v1)).setCell ⟨pb, 4, none⟩ (.int .i64 v2)).setCell ⟨pb, 5, none⟩ (.int .i64 v3)).setCell ⟨pb, 6, none⟩ (.int .i64 v4)).setCell ⟨pb, 7, none⟩ (.int .i64 v5)).setCell ⟨pb, 8, none⟩ (.bool v6)).setCell ⟨pb, 9, none⟩ (.int .i64 a)).setCell ⟨pb, 10, none⟩ (.slice A3 tl c3))) := lay62_bel _ _ _ _ _ _ _ _ _ _ _ KX.out (Nat.le_of_eq HGB.out.symm)
      have X6 : ((((((((((((w5.setCell ⟨pb, 0, none⟩ (.bool u)).setCell ⟨pb, 1, none⟩ (.int .i64 c)).setCell ⟨pb, 2, none⟩ (.int .i64 v0)).setCell ⟨pb, 3, none⟩ (.int .i64 v1)).setCell ⟨pb, 4, none⟩ (.int .i64 v2)).setCell ⟨pb, 5, none⟩ (.int .i64 v3)).setCell ⟨pb, 6, none⟩ (.int .i64 v4)).setCell ⟨pb, 7, none⟩ (.int .i64 v5)).setCell ⟨pb, 8, none⟩ (.bool v6)).setCell ⟨pb, 9, none⟩ (.int .i64 a)).setCell ⟨pb, 10, none⟩ (.slice A3 tl c3))).heap[pb]? = some (.cells #[.bool u, .int .i64 c, .int .i64 v0, .int .i64 v1, .int .i64 v2, .int .i64 v3, .int .i64 v4, .int .i64 v5, .bool v6, .int .i64 a, .slice A3 tl c3] 62 (0, 0)) := lay62_blk _ _ _ _ _ _ _ _ _ _ _ BX.out
      generalize ((((((((((((w5.setCell ⟨pb, 0, none⟩ (.bool u)).setCell ⟨pb, 1, none⟩ (.int .i64 c)).setCell ⟨pb, 2, none⟩ (.int .i64 v0)).setCell ⟨pb, 3, none⟩ (.int .i64 v1)).setCell ⟨pb, 4, none⟩ (.int .i64 v2)).setCell ⟨pb, 5, none⟩ (.int .i64 v3)).setCell ⟨pb, 6, none⟩ (.int .i64 v4)).setCell ⟨pb, 7, none⟩ (.int .i64 v5)).setCell ⟨pb, 8, none⟩ (.bool v6)).setCell ⟨pb, 9, none⟩ (.int .i64 a)).setCell ⟨pb, 10, none⟩ (.slice A3 tl c3))) = w6 at B6 X6 ⊢
      have HX6 := Aside0.mk X6
      have HB6 := Aside0.mk B6
      have HBW6 := Aside0.mk (below_step HBW.out B6)
      have HPB := Aside0.mk (fun (W : World) (hb : Below w6.heap.size w6 W) => ((blk_cell (blk_below HX6.out hb) 10).trans rfl : W.cell? ⟨pb, 10, none⟩ = some (.slice A3 tl c3)))
      have hp10 := HPB.out _ (Below.refl _ _)
      clear HBW
      have HBW := HBW6
      have hbw := Below.refl w6.heap.size w6
      clear B6 X6 hx0 hx1 hx2 hx3 hx4 hx5 hx6 hx7 hx8 hx9 hx10 hcz0 hfz0 hcz1 hfz1 hcz2 hfz2 hcz3 hfz3 hcz4 hfz4 hcz5 hfz5 hcz6 hfz6 hcz7 hfz7 hcz8 hfz8 hcz9 hfz9 hcz10 hfz10 BX KX HGB
      go_wp2_with fail
      go_region_held3 (fun W => W.cell? ⟨pb, 10, none⟩ = some (.slice A3 tl c3) ∧ Below w6.heap.size w6 W) (exact ⟨pw_cell_below (by repeat (with_reducible first | assumption | apply below_alloc | apply pw_below_drewN | apply below_drew1)) hp10, (by repeat (with_reducible first | assumption | apply below_alloc | apply pw_below_drewN | apply below_drew1))⟩) (first
                | (go_at_call 20; with_reducible refine (HRL.out _ (below_step HBW.out (by repeat (with_reducible first | assumption | apply below_alloc | apply pw_below_drewN | apply below_drew1)))).mono ?_; rintro e w20 ⟨rfl, hb⟩; have hb20 := below_step (show Below w6.heap.size w6 _ from (by repeat (with_reducible first | assumption | apply below_alloc | apply pw_below_drewN | apply below_drew1))) hb; clear hb)
                | (go_at_call 46; with_reducible refine (HTL.out _ (below_step HBW.out (by repeat (with_reducible first | assumption | apply below_alloc | apply pw_below_drewN | apply below_drew1)))).mono ?_; rintro e w46 ⟨rfl, hb⟩; have hb46 := below_step (show Below w6.heap.size w6 _ from (by repeat (with_reducible first | assumption | apply below_alloc | apply pw_below_drewN | apply below_drew1))) hb; clear hb)
                | (go_at_call 24; with_reducible refine (HSL.out _ (below_step HBW.out (by repeat (with_reducible first | assumption | apply below_alloc | apply pw_below_drewN | apply below_drew1)))).mono ?_; rintro e w24 ⟨rfl, hb⟩; have hb24 := below_step (show Below w6.heap.size w6 _ from (by repeat (with_reducible first | assumption | apply below_alloc | apply pw_below_drewN | apply below_drew1))) hb; clear hb)
                | (go_at_call 44; with_reducible refine (HTS.out _ (below_step HBW.out (by repeat (with_reducible first | assumption | apply below_alloc | apply pw_below_drewN | apply below_drew1)))).mono ?_; rintro e w44 ⟨rfl, hb⟩; have hb44 := below_step (show Below w6.heap.size w6 _ from (by repeat (with_reducible first | assumption | apply below_alloc | apply pw_below_drewN | apply below_drew1))) hb; clear hb))
      go_wp2_with fail
      go_roundg (P.length - (j + 1))
      case measure => omega
      case rel => exact ⟨j + 1, by go_num, by omega, Nat.le_refl _, ⟨below_step HBR.out (below_step HB6.out (by repeat (with_reducible first | assumption | apply below_alloc | apply pw_below_drewN | apply below_drew1)))⟩⟩
    · have e : j = P.length := by omega
      subst e
      have HB19 := Aside0.mk (fun (W : World) (hb : Below w.heap.size w W) => best_calls (HT.out.below hb))
      have HB21 := Aside0.mk (fun (W : World) (hb : Below w.heap.size w W) => (Calls.mono (root_calls (HT.out.below hb)) (fun e w' h => ⟨h.1, h.2 ▸ Below.refl _ _⟩) : Calls Tryd.prog 21 #[.pointer (some ⟨g, 0, none⟩)] W fun e w' => e = .returned (.int .i64 br) ∧ Below W.heap.size W w'))
      have HB25 := Aside0.mk (fun (W : World) (hb : Below w.heap.size w W) => (Calls.mono (id_calls (HT.out.below hb)) (fun e w' h => ⟨h.1, h.2 ▸ Below.refl _ _⟩) : Calls Tryd.prog 25 #[.pointer (some ⟨g, 0, none⟩)] W fun e w' => e = .returned (.int .i64 id) ∧ Below W.heap.size W w'))
      have HB26 := Aside0.mk (fun (W : World) (hb : Below w.heap.size w W) => (Calls.mono (ports_calls (HT.out.below hb)) (fun e w' h => ⟨h.1, h.2 ▸ Below.refl _ _⟩) : Calls Tryd.prog 26 #[.pointer (some ⟨g, 0, none⟩)] W fun e w' => e = .returned (.int .i64 P.length) ∧ Below W.heap.size W w'))
      have HVB := Aside0.mk (fun (W : World) (hb : Below wr.heap.size wr W) => have hv := blk_below HX4.out (below_step HBR.out hb); have h := (HD.out.below (below_step HBW.out hb)).cell; (⟨(blk_cell hv 0).trans rfl, (blk_cell hv 1).trans rfl, (blk_cell hv 2).trans rfl, (blk_cell hv 3).trans rfl, (blk_cell h 0).trans rfl, by rw [HL.out] at h; exact (blk_cell h 1).trans rfl⟩ : W.cell? ⟨vb, 0, none⟩ = some (.int .i64 b0) ∧ W.cell? ⟨vb, 1, none⟩ = some (.int .i64 b1) ∧ W.cell? ⟨vb, 2, none⟩ = some (.int .i64 b2) ∧ W.cell? ⟨vb, 3, none⟩ = some (.int .i64 b3) ∧ W.cell? ⟨gd, 0, none⟩ = some (.int .i64 id) ∧ W.cell? ⟨gd, 1, none⟩ = some (.slice (some ⟨bd, 0, none⟩) P.length capd)))
      have hbw := Below.refl wr.heap.size wr
      obtain ⟨hq0, hq1, hq2, hq3, hq4, hq5⟩ := HVB.out _ hbw
      go_wp2_with fail
      go_region_held3 (fun W => (W.cell? ⟨vb, 0, none⟩ = some (.int .i64 b0) ∧ W.cell? ⟨vb, 1, none⟩ = some (.int .i64 b1) ∧ W.cell? ⟨vb, 2, none⟩ = some (.int .i64 b2) ∧ W.cell? ⟨vb, 3, none⟩ = some (.int .i64 b3) ∧ W.cell? ⟨gd, 0, none⟩ = some (.int .i64 id) ∧ W.cell? ⟨gd, 1, none⟩ = some (.slice (some ⟨bd, 0, none⟩) P.length capd)) ∧ Below wr.heap.size wr W) (exact ⟨HVB.out _ (by repeat (with_reducible first | assumption | apply below_alloc | apply pw_below_drewN | apply below_drew1)), (by repeat (with_reducible first | assumption | apply below_alloc | apply pw_below_drewN | apply below_drew1))⟩) (first
            | (go_at_call 19; with_reducible refine (HB19.out _ (below_step HBW.out (by repeat (with_reducible first | assumption | apply below_alloc | apply pw_below_drewN | apply below_drew1)))).mono ?_; rintro e w19 ⟨rfl, hb⟩; have hb19 := below_step (show Below wr.heap.size wr _ from (by repeat (with_reducible first | assumption | apply below_alloc | apply pw_below_drewN | apply below_drew1))) hb; clear hb)
            | (go_at_call 21; with_reducible refine (HB21.out _ (below_step HBW.out (by repeat (with_reducible first | assumption | apply below_alloc | apply pw_below_drewN | apply below_drew1)))).mono ?_; rintro e w21 ⟨rfl, hb⟩; have hb21 := below_step (show Below wr.heap.size wr _ from (by repeat (with_reducible first | assumption | apply below_alloc | apply pw_below_drewN | apply below_drew1))) hb; clear hb)
            | (go_at_call 25; with_reducible refine (HB25.out _ (below_step HBW.out (by repeat (with_reducible first | assumption | apply below_alloc | apply pw_below_drewN | apply below_drew1)))).mono ?_; rintro e w25 ⟨rfl, hb⟩; have hb25 := below_step (show Below wr.heap.size wr _ from (by repeat (with_reducible first | assumption | apply below_alloc | apply pw_below_drewN | apply below_drew1))) hb; clear hb)
            | (go_at_call 26; with_reducible refine (HB26.out _ (below_step HBW.out (by repeat (with_reducible first | assumption | apply below_alloc | apply pw_below_drewN | apply below_drew1)))).mono ?_; rintro e w26 ⟨rfl, hb⟩; have hb26 := below_step (show Below wr.heap.size wr _ from (by repeat (with_reducible first | assumption | apply below_alloc | apply pw_below_drewN | apply below_drew1))) hb; clear hb))
      go_wp2_with fail
      go_ret
      exact ⟨rfl, below_step HBW.out (by repeat (with_reducible first | assumption | apply below_alloc | apply pw_below_drewN | apply below_drew1))⟩
end Go.Proofs.YtfimhaodgekkgaaDoor.QTre
namespace Go.Proofs.YtfimhaodgekkgaaDoor.QTre
open Go.RowKit Go.Proofs.YtfimhaodgekkgaaDoorW.PrintWords Go.Proofs.YtfimhaodgekkgaaDoorW.PrintLast Go.Proofs.YtfimhaodgekkgaaDoorW.PrintMore
set_option linter.unusedVariables false
set_option linter.unusedSimpArgs false
set_option maxHeartbeats 4000000 in
set_option maxRecDepth 100000 in
theorem nil_is (i : Int) (w : World) : Calls Tryd.prog 35 #[.pointer none, .int .i64 i] w fun e w' => e = .returned (.bool false) ∧ Below w.heap.size w w' := by
  go_enter Tryd.func35, Tryd.ntmps35
  go_wp2_with fail
  go_ret
  exact ⟨rfl, Below.refl _ _⟩
set_option maxHeartbeats 4000000 in
set_option maxRecDepth 100000 in
theorem nil_set (i : Int) (up : Bool) (cost now : Int) (w : World) : Calls Tryd.prog 15 #[.pointer none, .int .i64 i, .bool up, .int .i64 cost, .int .i64 now] w fun e w' => e = .returned (.int .i64 2) ∧ Below w.heap.size w w' := by
  go_enter Tryd.func15, Tryd.ntmps15
  go_wp2_with fail
  go_ret
  exact ⟨rfl, Below.refl _ _⟩
set_option maxHeartbeats 4000000 in
set_option maxRecDepth 100000 in
theorem nil_tick (now : Int) (w : World) : Calls Tryd.prog 17 #[.pointer none, .int .i64 now] w fun e w' => e = .returned (.slice none 0 0) ∧ Below w.heap.size w w' := by
  go_enter Tryd.func17, Tryd.ntmps17
  go_wp2_with fail
  go_ret
  exact ⟨rfl, Below.refl _ _⟩
set_option maxHeartbeats 4000000 in
set_option maxRecDepth 100000 in
theorem nil_role (i : Int) (w : World) : Calls Tryd.prog 20 #[.pointer none, .int .i64 i] w fun e w' => e = .returned (.int .i64 0) ∧ Below w.heap.size w w' := by
  have e35 : ∀ args w, (callFunc 35 args).run Tryd.prog w = .ok (.enter 35 args) w := enters_of Tryd.func35 (by kernel_rfl) rfl
  have HI := Aside0.mk (nil_is i w)
  go_enter Tryd.func20, Tryd.ntmps20
  go_wp2_with (go_at_fn 35; refine HI.out.mono ?_; rintro e w1 ⟨rfl, h1⟩; have HB1 := Aside0.mk h1; clear h1)
  go_ret
  exact ⟨rfl, HB1.out⟩
set_option maxHeartbeats 4000000 in
set_option maxRecDepth 100000 in
theorem nil_state (i now : Int) (w : World) : Calls Tryd.prog 24 #[.pointer none, .int .i64 i, .int .i64 now] w fun e w' => e = .returned (.int .i64 0) ∧ Below w.heap.size w w' := by
  have e35 : ∀ args w, (callFunc 35 args).run Tryd.prog w = .ok (.enter 35 args) w := enters_of Tryd.func35 (by kernel_rfl) rfl
  have HI := Aside0.mk (nil_is i w)
  go_enter Tryd.func24, Tryd.ntmps24
  go_wp2_with (go_at_fn 35; refine HI.out.mono ?_; rintro e w1 ⟨rfl, h1⟩; have HB1 := Aside0.mk h1; clear h1)
  go_ret
  exact ⟨rfl, HB1.out⟩
set_option maxHeartbeats 4000000 in
set_option maxRecDepth 100000 in
theorem nil_id (w : World) : Calls Tryd.prog 25 #[.pointer none] w fun e w' => e = .returned (.int .i64 0) ∧ Below w.heap.size w w' := by
  go_enter Tryd.func25, Tryd.ntmps25
  go_wp2_with fail
  go_ret
  exact ⟨rfl, Below.refl _ _⟩
set_option maxHeartbeats 4000000 in
set_option maxRecDepth 100000 in
theorem nil_ports (w : World) : Calls Tryd.prog 26 #[.pointer none] w fun e w' => e = .returned (.int .i64 0) ∧ Below w.heap.size w w' := by
  go_enter Tryd.func26, Tryd.ntmps26
  go_wp2_with fail
  go_ret
  exact ⟨rfl, Below.refl _ _⟩
set_option maxHeartbeats 4000000 in
set_option maxRecDepth 100000 in
theorem nil_root (w : World) : Calls Tryd.prog 21 #[.pointer none] w fun e w' => e = .returned (.int .i64 (-1)) ∧ Below w.heap.size w w' := by
  go_enter Tryd.func21, Tryd.ntmps21
  go_wp2_with fail
  go_ret
  exact ⟨rfl, Below.refl _ _⟩
set_option maxHeartbeats 4000000 in
set_option maxRecDepth 100000 in
theorem nil_best (w : World) : Calls Tryd.prog 19 #[.pointer none] w fun e w' => e = .returned (.agg #[.int .i64 0, .int .i64 0, .int .i64 0, .int .i64 0]) ∧ Below w.heap.size w w' := by
  have hu36 := Tryd.underlying36
  go_enter Tryd.func19, Tryd.ntmps19
  go_wp2_with ((with_reducible refine gate_dst (N := 2) rfl ?_); refine box_event ?hg (N := 2) ?hd (cs := #[.int .i64 0, .int .i64 0, .int .i64 0, .int .i64 0]) (t := 36) ?hr ?_; (case hd => rfl); (case hg => rfl); (case hr => first | (go_simp; done) | (go_simp; rfl)); intro gb hg w2 hbox hb; have HB := Aside0.mk hb; have BK := Aside0.mk hbox; have GE : Aside0 (w.heap.size ≤ gb) := ⟨Nat.le_of_eq hg.symm⟩; have hcz0 : w2.cell? ⟨gb, 0, none⟩ = some (.int .i64 0) := (blk_cell BK.out 0).trans rfl; have hcz1 : w2.cell? ⟨gb, 1, none⟩ = some (.int .i64 0) := (blk_cell BK.out 1).trans rfl; have hcz2 : w2.cell? ⟨gb, 2, none⟩ = some (.int .i64 0) := (blk_cell BK.out 2).trans rfl; have hcz3 : w2.cell? ⟨gb, 3, none⟩ = some (.int .i64 0) := (blk_cell BK.out 3).trans rfl; have hfz0 := blk_frozen BK.out 0; have hfz1 := blk_frozen BK.out 1; have hfz2 := blk_frozen BK.out 2; have hfz3 := blk_frozen BK.out 3; clear hb hbox hg)
  refine bodyPost_ret (results_cell_row rfl _ _ gb 36 #[.int .i64 0, .int .i64 0, .int .i64 0, .int .i64 0] (0, 0) _ rfl (by refine blk_put (cs := #[.int .i64 0, .int .i64 0, .int .i64 0, .int .i64 0]) ?_ 3 _ rfl; refine blk_put (cs := #[.int .i64 0, .int .i64 0, .int .i64 0, .int .i64 0]) ?_ 2 _ rfl; refine blk_put (cs := #[.int .i64 0, .int .i64 0, .int .i64 0, .int .i64 0]) ?_ 1 _ rfl; refine blk_put (cs := #[.int .i64 0, .int .i64 0, .int .i64 0, .int .i64 0]) ?_ 0 _ rfl; exact BK.out) Tryd.underlying36 rfl (by kernel_rfl)) rfl ?_
  exact ⟨rfl, below_set (below_set (below_set (below_set HB.out GE.out) GE.out) GE.out) GE.out⟩
def FitSd (s : S40) : Prop := Pri.Fit s.f1 ∧ Pri.Fit s.f3 ∧ FitB s.f4
abbrev Djd (g b g2 b2 ob2 : Nat) (D : List RP) : Prop := ∀ q, RF g2 b2 ob2 D q → ¬ TF g b q
theorem RTre.overd {w W : World} {base base' g b g2 b2 cap2 ob2 ocap2 : Nat} {w0 : World} {id change : Int} {D : List RP} {opens : List Bool} (h : RTre w base g2 b2 cap2 ob2 ocap2 id D change opens) (a : Gen.Trn base' w0 w (TF g b) (TF g b) W) (hd : Djd g b g2 b2 ob2 D) : RTre W base g2 b2 cap2 ob2 ocap2 id D change opens := h.kept a.kept hd
theorem Tre.overd {w W : World} {base base' g b cap g2 b2 ob2 : Nat} {w0 : World} {id root change : Int} {P : List S84} {best : S36} {D D2 : List RP} (h : Tre w base g b cap id P best root change) (a : Gen.Trn base' w0 w (RF g2 b2 ob2 D) (RF g2 b2 ob2 D2) W) (hd : Djd g b g2 b2 ob2 D) : Tre W base g b cap id P best root change :=
  h.kept a.kept (fun e => hd g e (.inl rfl)) (fun e => hd b e (.inr rfl))
theorem Djd.over {w W : World} {base base' g b cap g2 b2 ob2 : Nat} {w0 : World} {id root change : Int} {P : List S84} {best : S36} {D D2 : List RP} (hd : Djd g b g2 b2 ob2 D) (h : Tre w base g b cap id P best root change) (a : Gen.Trn base' w0 w (RF g2 b2 ob2 D) (RF g2 b2 ob2 D2) W) : Djd g b g2 b2 ob2 D2 := by
  intro q hq ht
  rcases a.own q hq with e | e
  · exact hd q e ht
  · have h1 := h.lt
    have h2 := h.row.lt
    rcases ht with rfl | rfl <;> omega
theorem eqA38 (d : Nat) (w : World) (x0 y0 x1 y1 x2 y2 x3 y3 x4 y4 x5 y5 : Int) (x6 y6 : Bool) :
    (Op.equalIn (d + 3) 38 (.agg #[.int .i64 x0, .int .i64 x1, .int .i64 x2, .int .i64 x3, .int .i64 x4, .int .i64 x5, .bool x6]) (.agg #[.int .i64 y0, .int .i64 y1, .int .i64 y2, .int .i64 y3, .int .i64 y4, .int .i64 y5, .bool y6])).run Tryd.prog w = .ok ((x0 == y0 && (x1 == y1 && (x2 == y2 && (x3 == y3)))) && (x4 == y4 && (x5 == y5 && (x6 == y6)))) w := by
  refine eqA_of Tryd.underlying38 (by kernel_rfl) ?_
  refine eqf_cons (by rfl) (by first | (go_simp; done) | (go_simp; rfl)) (by first | (go_simp; done) | (go_simp; rfl)) (eqA36 d w x0 y0 x1 y1 x2 y2 x3 y3) ?_
  refine eqf_cons (by rfl) (by go_simp; rfl) (by go_simp; rfl) (by go_simp) ?_
  refine eqf_cons (by rfl) (by go_simp; rfl) (by go_simp; rfl) (by go_simp) ?_
  exact eqf_last (by rfl) (by go_simp; rfl) (by go_simp; rfl) (by go_simp)
theorem neq38 (m : S38) (w : World) : (binOp .neq 38 (val38 m) (val38 m)).run Tryd.prog w = .ok (.bool false) w := by
  simp only [binOp]
  have h := eqA38 9997 w m.f0.f0 m.f0.f0 m.f0.f1 m.f0.f1 m.f0.f2 m.f0.f2 m.f0.f3 m.f0.f3 m.f1 m.f1 m.f2 m.f2 m.f3 m.f3
  simp only [beq_self_eq_true, Bool.and_self] at h
  simp [Op.equal, Op.maxDepth, val38, h]
set_option maxHeartbeats 8000000 in
set_option maxRecDepth 100000 in
theorem does_great (A : Option Addr) (c : Nat) (l : List S40) (id n : Int) (w : World) (hng : NG w) (h0 : 0 < w.heap.size) (hr : Kd.C k40 w A l.length l) (hc : l.length ≤ c) (hm : l.length ≤ maxLen) (h : greatB l = true) :
    Calls Tryd.prog 6 #[.int .i64 id, .int .i64 n, .slice A l.length c] w fun e w' => e = .returned (.bool true) ∧ Below w.heap.size w w' := by
  have e7 : ∀ args w, (callFunc 7 args).run Tryd.prog w = .ok (.enter 7 args) w := enters_of Tryd.func7 (by kernel_rfl) rfl
  have e12 : ∀ args w, (callFunc 12 args).run Tryd.prog w = .ok (.enter 12 args) w := enters_of Tryd.func12 (by kernel_rfl) rfl
  have HAL := Aside0.mk (alive_calls w hng h0)
  have HGR := Aside0.mk (fun (W : World) (hb : Below w.heap.size w W) => great_calls A c l W (Kd.C_below hr hb) hc hm)
  rw [h] at HGR
  clear h hr hng h0
  go_enter Tryd.func6, Tryd.ntmps6
  go_wp2_with (first
    | (go_at_fn 7; refine HAL.out.mono ?_; rintro e w1 ⟨rfl, hb1⟩; have HB1 := Aside0.mk hb1; clear hb1)
    | (go_at_fn 12; refine (HGR.out w1 HB1.out).mono ?_; rintro e w2 ⟨rfl, hb2⟩; have HB2 := Aside0.mk (below_step HB1.out hb2); clear hb2))
  go_ret
  exact ⟨rfl, HB2.out⟩
set_option maxHeartbeats 8000000 in
set_option maxRecDepth 100000 in
theorem does_nil (A : Option Addr) (c : Nat) (l : List S40) (id n : Int) (w : World) (hng : NG w) (h0 : 0 < w.heap.size) (hr : Kd.C k40 w A l.length l) (hc : l.length ≤ c) (hm : l.length ≤ maxLen) (hid : Pri.Fit id) (hg : greatB l = false) (h : Pri.brid id = false ∨ n < 1 ∨ 6 < n) :
    Calls Tryd.prog 6 #[.int .i64 id, .int .i64 n, .slice A l.length c] w fun e w' => e = .returned (.bool true) ∧ Below w.heap.size w w' := by
  have e7 : ∀ args w, (callFunc 7 args).run Tryd.prog w = .ok (.enter 7 args) w := enters_of Tryd.func7 (by kernel_rfl) rfl
  have e12 : ∀ args w, (callFunc 12 args).run Tryd.prog w = .ok (.enter 12 args) w := enters_of Tryd.func12 (by kernel_rfl) rfl
  have e13 : ∀ args w, (callFunc 13 args).run Tryd.prog w = .ok (.enter 13 args) w := enters_of Tryd.func13 (by kernel_rfl) rfl
  have e14 : ∀ args w, (callFunc 14 args).run Tryd.prog w = .ok (.enter 14 args) w := enters_of Tryd.func14 (by kernel_rfl) rfl
  have e15 : ∀ args w, (callFunc 15 args).run Tryd.prog w = .ok (.enter 15 args) w := enters_of Tryd.func15 (by kernel_rfl) rfl
  have e16 : ∀ args w, (callFunc 16 args).run Tryd.prog w = .ok (.enter 16 args) w := enters_of Tryd.func16 (by kernel_rfl) rfl
  have e17 : ∀ args w, (callFunc 17 args).run Tryd.prog w = .ok (.enter 17 args) w := enters_of Tryd.func17 (by kernel_rfl) rfl
  have e19 : ∀ args w, (callFunc 19 args).run Tryd.prog w = .ok (.enter 19 args) w := enters_of Tryd.func19 (by kernel_rfl) rfl
  have e20 : ∀ args w, (callFunc 20 args).run Tryd.prog w = .ok (.enter 20 args) w := enters_of Tryd.func20 (by kernel_rfl) rfl
  have e21 : ∀ args w, (callFunc 21 args).run Tryd.prog w = .ok (.enter 21 args) w := enters_of Tryd.func21 (by kernel_rfl) rfl
  have e24 : ∀ args w, (callFunc 24 args).run Tryd.prog w = .ok (.enter 24 args) w := enters_of Tryd.func24 (by kernel_rfl) rfl
  have e25 : ∀ args w, (callFunc 25 args).run Tryd.prog w = .ok (.enter 25 args) w := enters_of Tryd.func25 (by kernel_rfl) rfl
  have e26 : ∀ args w, (callFunc 26 args).run Tryd.prog w = .ok (.enter 26 args) w := enters_of Tryd.func26 (by kernel_rfl) rfl
  have hu36 := Tryd.underlying36
  have hu38 := Tryd.underlying38
  have HAL := Aside0.mk (alive_calls w hng h0)
  have HGR := Aside0.mk (fun (W : World) (hb : Below w.heap.size w W) => great_calls A c l W (Kd.C_below hr hb) hc hm)
  have HBR := Aside0.mk (fun W => rbridge_calls id hid W)
  have HNW := Aside0.mk (fun W => new_bad id n hid h W)
  have key : Pri.brid id = false ∨ (Pri.brid id = true ∧ n < 1) ∨ (Pri.brid id = true ∧ ¬ n < 1 ∧ 6 < n) := by
    rcases Bool.eq_false_or_eq_true (Pri.brid id) with h2 | h2
    · by_cases h3 : n < 1
      · exact .inr (.inl ⟨h2, h3⟩)
      · rw [h2] at h
        refine .inr (.inr ⟨h2, h3, ?_⟩)
        rcases h with h | h | h
        · cases h
        · exact absurd h h3
        · exact h
    · exact .inl h2
  rw [hg] at HGR
  clear h hr hid hng h0 hg
  rcases key with h2 | ⟨h2, h3⟩ | ⟨h2, h3, h4⟩
  all_goals
    rw [h2] at HBR
    clear h2
    go_enter Tryd.func6, Tryd.ntmps6
    go_wp2_with (first
      | (go_at_fn 7; refine HAL.out.mono ?_; rintro e w1 ⟨rfl, hb1⟩; have HB1 := Aside0.mk hb1; clear hb1)
      | (go_at_fn 12; refine (HGR.out w1 HB1.out).mono ?_; rintro e w2 ⟨rfl, hb2⟩; have HB2 := Aside0.mk (below_step HB1.out hb2); clear hb2)
      | (go_at_fn 14; refine (HNW.out _).mono ?_; rintro e w3 ⟨rfl, hb3⟩; have HB3 := Aside0.mk (below_step HB2.out hb3); clear hb3)
      | (go_at_fn 13; refine (HBR.out _).mono ?_; rintro e w4 ⟨rfl, hb4⟩; have HB4 := Aside0.mk (below_step HB3.out hb4); clear hb4)
      | (go_at_fn 15; refine (nil_set 0 true 1 0 _).mono ?_; rintro e w5 ⟨rfl, hb5⟩; have HB5 := Aside0.mk (below_step HB4.out hb5); clear hb5)
      | (go_at_fn 16; refine (hear_nil 0 ⟨⟨0, 0, 0, 0⟩, 0, 0, false⟩ 0 _).mono ?_; rintro e w6 ⟨rfl, hb6⟩; have HB6 := Aside0.mk (below_step HB5.out hb6); clear hb6)
      | (go_at_fn 17; refine (nil_tick 0 _).mono ?_; rintro e w7 ⟨rfl, hb7⟩; have HB7 := Aside0.mk (below_step HB6.out hb7); clear hb7)
      | (go_at_fn 20; refine (nil_role 0 _).mono ?_; rintro e w8 ⟨rfl, hb8⟩; have HB8 := Aside0.mk (below_step HB7.out hb8); clear hb8)
      | (go_at_fn 24; refine (nil_state 0 9 _).mono ?_; rintro e w9 ⟨rfl, hb9⟩; have HB9 := Aside0.mk (below_step HB8.out hb9); clear hb9)
      | (go_at_fn 25; refine (nil_id _).mono ?_; rintro e w10 ⟨rfl, hb10⟩; have HB10 := Aside0.mk (below_step HB9.out hb10); clear hb10)
      | (go_at_fn 26; refine (nil_ports _).mono ?_; rintro e w11 ⟨rfl, hb11⟩; have HB11 := Aside0.mk (below_step HB10.out hb11); clear hb11)
      | (go_at_fn 21; refine (nil_root _).mono ?_; rintro e w12 ⟨rfl, hb12⟩; have HB12 := Aside0.mk (below_step HB11.out hb12); clear hb12)
      | (go_at_fn 19; refine (nil_best _).mono ?_; rintro e w13 ⟨rfl, hb13⟩; have HB13 := Aside0.mk (below_step HB12.out hb13); clear hb13))
    go_ret
    exact ⟨rfl, HB13.out⟩
theorem same_sim {id : Int} {n i : Nat} {now : Int} {P : List S84} {best : S36} {root change cd : Int} {D : List RP} {opens : List Bool} {g b cap gd bd capd ob ocap base base2 : Nat} {w : World} (h : Sim id n i now P best root D) (hn : n ≤ 6) (hi : i ≤ 101) (ht : Tre w base g b cap id P best root change) (hd : RTre w base2 gd bd capd ob ocap id D cd opens) (h1 : now ≤ 1000000000) :
    Calls Tryd.prog 29 #[.pointer (some ⟨g, 0, none⟩), .pointer (some ⟨gd, 0, none⟩), .int .i64 now] w fun e w' => e = .returned (.bool true) ∧ Below w.heap.size w w' := by
  have hq := h.invQ.of
  have hl := h.dlen
  have hb := bst_eq h.sm id
  rw [h.bst] at hb
  exact rsame_calls base base2 g b cap gd bd capd ob ocap id P best root change D cd now opens w ht hd hl (by omega) hq.2.1 (fun k hk => by have := hq.2.2 k hk; omega) h.at_ h1 h.role (fun k hk => h.state k hk now) (congrArg (·.1) hb) (congrArg (·.2) hb)
end Go.Proofs.YtfimhaodgekkgaaDoor.QTre
namespace Go.Proofs.YtfimhaodgekkgaaDoor.QTre
open Go.RowKit Go.Proofs.YtfimhaodgekkgaaDoorW.PrintWords Go.Proofs.YtfimhaodgekkgaaDoorW.PrintLast Go.Proofs.YtfimhaodgekkgaaDoorW.PrintMore
open Go.Proofs.YtfimhaodgekkgaaDoor.Gen (Own Trn)
open Go.Proofs.YtfimhaodgekkgaaDoor.Pri (FitH roles bestOf role brid)
set_option linter.unusedVariables false
set_option linter.unusedSimpArgs false
attribute [local go_sem] max2_int min2_int max_two min_two
abbrev lay40 (W : World) (gb : Nat) (v0 v1 v2 v3 v4 v5 v6 v7 v8 v9 v10 v11 : Value) : World := ((((((((((((W.setCell ⟨gb, 0, none⟩ v0).setCell ⟨gb, 1, none⟩ v1).setCell ⟨gb, 2, none⟩ v2).setCell ⟨gb, 3, none⟩ v3).setCell ⟨gb, 4, none⟩ v4).setCell ⟨gb, 5, none⟩ v5).setCell ⟨gb, 6, none⟩ v6).setCell ⟨gb, 7, none⟩ v7).setCell ⟨gb, 8, none⟩ v8).setCell ⟨gb, 9, none⟩ v9).setCell ⟨gb, 10, none⟩ v10).setCell ⟨gb, 11, none⟩ v11)
theorem lay40_blk {W : World} {gb : Nat} (v0 v1 v2 v3 v4 v5 v6 v7 v8 v9 v10 v11 : Value) (h : W.heap[gb]? = some (.cells #[.int .i64 0, .int .i64 0, .bool false, .int .i64 0, .int .i64 0, .int .i64 0, .int .i64 0, .int .i64 0, .int .i64 0, .int .i64 0, .bool false, .int .i64 0] 40 (0, 0))) : (lay40 W gb v0 v1 v2 v3 v4 v5 v6 v7 v8 v9 v10 v11).heap[gb]? = some (.cells #[v0, v1, v2, v3, v4, v5, v6, v7, v8, v9, v10, v11] 40 (0, 0)) := by
  refine blk_put (cs := #[v0, v1, v2, v3, v4, v5, v6, v7, v8, v9, v10, .int .i64 0]) ?_ 11 _ rfl
  refine blk_put (cs := #[v0, v1, v2, v3, v4, v5, v6, v7, v8, v9, .bool false, .int .i64 0]) ?_ 10 _ rfl
  refine blk_put (cs := #[v0, v1, v2, v3, v4, v5, v6, v7, v8, .int .i64 0, .bool false, .int .i64 0]) ?_ 9 _ rfl
  refine blk_put (cs := #[v0, v1, v2, v3, v4, v5, v6, v7, .int .i64 0, .int .i64 0, .bool false, .int .i64 0]) ?_ 8 _ rfl
  refine blk_put (cs := #[v0, v1, v2, v3, v4, v5, v6, .int .i64 0, .int .i64 0, .int .i64 0, .bool false, .int .i64 0]) ?_ 7 _ rfl
  refine blk_put (cs := #[v0, v1, v2, v3, v4, v5, .int .i64 0, .int .i64 0, .int .i64 0, .int .i64 0, .bool false, .int .i64 0]) ?_ 6 _ rfl
  refine blk_put (cs := #[v0, v1, v2, v3, v4, .int .i64 0, .int .i64 0, .int .i64 0, .int .i64 0, .int .i64 0, .bool false, .int .i64 0]) ?_ 5 _ rfl
  refine blk_put (cs := #[v0, v1, v2, v3, .int .i64 0, .int .i64 0, .int .i64 0, .int .i64 0, .int .i64 0, .int .i64 0, .bool false, .int .i64 0]) ?_ 4 _ rfl
  refine blk_put (cs := #[v0, v1, v2, .int .i64 0, .int .i64 0, .int .i64 0, .int .i64 0, .int .i64 0, .int .i64 0, .int .i64 0, .bool false, .int .i64 0]) ?_ 3 _ rfl
  refine blk_put (cs := #[v0, v1, .bool false, .int .i64 0, .int .i64 0, .int .i64 0, .int .i64 0, .int .i64 0, .int .i64 0, .int .i64 0, .bool false, .int .i64 0]) ?_ 2 _ rfl
  refine blk_put (cs := #[v0, .int .i64 0, .bool false, .int .i64 0, .int .i64 0, .int .i64 0, .int .i64 0, .int .i64 0, .int .i64 0, .int .i64 0, .bool false, .int .i64 0]) ?_ 1 _ rfl
  refine blk_put (cs := #[.int .i64 0, .int .i64 0, .bool false, .int .i64 0, .int .i64 0, .int .i64 0, .int .i64 0, .int .i64 0, .int .i64 0, .int .i64 0, .bool false, .int .i64 0]) ?_ 0 _ rfl
  exact h
theorem lay40_bel {w W : World} {gb : Nat} (v0 v1 v2 v3 v4 v5 v6 v7 v8 v9 v10 v11 : Value) (h : Below w.heap.size w W) (hg : w.heap.size ≤ gb) : Below w.heap.size w (lay40 W gb v0 v1 v2 v3 v4 v5 v6 v7 v8 v9 v10 v11) := (below_set (below_set (below_set (below_set (below_set (below_set (below_set (below_set (below_set (below_set (below_set (below_set h hg) hg) hg) hg) hg) hg) hg) hg) hg) hg) hg) hg)
end Go.Proofs.YtfimhaodgekkgaaDoor.QTre
namespace Go.Proofs.YtfimhaodgekkgaaDoor.QTre
open Go.RowKit Go.Proofs.YtfimhaodgekkgaaDoorW.PrintWords Go.Proofs.YtfimhaodgekkgaaDoorW.PrintLast Go.Proofs.YtfimhaodgekkgaaDoorW.PrintMore
open Go.Proofs.YtfimhaodgekkgaaDoor.Gen (Own Trn)
open Go.Proofs.YtfimhaodgekkgaaDoor.Pri (FitH roles bestOf role brid)
set_option linter.unusedVariables false
set_option linter.unusedSimpArgs false
theorem cells38 {w : World} {A : Option Addr} {n : Nat} {xs : List S38} (h : Kd.C k38 w A n xs) (i : Nat) (h1 : i < xs.length) (hn : xs.length = n) : ∃ ad, A = some ad ∧ ∀ j u, (enc38 xs[i])[j]? = some u → w.cell? (ad.add (i * 7 + j)) = some u := by
  obtain ⟨ad, c, e, _, hK, hc0⟩ := Kd.C_get h z38 (i : Int) (by omega) (by omega)
  have hc : ∀ j u, c[j]? = some u → w.cell? (ad.add (((i : Int)).toNat * 7 + j)) = some u := hc0
  obtain rfl := k38_open hK
  rw [Int.toNat_natCast] at hc
  refine ⟨ad, e, fun j u hu => hc j u ?_⟩
  rw [List.getD_eq_getElem?_getD, List.getElem?_eq_getElem h1]
  exact hu
theorem tickL_len (id now : Int) (P : List S84) (change : Int) : (tickL id now P change).length ≤ P.length := by
  unfold tickL
  split
  · refine Nat.le_trans (saidFrom_len _ _ _ _ _ _) ?_
    rw [List.length_map, updN_len, List.length_map]
    exact Nat.le_refl _
  · exact Nat.zero_le _
theorem dtick_sim {id : Int} {n i : Nat} {now T : Int} {P : List S84} {best : S36} {root change : Int} {D : List RP} (h : Sim id n i now P best root D) (hn : n ≤ 6) (hi : i ≤ 100) (h0 : 0 ≤ now) (hT : now ≤ T) (h1 : T ≤ 1000000000) (base g b cap ob ocap : Nat) (w0 w : World) (hB : Below base w0 w) (hs : base ≤ w.heap.size) (ht : RTre w base g b cap ob ocap id D change (opn P)) :
    Calls Tryd.prog 28 #[.pointer (some ⟨g, 0, none⟩), .int .i64 T] w fun e w' => ∃ (vp vs : Value), e = .returned (.tuple #[vp, vs]) ∧ ∃ P2 : List RP, Kd.R (Kd.int .i64) 3 w' w.heap.size (fun _ => True) vp ((tickL id T P change).map (·.f0)) ∧ Kd.R k38 38 w' w.heap.size (fun _ => True) vs ((tickL id T P change).map (·.f1)) ∧ RTre w' base g b cap ob ocap id P2 (tickC id T P change) (opn (tickP id T P)) ∧ Sim id n (i + 1) T (tickP id T P) (tickB id T P).1 (tickB id T P).2 P2 ∧ Trn base w0 w (RF g b ob D) (RF g b ob P2) w' := by
  have hq := h.invQ.of
  have hl := h.dlen
  have hop : (opn P).length = D.length := by rw [List.length_map, hl]
  refine (rtick_calls base g b cap ob ocap id D change T (opn P) w0 w hB hs ht (by omega) hop hq.2.1 (fun k hk => by have := hq.2.2 k hk; omega) (by omega) h1 (fun x hx => by have := h.at_ x hx; omega)).mono ?_
  rintro e w' ⟨vp, vs, rfl, P2, h2, h3, h4, h5, h6⟩
  have e1 := tickL_eq h.sm id T change h5
  have e2 := tickC_eq h.sm id T change
  have e3 := opn_tick h.sm id T
  rw [← e1] at h2 h3
  rw [← e2, ← e3] at h4
  refine ⟨vp, vs, rfl, P2, h2, h3, h4, ⟨h.invF.tick hT (by omega), by rw [h5]; exact h.invQ.tick id T, by rw [h5]; exact h.sm.tick id T, ?_⟩, h6⟩
  rw [bst_tick]
theorem nat_stepd (i : Nat) (h : i < 1000000) : wrap64 ((i : Int) + 1) = ((i + 1 : Nat) : Int) := by rw [IntWalk.wrap64_in _ (by omega)]; omega
theorem opn_new (n : Nat) : opn (List.replicate n port0) = List.replicate n false := by unfold opn; rw [List.map_replicate]; rfl
set_option maxHeartbeats 16000000 in
set_option maxRecDepth 100000 in
theorem does_walk (A : Option Addr) (c : Nat) (l : List S40) (id : Int) (n : Nat) (w : World) (hng : NG w) (h0 : 0 < w.heap.size) (hr : Kd.C k40 w A l.length l) (hc : l.length ≤ c) (hid : Pri.Fit id) (hfs : ∀ s ∈ l, FitSd s) (hg : greatB l = false) (hb : brid id = true) (hn1 : 1 ≤ n) (hn6 : n ≤ 6) :
    Calls Tryd.prog 6 #[.int .i64 id, .int .i64 n, .slice A l.length c] w fun e w' => e = .returned (.bool true) ∧ Below w.heap.size w w' := by
  have e7 : ∀ args w, (callFunc 7 args).run Tryd.prog w = .ok (.enter 7 args) w := enters_of Tryd.func7 (by kernel_rfl) rfl
  have e12 : ∀ args w, (callFunc 12 args).run Tryd.prog w = .ok (.enter 12 args) w := enters_of Tryd.func12 (by kernel_rfl) rfl
  have e13 : ∀ args w, (callFunc 13 args).run Tryd.prog w = .ok (.enter 13 args) w := enters_of Tryd.func13 (by kernel_rfl) rfl
  have e14 : ∀ args w, (callFunc 14 args).run Tryd.prog w = .ok (.enter 14 args) w := enters_of Tryd.func14 (by kernel_rfl) rfl
  have e15 : ∀ args w, (callFunc 15 args).run Tryd.prog w = .ok (.enter 15 args) w := enters_of Tryd.func15 (by kernel_rfl) rfl
  have e16 : ∀ args w, (callFunc 16 args).run Tryd.prog w = .ok (.enter 16 args) w := enters_of Tryd.func16 (by kernel_rfl) rfl
  have e17 : ∀ args w, (callFunc 17 args).run Tryd.prog w = .ok (.enter 17 args) w := enters_of Tryd.func17 (by kernel_rfl) rfl
  have e20 : ∀ args w, (callFunc 20 args).run Tryd.prog w = .ok (.enter 20 args) w := enters_of Tryd.func20 (by kernel_rfl) rfl
  have e22 : ∀ args w, (callFunc 22 args).run Tryd.prog w = .ok (.enter 22 args) w := enters_of Tryd.func22 (by kernel_rfl) rfl
  have e23 : ∀ args w, (callFunc 23 args).run Tryd.prog w = .ok (.enter 23 args) w := enters_of Tryd.func23 (by kernel_rfl) rfl
  have e24 : ∀ args w, (callFunc 24 args).run Tryd.prog w = .ok (.enter 24 args) w := enters_of Tryd.func24 (by kernel_rfl) rfl
  have e27 : ∀ args w, (callFunc 27 args).run Tryd.prog w = .ok (.enter 27 args) w := enters_of Tryd.func27 (by kernel_rfl) rfl
  have e28 : ∀ args w, (callFunc 28 args).run Tryd.prog w = .ok (.enter 28 args) w := enters_of Tryd.func28 (by kernel_rfl) rfl
  have e29 : ∀ args w, (callFunc 29 args).run Tryd.prog w = .ok (.enter 29 args) w := enters_of Tryd.func29 (by kernel_rfl) rfl
  have mixed : Tryd.prog.follows .mixedOrders = true := by kernel_rfl
  have hu36 := Tryd.underlying36
  have hu38 := Tryd.underlying38
  have hu40 := Tryd.underlying40
  have hu62 := Tryd.underlying62
  obtain ⟨hl1, hwt⟩ := great_no hg
  have HAL := Aside0.mk (alive_calls w hng h0)
  have HGR := Aside0.mk (fun (W : World) (hb : Below w.heap.size w W) => great_calls A c l W (Kd.C_below hr hb) hc (by unfold maxLen; omega))
  have HBR := Aside0.mk (fun W => rbridge_calls id hid W)
  rw [hg] at HGR
  rw [hb] at HBR
  have HNG := Aside0.mk hng
  have HZ := Aside0.mk h0
  have HNW := Aside0.mk (fun (W : World) (hb' : Below w.heap.size w W) => new_ok id n hid hb hn1 hn6 W (hng.below hb' h0) (Nat.lt_of_lt_of_le h0 hb'.size))
  have HRN := Aside0.mk (fun W => rnew_calls id n hn1 hn6 W)
  have hz1 : ¬ (n : Int) < 1 := by omega
  have hz6 : ¬ 6 < (n : Int) := by omega
  have HR := Aside0.mk hr
  have HFS := Aside0.mk hfs
  have HWT := Aside0.mk hwt
  have HN6 := Aside0.mk hn6
  have HN1 := Aside0.mk hn1
  clear hr hng h0 hg hb hid hfs hwt hn1 hn6
  go_enter Tryd.func6, Tryd.ntmps6
  go_wp2_with (first
    | (go_at_fn 7; refine HAL.out.mono ?_; rintro e w1 ⟨rfl, hb1⟩; have HB1 := Aside0.mk hb1; clear hb1)
    | (go_at_fn 12; refine (HGR.out w1 HB1.out).mono ?_; rintro e w2 ⟨rfl, hb2⟩; have HB2 := Aside0.mk (below_step HB1.out hb2); clear hb2)
    | (go_at_fn 14; refine (HNW.out _ HB2.out).mono ?_; rintro e w4 ⟨g, b, cap, rfl, ht4, hb4⟩; have HT4 := Aside0.mk (ht4.lower HB2.out.size); have HB4 := Aside0.mk (below_step HB2.out hb4); clear ht4 hb4)
    | (go_at_fn 13; refine (HBR.out _).mono ?_; rintro e w3 ⟨rfl, hb3⟩; have HT3 := Aside0.mk (HT4.out.below hb3); have HB3 := Aside0.mk (below_step HB4.out hb3); clear hb3)
    | (go_at_fn 22; refine (HRN.out _).mono ?_; rintro e w5 ⟨g2, b2, cap2, ob2, ocap2, rfl, ht5, hb5⟩; have HT5 := Aside0.mk (HT3.out.below hb5); have HR5 := Aside0.mk (ht5.lower HB3.out.size); have HDJ5 := Aside0.mk (show Djd g b g2 b2 ob2 (List.replicate n rp0) from fun q hq htf => by have h1 := ht5.low_all q hq; have h2 := HT3.out.lt; have h3 := HT3.out.row.lt; rcases htf with rfl | rfl <;> omega); have HB5 := Aside0.mk (below_step HB3.out hb5); clear ht5 hb5))
  go_loopg [9, 83] l.length (fun gk s9 s83 wr => ∃ (i : Nat) (now : Int) (P : List S84) (best : S36) (root change : Int) (D : List RP), s83 = .int .i64 i ∧ s9 = .int .i64 now ∧ i ≤ l.length ∧ l.length - i ≤ gk ∧ 0 ≤ now ∧ now ≤ i * 1000 ∧ Aside0 (Tre wr w.heap.size g b cap id P best root change) ∧ Aside0 (RTre wr w.heap.size g2 b2 cap2 ob2 ocap2 id D change (opn P)) ∧ Aside0 (Sim id n i now P best root D) ∧ Aside0 (Djd g b g2 b2 ob2 D) ∧ Aside0 (Below w.heap.size w wr))
  case atStart => exact ⟨0, 0, _, _, _, _, _, rfl, rfl, Nat.zero_le _, by omega, by omega, by omega, HT5, ⟨by rw [opn_new]; exact HR5.out⟩, ⟨Sim.new id n⟩, HDJ5, HB5⟩
  case round =>
    obtain ⟨i, now, P, best, root, change, D, rfl, rfl, hil, hgk, hw0, hw1, HT, HRT, HI, HDJ, HB⟩ := hrel
    by_cases hlt : i < l.length
    · have hlz : (i : Int) < (l.length : Int) := by omega
      obtain ⟨ad, ea, hx0, hx1, hx2, hx3, hx4, hx5, hx6, hx7, hx8, hx9, hx10, hx11⟩ := at_T40 (Kd.C_below HR.out HB.out) (i : Int) (by omega) hlz
      rw [rd40 hlt, Int.toNat_natCast] at hx0 hx1 hx2 hx3 hx4 hx5 hx6 hx7 hx8 hx9 hx10 hx11
      subst ea
      have hfx := HFS.out _ (List.getElem_mem hlt)
      have hwx := HWT.out _ (List.getElem_mem hlt)
      generalize l[i] = x at *
      obtain ⟨x0, x1, x2, x3, ⟨⟨y0, y1, y2, y3⟩, y4, y5, y6⟩, x5⟩ := x
      dsimp only at hx0 hx1 hx2 hx3 hx4 hx5 hx6 hx7 hx8 hx9 hx10 hx11 hwx
      have HFX := Aside0.mk hfx
      clear hfx
      go_upto_region 13 with ((with_reducible refine gate_dst (N := 11) rfl ?_); refine box_event ?hg (N := 11) ?hd (cs := #[.int .i64 0, .int .i64 0, .bool false, .int .i64 0, .int .i64 0, .int .i64 0, .int .i64 0, .int .i64 0, .int .i64 0, .int .i64 0, .bool false, .int .i64 0]) (t := 40) ?hr ?_; (case hd => rfl); (case hg => rfl); (case hr => first | (go_simp; done) | (go_simp; rfl)); intro cb hg w4 hbox hb; have hcz0 : w4.cell? ⟨cb, 0, none⟩ = some (.int .i64 0) := (blk_cell hbox 0).trans rfl; have hfz0 := blk_frozen hbox 0; have hcz1 : w4.cell? ⟨cb, 1, none⟩ = some (.int .i64 0) := (blk_cell hbox 1).trans rfl; have hfz1 := blk_frozen hbox 1; have hcz2 : w4.cell? ⟨cb, 2, none⟩ = some (.bool false) := (blk_cell hbox 2).trans rfl; have hfz2 := blk_frozen hbox 2; have hcz3 : w4.cell? ⟨cb, 3, none⟩ = some (.int .i64 0) := (blk_cell hbox 3).trans rfl; have hfz3 := blk_frozen hbox 3; have hcz4 : w4.cell? ⟨cb, 4, none⟩ = some (.int .i64 0) := (blk_cell hbox 4).trans rfl; have hfz4 := blk_frozen hbox 4; have hcz5 : w4.cell? ⟨cb, 5, none⟩ = some (.int .i64 0) := (blk_cell hbox 5).trans rfl; have hfz5 := blk_frozen hbox 5; have hcz6 : w4.cell? ⟨cb, 6, none⟩ = some (.int .i64 0) := (blk_cell hbox 6).trans rfl; have hfz6 := blk_frozen hbox 6; have hcz7 : w4.cell? ⟨cb, 7, none⟩ = some (.int .i64 0) := (blk_cell hbox 7).trans rfl; have hfz7 := blk_frozen hbox 7; have hcz8 : w4.cell? ⟨cb, 8, none⟩ = some (.int .i64 0) := (blk_cell hbox 8).trans rfl; have hfz8 := blk_frozen hbox 8; have hcz9 : w4.cell? ⟨cb, 9, none⟩ = some (.int .i64 0) := (blk_cell hbox 9).trans rfl; have hfz9 := blk_frozen hbox 9; have hcz10 : w4.cell? ⟨cb, 10, none⟩ = some (.bool false) := (blk_cell hbox 10).trans rfl; have hfz10 := blk_frozen hbox 10; have hcz11 : w4.cell? ⟨cb, 11, none⟩ = some (.int .i64 0) := (blk_cell hbox 11).trans rfl; have hfz11 := blk_frozen hbox 11; have BX := Aside0.mk hbox; have KX := Aside0.mk hb; have HGB := Aside0.mk hg; clear hbox hb hg)
      have B5 : Below wr.heap.size wr ((((((((((((w4.setCell ⟨cb, 0, none⟩ (.int .i64 x0)).setCell ⟨cb, 1, none⟩ (.int .i64 x1)).setCell ⟨cb, 2, none⟩ (.bool x2)).setCell ⟨cb, 3, none⟩ (.int .i64 x3)).setCell ⟨cb, 4, none⟩ (.int .i64 y0)).setCell ⟨cb, 5, none⟩ (.int .i64 y1)).setCell ⟨cb, 6, none⟩ (.int .i64 y2)).setCell ⟨cb, 7, none⟩ (.int .i64 y3)).setCell ⟨cb, 8, none⟩ (.int .i64 y4)).setCell ⟨cb, 9, none⟩ (.int .i64 y5)).setCell ⟨cb, 10, none⟩ (.bool y6)).setCell ⟨cb, 11, none⟩ (.int .i64 x5)) := lay40_bel (.int .i64 x0) (.int .i64 x1) (.bool x2) (.int .i64 x3) (.int .i64 y0) (.int .i64 y1) (.int .i64 y2) (.int .i64 y3) (.int .i64 y4) (.int .i64 y5) (.bool y6) (.int .i64 x5) KX.out (Nat.le_of_eq HGB.out.symm)
      have X5 : ((((((((((((w4.setCell ⟨cb, 0, none⟩ (.int .i64 x0)).setCell ⟨cb, 1, none⟩ (.int .i64 x1)).setCell ⟨cb, 2, none⟩ (.bool x2)).setCell ⟨cb, 3, none⟩ (.int .i64 x3)).setCell ⟨cb, 4, none⟩ (.int .i64 y0)).setCell ⟨cb, 5, none⟩ (.int .i64 y1)).setCell ⟨cb, 6, none⟩ (.int .i64 y2)).setCell ⟨cb, 7, none⟩ (.int .i64 y3)).setCell ⟨cb, 8, none⟩ (.int .i64 y4)).setCell ⟨cb, 9, none⟩ (.int .i64 y5)).setCell ⟨cb, 10, none⟩ (.bool y6)).setCell ⟨cb, 11, none⟩ (.int .i64 x5)).heap[cb]? = some (.cells #[.int .i64 x0, .int .i64 x1, .bool x2, .int .i64 x3, .int .i64 y0, .int .i64 y1, .int .i64 y2, .int .i64 y3, .int .i64 y4, .int .i64 y5, .bool y6, .int .i64 x5] 40 (0, 0)) := lay40_blk (.int .i64 x0) (.int .i64 x1) (.bool x2) (.int .i64 x3) (.int .i64 y0) (.int .i64 y1) (.int .i64 y2) (.int .i64 y3) (.int .i64 y4) (.int .i64 y5) (.bool y6) (.int .i64 x5) BX.out
      have hcg : wr.heap.size ≤ cb := Nat.le_of_eq HGB.out.symm
      generalize ((((((((((((w4.setCell ⟨cb, 0, none⟩ (.int .i64 x0)).setCell ⟨cb, 1, none⟩ (.int .i64 x1)).setCell ⟨cb, 2, none⟩ (.bool x2)).setCell ⟨cb, 3, none⟩ (.int .i64 x3)).setCell ⟨cb, 4, none⟩ (.int .i64 y0)).setCell ⟨cb, 5, none⟩ (.int .i64 y1)).setCell ⟨cb, 6, none⟩ (.int .i64 y2)).setCell ⟨cb, 7, none⟩ (.int .i64 y3)).setCell ⟨cb, 8, none⟩ (.int .i64 y4)).setCell ⟨cb, 9, none⟩ (.int .i64 y5)).setCell ⟨cb, 10, none⟩ (.bool y6)).setCell ⟨cb, 11, none⟩ (.int .i64 x5)) = w5 at B5 X5 ⊢
      have hz0 : w5.cell? ⟨cb, 0, none⟩ = some (.int .i64 x0) := (blk_cell X5 0).trans rfl
      have hz1 : w5.cell? ⟨cb, 1, none⟩ = some (.int .i64 x1) := (blk_cell X5 1).trans rfl
      have hz2 : w5.cell? ⟨cb, 2, none⟩ = some (.bool x2) := (blk_cell X5 2).trans rfl
      have hz3 : w5.cell? ⟨cb, 3, none⟩ = some (.int .i64 x3) := (blk_cell X5 3).trans rfl
      have hz4 : w5.cell? ⟨cb, 4, none⟩ = some (.int .i64 y0) := (blk_cell X5 4).trans rfl
      have hz5 : w5.cell? ⟨cb, 5, none⟩ = some (.int .i64 y1) := (blk_cell X5 5).trans rfl
      have hz6 : w5.cell? ⟨cb, 6, none⟩ = some (.int .i64 y2) := (blk_cell X5 6).trans rfl
      have hz7 : w5.cell? ⟨cb, 7, none⟩ = some (.int .i64 y3) := (blk_cell X5 7).trans rfl
      have hz8 : w5.cell? ⟨cb, 8, none⟩ = some (.int .i64 y4) := (blk_cell X5 8).trans rfl
      have hz9 : w5.cell? ⟨cb, 9, none⟩ = some (.int .i64 y5) := (blk_cell X5 9).trans rfl
      have hz10 : w5.cell? ⟨cb, 10, none⟩ = some (.bool y6) := (blk_cell X5 10).trans rfl
      have hz11 : w5.cell? ⟨cb, 11, none⟩ = some (.int .i64 x5) := (blk_cell X5 11).trans rfl
      have hcRF : ¬ RF g2 b2 ob2 D cb := fun h => by have := HRT.out.lt cb h; omega
      have HCR := Aside0.mk hcRF
      clear hcRF
      have hcTF : ¬ TF g b cb := fun h => by have h1 := HT.out.lt; have h2 := HT.out.row.lt; rcases h with e | e <;> omega
      have HCT := Aside0.mk hcTF
      have HB5 := Aside0.mk (below_step HB.out B5)
      have HT5 := Aside0.mk (HT.out.below B5)
      have HR5 := Aside0.mk (HRT.out.below B5)
      clear hcz0 hfz0 hcz1 hfz1 hcz2 hfz2 hcz3 hfz3 hcz4 hfz4 hcz5 hfz5 hcz6 hfz6 hcz7 hfz7 hcz8 hfz8 hcz9 hfz9 hcz10 hfz10 hcz11 hfz11 BX KX HGB X5 B5 hx0 hx1 hx2 hx3 hx4 hx5 hx6 hx7 hx8 hx9 hx10 hx11 HT HRT HB hcTF hcg
      have hpl : P.length ≤ 100 := by have := HI.out.invF.len; have := HN6.out; omega
      have hpl1 : 1 ≤ P.length := by have := HI.out.invF.len; have := HN1.out; omega
      have HPL := Aside0.mk hpl
      have HPL1 := Aside0.mk hpl1
      clear hpl hpl1
      have HQO := Aside0.mk HI.out.invQ.of
      by_cases q0 : x0 = 0
      · subst q0
        have HS := Aside0.mk (fun (W : World) (hd : Below w5.heap.size w5 W) => Calls.mono (set_calls w.heap.size g b cap id P best root change now w W (below_step HB5.out hd) (below_step HB5.out hd).size HZ.out HNG.out (HT5.out.below hd) HPL.out HI.out.invF.fit x1 x2 x3) (fun e w' h => And.intro hd h))
        have HDS := Aside0.mk (fun (W : World) (hB : Below w.heap.size w W) (ht : RTre W w.heap.size g2 b2 cap2 ob2 ocap2 id D change (opn P)) => dset_calls w.heap.size g2 b2 cap2 ob2 ocap2 id D change now (opn P) w W hB hB.size ht (by have := HQO.out.1; have := HN6.out; omega) HQO.out.2.1 (fun k hk => by have := HQO.out.2.2 k hk; omega) x1 x2 x3)
        have HSM := Aside0.mk (Sm.setF HI.out.sm id now best root x1 x2 x3)
        have HMK : Aside0 (∀ D2 : List RP, QS D2 = (rsetF id now (QS D) x1 x2 x3).2 → Sim id n (i + 1) now (setF id now P best root x1 x2 x3).ports (setF id now P best root x1 x2 x3).best (setF id now P best root x1 x2 x3).root D2) := ⟨fun D2 e => ⟨HI.out.invF.setF hw0 x1 x2 x3, by rw [e]; exact HI.out.invQ.set id now x1 x2 x3, by rw [e]; exact HSM.out.2, bst_setF HI.out.bst now x1 x2 x3⟩⟩
        have HCE := Aside0.mk HSM.out.1
        rw [← opn_setF id now P best root x1 x2 x3] at HDS HR5
        generalize setF id now P best root x1 x2 x3 = st at *
        generalize rsetF id now (QS D) x1 x2 x3 = rq at *
        obtain ⟨code, Pt, bt, rt⟩ := st
        obtain ⟨rc, Qt⟩ := rq
        dsimp only at HS HDS HMK HCE HR5
        obtain rfl : code = rc := HCE.out
        clear HSM HCE
        go_wp2_with fail
        go_region_held3 (fun W => W.cell? ⟨cb, 1, none⟩ = some (.int .i64 x1) ∧ W.cell? ⟨cb, 2, none⟩ = some (.bool x2) ∧ W.cell? ⟨cb, 3, none⟩ = some (.int .i64 x3)) (refine ⟨?_, ?_, ?_⟩ <;> (repeat (with_reducible first | assumption | refine cell_drew ?_))) (first
          | (go_at_call 15; with_reducible refine (HS.out _ (by repeat (with_reducible first | assumption | exact Below.refl _ _ | apply below_alloc | apply pw_below_drewN | apply below_drew1))).mono ?_; rintro e w6 ⟨hd6, rfl, h6, t6⟩; have HT6 := Aside0.mk h6; have HB6 := Aside0.mk t6.bel; have HR6 := Aside0.mk (RTre.overd (HR5.out.below hd6) t6 HDJ.out); have hw61 : w6.cell? ⟨cb, 1, none⟩ = some (.int .i64 x1) := kept_cell t6.kept HCT.out (pw_cell_below hd6 hz1); have hw62 : w6.cell? ⟨cb, 2, none⟩ = some (.bool x2) := kept_cell t6.kept HCT.out (pw_cell_below hd6 hz2); have hw63 : w6.cell? ⟨cb, 3, none⟩ = some (.int .i64 x3) := kept_cell t6.kept HCT.out (pw_cell_below hd6 hz3); clear h6 t6 hd6)
          | (go_at_call 23; with_reducible refine (HDS.out _ HB6.out HR6.out).mono ?_; rintro e w7 ⟨rfl, D2, h7, e7, t7⟩; have HT7 := Aside0.mk (Tre.overd HT6.out t7 HDJ.out); have HDJ7 := Aside0.mk (Djd.over HDJ.out HT6.out t7); have HR7 := Aside0.mk h7; have HB7 := Aside0.mk t7.bel; have HSI := Aside0.mk (HMK.out D2 e7); have hw71 : w7.cell? ⟨cb, 1, none⟩ = some (.int .i64 x1) := kept_cell t7.kept HCR.out hw61; have hw72 : w7.cell? ⟨cb, 2, none⟩ = some (.bool x2) := kept_cell t7.kept HCR.out hw62; have hw73 : w7.cell? ⟨cb, 3, none⟩ = some (.int .i64 x3) := kept_cell t7.kept HCR.out hw63; clear h7 t7 e7))
        go_wp2_with (go_at_fn 29; refine (same_sim HSI.out HN6.out (by omega) HT7.out HR7.out (by omega)).mono ?_; rintro e w8 ⟨rfl, h8⟩; have HT8 := Aside0.mk (HT7.out.below h8); have HR8 := Aside0.mk (HR7.out.below h8); have HB8 := Aside0.mk (below_step HB7.out h8); clear h8)
        go_roundg (l.length - (i + 1))
        case measure => omega
        case rel => exact ⟨i + 1, now, Pt, bt, rt, change, D2, by go_num, rfl, by omega, Nat.le_refl _, by omega, by omega, HT8, HR8, HSI, HDJ7, HB8⟩
      · by_cases q1 : x0 = 1
        · subst q1
          clear q0
          have hm : FitB ⟨⟨y0, y1, y2, y3⟩, y4, y5, y6⟩ := HFX.out.2.2
          have HS := Aside0.mk (fun (W : World) (hd : Below w5.heap.size w5 W) => Calls.mono (hear_calls w.heap.size g b cap id P best root change now w W (below_step HB5.out hd) (below_step HB5.out hd).size (HT5.out.below hd) HPL.out HI.out.invF.fit x1 ⟨⟨y0, y1, y2, y3⟩, y4, y5, y6⟩ hm) (fun e w' h => And.intro hd h))
          have HDS := Aside0.mk (fun (W : World) (hB : Below w.heap.size w W) (ht : RTre W w.heap.size g2 b2 cap2 ob2 ocap2 id D change (opn P)) => dhear_calls w.heap.size g2 b2 cap2 ob2 ocap2 id D change now (opn P) w W hB hB.size ht (by have := HQO.out.1; have := HN6.out; omega) HQO.out.2.1 (fun k hk => by have := HQO.out.2.2 k hk; omega) x1 ⟨⟨y0, y1, y2, y3⟩, y4, y5, y6⟩ hm)
          have HSM := Aside0.mk (Sm.hearF HI.out.sm id now best root x1 ⟨⟨y0, y1, y2, y3⟩, y4, y5, y6⟩)
          have HMK : Aside0 (∀ D2 : List RP, QS D2 = (rhearF id now (QS D) x1 ⟨⟨y0, y1, y2, y3⟩, y4, y5, y6⟩).2 → Sim id n (i + 1) now (hearF id now P best root x1 ⟨⟨y0, y1, y2, y3⟩, y4, y5, y6⟩).ports (hearF id now P best root x1 ⟨⟨y0, y1, y2, y3⟩, y4, y5, y6⟩).best (hearF id now P best root x1 ⟨⟨y0, y1, y2, y3⟩, y4, y5, y6⟩).root D2) := ⟨fun D2 e => ⟨HI.out.invF.hearF hw0 x1 _ hm, by rw [e]; exact HI.out.invQ.hear id now x1 _ hm, by rw [e]; exact HSM.out.2, bst_hearF HI.out.bst now x1 _⟩⟩
          have HCE := Aside0.mk HSM.out.1
          rw [← opn_hearF id now P best root x1 ⟨⟨y0, y1, y2, y3⟩, y4, y5, y6⟩] at HDS HR5
          generalize hearF id now P best root x1 ⟨⟨y0, y1, y2, y3⟩, y4, y5, y6⟩ = st at *
          generalize rhearF id now (QS D) x1 ⟨⟨y0, y1, y2, y3⟩, y4, y5, y6⟩ = rq at *
          obtain ⟨code, Pt, bt, rt⟩ := st
          obtain ⟨rc, Qt⟩ := rq
          dsimp only at HS HDS HMK HCE HR5
          dsimp only [val38] at HS HDS
          obtain rfl : code = rc := HCE.out
          clear HSM HCE hm
          go_wp2_with fail
          go_region_held3 (fun W => W.cell? ⟨cb, 1, none⟩ = some (.int .i64 x1) ∧ W.cell? ⟨cb, 4, none⟩ = some (.int .i64 y0) ∧ W.cell? ⟨cb, 5, none⟩ = some (.int .i64 y1) ∧ W.cell? ⟨cb, 6, none⟩ = some (.int .i64 y2) ∧ W.cell? ⟨cb, 7, none⟩ = some (.int .i64 y3) ∧ W.cell? ⟨cb, 8, none⟩ = some (.int .i64 y4) ∧ W.cell? ⟨cb, 9, none⟩ = some (.int .i64 y5) ∧ W.cell? ⟨cb, 10, none⟩ = some (.bool y6)) (refine ⟨?_, ?_, ?_, ?_, ?_, ?_, ?_, ?_⟩ <;> (repeat (with_reducible first | assumption | refine cell_drew ?_))) (first
            | (go_at_call 16; with_reducible refine (HS.out _ (by repeat (with_reducible first | assumption | exact Below.refl _ _ | apply below_alloc | apply pw_below_drewN | apply below_drew1))).mono ?_; rintro e w6 ⟨hd6, rfl, h6, t6⟩; have HT6 := Aside0.mk h6; have HB6 := Aside0.mk t6.bel; have HR6 := Aside0.mk (RTre.overd (HR5.out.below hd6) t6 HDJ.out); have hw61 : w6.cell? ⟨cb, 1, none⟩ = some (.int .i64 x1) := kept_cell t6.kept HCT.out (pw_cell_below hd6 hz1); have hw64 : w6.cell? ⟨cb, 4, none⟩ = some (.int .i64 y0) := kept_cell t6.kept HCT.out (pw_cell_below hd6 hz4); have hw65 : w6.cell? ⟨cb, 5, none⟩ = some (.int .i64 y1) := kept_cell t6.kept HCT.out (pw_cell_below hd6 hz5); have hw66 : w6.cell? ⟨cb, 6, none⟩ = some (.int .i64 y2) := kept_cell t6.kept HCT.out (pw_cell_below hd6 hz6); have hw67 : w6.cell? ⟨cb, 7, none⟩ = some (.int .i64 y3) := kept_cell t6.kept HCT.out (pw_cell_below hd6 hz7); have hw68 : w6.cell? ⟨cb, 8, none⟩ = some (.int .i64 y4) := kept_cell t6.kept HCT.out (pw_cell_below hd6 hz8); have hw69 : w6.cell? ⟨cb, 9, none⟩ = some (.int .i64 y5) := kept_cell t6.kept HCT.out (pw_cell_below hd6 hz9); have hw610 : w6.cell? ⟨cb, 10, none⟩ = some (.bool y6) := kept_cell t6.kept HCT.out (pw_cell_below hd6 hz10); clear h6 t6 hd6)
            | (go_at_call 27; with_reducible refine (HDS.out _ HB6.out HR6.out).mono ?_; rintro e w7 ⟨rfl, D2, h7, e7, t7⟩; have HT7 := Aside0.mk (Tre.overd HT6.out t7 HDJ.out); have HDJ7 := Aside0.mk (Djd.over HDJ.out HT6.out t7); have HR7 := Aside0.mk h7; have HB7 := Aside0.mk t7.bel; have HSI := Aside0.mk (HMK.out D2 e7); have hw71 : w7.cell? ⟨cb, 1, none⟩ = some (.int .i64 x1) := kept_cell t7.kept HCR.out hw61; have hw74 : w7.cell? ⟨cb, 4, none⟩ = some (.int .i64 y0) := kept_cell t7.kept HCR.out hw64; have hw75 : w7.cell? ⟨cb, 5, none⟩ = some (.int .i64 y1) := kept_cell t7.kept HCR.out hw65; have hw76 : w7.cell? ⟨cb, 6, none⟩ = some (.int .i64 y2) := kept_cell t7.kept HCR.out hw66; have hw77 : w7.cell? ⟨cb, 7, none⟩ = some (.int .i64 y3) := kept_cell t7.kept HCR.out hw67; have hw78 : w7.cell? ⟨cb, 8, none⟩ = some (.int .i64 y4) := kept_cell t7.kept HCR.out hw68; have hw79 : w7.cell? ⟨cb, 9, none⟩ = some (.int .i64 y5) := kept_cell t7.kept HCR.out hw69; have hw710 : w7.cell? ⟨cb, 10, none⟩ = some (.bool y6) := kept_cell t7.kept HCR.out hw610; clear h7 t7 e7))
          go_wp2_with (go_at_fn 29; refine (same_sim HSI.out HN6.out (by omega) HT7.out HR7.out (by omega)).mono ?_; rintro e w8 ⟨rfl, h8⟩; have HT8 := Aside0.mk (HT7.out.below h8); have HR8 := Aside0.mk (HR7.out.below h8); have HB8 := Aside0.mk (below_step HB7.out h8); clear h8)
          go_roundg (l.length - (i + 1))
          case measure => omega
          case rel => exact ⟨i + 1, now, Pt, bt, rt, change, D2, by go_num, rfl, by omega, Nat.le_refl _, by omega, by omega, HT8, HR8, HSI, HDJ7, HB8⟩
        · by_cases q2 : x0 = 2
          · subst q2
            have hx5 : 0 ≤ x5 ∧ x5 ≤ 1000 := hwx
            clear hwx q0 q1
            have HTK := Aside0.mk (tick_calls w.heap.size g b cap id P best root change (now + x5) w w5 HB5.out HB5.out.size HZ.out HNG.out HT5.out HPL.out HPL1.out HI.out.invF.fit (by omega) (by omega))
            have HDT := Aside0.mk (fun (W : World) (hB : Below w.heap.size w W) (ht : RTre W w.heap.size g2 b2 cap2 ob2 ocap2 id D change (opn P)) => dtick_sim HI.out HN6.out (by omega) hw0 (T := now + x5) (by omega) (by omega) w.heap.size g2 b2 cap2 ob2 ocap2 w W hB hB.size ht)
            have HLL := Aside0.mk (Nat.le_trans (tickL_len id (now + x5) P change) HPL.out)
            generalize tickL id (now + x5) P change = L at *
            generalize tickC id (now + x5) P change = cht at *
            generalize tickP id (now + x5) P = Pt at *
            generalize tickB id (now + x5) P = Bt at *
            obtain ⟨bt, rt⟩ := Bt
            dsimp only at HTK HDT
            go_wp2_with (first
              | (go_at_fn 17; refine HTK.out.mono ?_; rintro e w6 ⟨v6, rfl, hr6, h6, t6⟩; have HO6 := Aside0.mk hr6; have HT6 := Aside0.mk h6; have HB6 := Aside0.mk t6.bel; have HR6 := Aside0.mk (RTre.overd HR5.out t6 HDJ.out); clear h6 t6 hr6)
              | (go_at_fn 28; refine (HDT.out w6 HB6.out HR6.out).mono ?_; rintro e w7 ⟨vp, vs, rfl, D2, hp, hs, h7, hsi, t7⟩; have HT7 := Aside0.mk (Tre.overd HT6.out t7 HDJ.out); have HDJ7 := Aside0.mk (Djd.over HDJ.out HT6.out t7); have HR7 := Aside0.mk h7; have HB7 := Aside0.mk t7.bel; have HSI := Aside0.mk hsi; have ho7 := Gen.R_kept rfl HO6.out t7.kept (fun q hq hf => absurd (HR5.out.lt q hf) (Nat.not_lt.2 (Kd.R_base HO6.out q hq))); obtain ⟨A6, c6, e6, hc6, hC6⟩ := Gen.R_open ho7; obtain ⟨Ap, cp, ep, hcp, hCp⟩ := Gen.R_open hp; obtain ⟨As, cs, es, hcs, hCs⟩ := Gen.R_open hs; rw [List.length_map] at ep hCp es hCs; subst e6 ep es; have HC6 := Aside0.mk hC6; have HCP := Aside0.mk hCp; have HCS := Aside0.mk hCs; clear h7 t7 hsi ho7 hp hs hC6 hCp hCs hc6 hcp hcs))
            go_loopg [149] L.length (fun gk s149 wr => ∃ k : Nat, s149 = .int .i64 k ∧ k ≤ L.length ∧ L.length - k ≤ gk ∧ Aside0 (Below w7.heap.size w7 wr))
            case atStart => exact ⟨0, rfl, Nat.zero_le _, by omega, ⟨Below.refl _ _⟩⟩
            case round =>
              obtain ⟨k, rfl, hkl, hgk2, HBR⟩ := hrel
              by_cases hlt2 : k < L.length
              · have hlz2 : (k : Int) < (L.length : Int) := by omega
                obtain ⟨ad6, ea6, hf6⟩ := cells47 (Kd.C_below HC6.out HBR.out) k hlt2 rfl
                obtain ⟨adp, eap, hfp⟩ := Kd.at_int (Kd.C_below HCP.out HBR.out) (k : Int) (by omega) hlz2
                obtain ⟨ads, eas, hfs⟩ := cells38 (Kd.C_below HCS.out HBR.out) k (by rw [List.length_map]; exact hlt2) (List.length_map _)
                rw [List.getElem_map] at hfs
                rw [Int.toNat_natCast, show rd (L.map (·.f0)) (k : Int) = L[k].f0 by unfold rd; rw [Int.toNat_natCast, List.getD_eq_getElem?_getD, List.getElem?_eq_getElem (by rw [List.length_map]; exact hlt2), Option.getD_some, List.getElem_map]] at hfp
                subst ea6 eap eas
                have HNE := Aside0.mk (fun W => neq38 L[k].f1 W)
                generalize L[k] = y at *
                obtain ⟨yp, ⟨⟨t0, t1, t2, t3⟩, t4, t5, t6⟩⟩ := y
                have hu0 : wr.cell? (ad6.add (k * 8)) = some (.int .i64 yp) := hf6 0 _ rfl
                have hu1 : wr.cell? ⟨(ad6.add (k * 8)).block, (ad6.add (k * 8)).off + 1, none⟩ = some (.int .i64 t0) := by have h := hf6 1 _ rfl; rw [add_field _ _ 1 (by omega)] at h; exact h
                have hu1_1 : wr.cell? ⟨(ad6.add (k * 8)).block, (ad6.add (k * 8)).off + 1 + 1, none⟩ = some (.int .i64 t1) := by have h := hf6 2 _ rfl; rw [add_field _ _ 2 (by omega)] at h; exact h
                have hu1_2 : wr.cell? ⟨(ad6.add (k * 8)).block, (ad6.add (k * 8)).off + 1 + 2, none⟩ = some (.int .i64 t2) := by have h := hf6 3 _ rfl; rw [add_field _ _ 3 (by omega)] at h; exact h
                have hu1_3 : wr.cell? ⟨(ad6.add (k * 8)).block, (ad6.add (k * 8)).off + 1 + 3, none⟩ = some (.int .i64 t3) := by have h := hf6 4 _ rfl; rw [add_field _ _ 4 (by omega)] at h; exact h
                have hu1_4 : wr.cell? ⟨(ad6.add (k * 8)).block, (ad6.add (k * 8)).off + 1 + 4, none⟩ = some (.int .i64 t4) := by have h := hf6 5 _ rfl; rw [add_field _ _ 5 (by omega)] at h; exact h
                have hu1_5 : wr.cell? ⟨(ad6.add (k * 8)).block, (ad6.add (k * 8)).off + 1 + 5, none⟩ = some (.int .i64 t5) := by have h := hf6 6 _ rfl; rw [add_field _ _ 6 (by omega)] at h; exact h
                have hu1_6 : wr.cell? ⟨(ad6.add (k * 8)).block, (ad6.add (k * 8)).off + 1 + 6, none⟩ = some (.bool t6) := by have h := hf6 7 _ rfl; rw [add_field _ _ 7 (by omega)] at h; exact h
                have hs0 : wr.cell? (ads.add (k * 7)) = some (.int .i64 t0) := hfs 0 _ rfl
                have hs1 : wr.cell? ⟨(ads.add (k * 7)).block, (ads.add (k * 7)).off + 1, none⟩ = some (.int .i64 t1) := by have h := hfs 1 _ rfl; rw [add_field _ _ 1 (by omega)] at h; exact h
                have hs2 : wr.cell? ⟨(ads.add (k * 7)).block, (ads.add (k * 7)).off + 2, none⟩ = some (.int .i64 t2) := by have h := hfs 2 _ rfl; rw [add_field _ _ 2 (by omega)] at h; exact h
                have hs3 : wr.cell? ⟨(ads.add (k * 7)).block, (ads.add (k * 7)).off + 3, none⟩ = some (.int .i64 t3) := by have h := hfs 3 _ rfl; rw [add_field _ _ 3 (by omega)] at h; exact h
                have hs4 : wr.cell? ⟨(ads.add (k * 7)).block, (ads.add (k * 7)).off + 4, none⟩ = some (.int .i64 t4) := by have h := hfs 4 _ rfl; rw [add_field _ _ 4 (by omega)] at h; exact h
                have hs5 : wr.cell? ⟨(ads.add (k * 7)).block, (ads.add (k * 7)).off + 5, none⟩ = some (.int .i64 t5) := by have h := hfs 5 _ rfl; rw [add_field _ _ 5 (by omega)] at h; exact h
                have hs6 : wr.cell? ⟨(ads.add (k * 7)).block, (ads.add (k * 7)).off + 6, none⟩ = some (.bool t6) := by have h := hfs 6 _ rfl; rw [add_field _ _ 6 (by omega)] at h; exact h
                have hne := HNE.out
                dsimp only [val38] at hne hfp
                clear hf6 hfs HNE
                go_wp2_with fail
                go_quiet (fail)
                go_wp2_with fail
                go_roundg (L.length - (k + 1))
                case measure => omega
                case rel => exact ⟨k + 1, by have := HLL.out; rw [nat_stepd _ (by omega)], by omega, Nat.le_refl _, ⟨below_step HBR.out (by repeat (with_reducible first | assumption | exact Below.refl _ _ | apply below_alloc | apply pw_below_drewN | apply below_drew1))⟩⟩
              · have e : k = L.length := by omega
                subst e
                have HT9 := Aside0.mk (HT7.out.below HBR.out)
                have HR9 := Aside0.mk (HR7.out.below HBR.out)
                go_wp2_with (go_at_fn 29; refine (same_sim HSI.out HN6.out (by omega) HT9.out HR9.out (by omega)).mono ?_; rintro e w8 ⟨rfl, h8⟩; have HT8 := Aside0.mk (HT9.out.below h8); have HR8 := Aside0.mk (HR9.out.below h8); have HB8 := Aside0.mk (below_step HB7.out (below_step HBR.out h8)); clear h8)
                go_roundg (l.length - (i + 1))
                case measure => omega
                case rel => exact ⟨i + 1, now + x5, Pt, bt, rt, cht, D2, by go_num, rfl, by omega, Nat.le_refl _, by omega, by omega, HT8, HR8, HSI, HDJ7, HB8⟩
          · have d10 : (x0 == 0) = false := by simpa using q0
            have d11 : (x0 == 1) = false := by simpa using q1
            have d12 : (x0 == 2) = false := by simpa using q2
            have HSI : Aside0 (Sim id n (i + 1) now P best root D) := ⟨⟨HI.out.invF, HI.out.invQ.more (by omega), HI.out.sm, HI.out.bst⟩⟩
            go_wp2_with (go_at_fn 29; refine (same_sim HSI.out HN6.out (by omega) HT5.out HR5.out (by omega)).mono ?_; rintro e w8 ⟨rfl, h8⟩; have HT8 := Aside0.mk (HT5.out.below h8); have HR8 := Aside0.mk (HR5.out.below h8); have HB8 := Aside0.mk (below_step HB5.out h8); clear h8)
            go_roundg (l.length - (i + 1))
            case measure => omega
            case rel => exact ⟨i + 1, now, P, best, root, change, D, by go_num, rfl, by omega, Nat.le_refl _, by omega, by omega, HT8, HR8, HSI, HDJ, HB8⟩
    · have e : i = l.length := by omega
      subst e
      have HRM := Aside0.mk (role_calls HT.out (-1))
      have HSN := Aside0.mk (fun (W : World) (hb : Below wr.heap.size wr W) => state_calls (HT.out.below hb) (n : Int) now)
      rw [show roleAt P (-1) = 0 from rfl] at HRM
      rw [show stateAt P (n : Int) now = 0 by unfold stateAt; rw [if_pos (by omega), Int.toNat_natCast, getD_ge (by rw [HI.out.invF.len]; omega)]; rfl] at HSN
      go_wp2_with (first
        | (go_at_fn 20; refine HRM.out.mono ?_; rintro e w11 ⟨rfl, h11⟩; have H11 := Aside0.mk h11; have HB11 := Aside0.mk (below_step HB.out h11); clear h11)
        | (go_at_fn 24; refine (HSN.out _ H11.out).mono ?_; rintro e w12 ⟨rfl, h12⟩; have HB12 := Aside0.mk (below_step HB11.out h12); clear h12))
      go_ret
      exact ⟨rfl, HB12.out⟩
end Go.Proofs.YtfimhaodgekkgaaDoor.QTre
namespace Go.Proofs.YtfimhaodgekkgaaDoor.QTre
open Go.RowKit Go.Proofs.YtfimhaodgekkgaaDoorW.PrintWords Go.Proofs.YtfimhaodgekkgaaDoorW.PrintLast Go.Proofs.YtfimhaodgekkgaaDoorW.PrintMore
open Go.Proofs.YtfimhaodgekkgaaDoor.Pri (brid)
set_option linter.unusedVariables false
structure GoodArgsD (id : Int) (l : List S40) : Prop where
  id : Pri.Fit id
  steps : ∀ s ∈ l, FitSd s
  few : l.length ≤ maxLen
open Classical in
noncomputable def kissgatelaw12_TreeDoes.f (a0 a1 : Int) (l2 : List S40) : Option Bool := if GoodArgsD a0 l2 then some true else none
theorem kissgatelaw12_TreeDoes.calls (a0 : Int) (a1 : Int) (A2 : Option Addr) (c2 : Nat) (l2 : List (S40)) (r : Bool) (w : World) (hng : NG w) (hz : 0 < w.heap.size) (hr2 : Kd.C k40 w A2 l2.length l2) (hc2 : l2.length ≤ c2) (hT : r = true) (h : kissgatelaw12_TreeDoes.f a0 a1 l2 = some r) :
    Calls Tryd.prog 6 #[.int .i64 a0, .int .i64 a1, .slice A2 l2.length c2] w fun e w' => e = .returned (.bool r) ∧ Below w.heap.size w w' := by
  subst hT
  have hg : GoodArgsD a0 l2 := by
    unfold kissgatelaw12_TreeDoes.f at h
    split at h
    · assumption
    · cases h
  rcases Bool.eq_false_or_eq_true (greatB l2) with h1 | h1
  · exact does_great A2 c2 l2 a0 a1 w hng hz hr2 hc2 hg.few h1
  by_cases hs : brid a0 = false ∨ a1 < 1 ∨ 6 < a1
  · exact does_nil A2 c2 l2 a0 a1 w hng hz hr2 hc2 hg.few hg.id h1 hs
  · have h2 : brid a0 = true := by simpa using fun e => hs (.inl e)
    obtain ⟨n, rfl⟩ : ∃ n : Nat, a1 = n := ⟨a1.toNat, by omega⟩
    exact does_walk A2 c2 l2 a0 n w hng hz hr2 hc2 hg.id hg.steps h1 h2 (by omega) (by omega)
end Go.Proofs.YtfimhaodgekkgaaDoor.QTre
namespace Go.Proofs.YtfimhaodgekkgaaDoor.Opn
open Go.ChangeShapes Go.WideShapes Go.Proofs.YtfimhaodgekkgaaDoorW.PrintWords
variable {P : Program}
def Opens {α : Type} (P : Program) (t : TypeId) (d : Kd α) (good : α → Prop) : Prop :=
  ∀ (H : Type) (enc : TypeId × Value → H) (w : World) (fuel : Nat) (cs : List Value) (x : DataW H × List MemPlace),
    DataW.trod enc P w 0 (fun _ => true) true fuel t cs = some x → (∀ n ∈ x.1.weights P t, n ≤ reachBytes) → ∃ a : α, d.K w a cs ∧ good a
theorem opens_int {t : TypeId} {k : IntKind} (hu : P.underlying t = some (.int k)) : Opens P t (Kd.int k) (fun n => (Lit.int k n).wf = true) := by
  intro H enc w fuel cs x h _
  obtain ⟨n, rfl, _, hw⟩ := DataW.trod_int hu h
  exact ⟨n, rfl, hw⟩
theorem opens_bool {t : TypeId} (hu : P.underlying t = some .bool) : Opens P t Kd.bool (fun _ => True) := by
  intro H enc w fuel cs x h _
  obtain ⟨b, rfl, _⟩ := DataW.trod_bool hu h
  exact ⟨b, rfl, trivial⟩
theorem weightsAll_mem {H : Type} {e : TypeId} : ∀ {l : List (DataW H)} {d : DataW H}, d ∈ l → ∀ n ∈ d.weights P e, n ∈ DataW.weightsAll P e l
  | [], d, h, _, _ => by simp at h
  | d0 :: l, d, h, n, hn => by
    simp only [DataW.weightsAll, List.mem_append]
    rcases List.mem_cons.1 h with rfl | h
    · exact Or.inl hn
    · exact Or.inr (weightsAll_mem h n hn)
theorem add_at_ (a : Addr) (i j : Nat) : (a.add i).add j = a.add (i + j) := by
  unfold Addr.add
  by_cases hi : i = 0
  · subst hi; simp
  · by_cases hj : j = 0
    · subst hj; simp
    · simp [hi, hj, Nat.add_assoc]
theorem choose_list {α : Type} {Q : Nat → α → Prop} : ∀ (n : Nat), (∀ i, i < n → ∃ a, Q i a) → ∃ l : List α, l.length = n ∧ ∀ i a, l[i]? = some a → Q i a
  | 0, _ => ⟨[], rfl, fun i a h => by simp at h⟩
  | n + 1, h => by
    obtain ⟨l, hl, hq⟩ := choose_list n (fun i hi => h i (by omega))
    obtain ⟨a, ha⟩ := h n (by omega)
    refine ⟨l ++ [a], by simp [hl], fun i b hb => ?_⟩
    rcases Nat.lt_or_ge i l.length with hi | hi
    · rw [List.getElem?_append_left hi] at hb
      exact hq i b hb
    · rw [List.getElem?_append_right hi] at hb
      have hlt := (List.getElem?_eq_some_iff.1 hb).1
      simp at hlt
      have e : i = n := by omega
      subst e
      rw [show i - l.length = 0 from by omega] at hb
      have hb' : a = b := by simpa using hb
      subst hb'
      exact ha
theorem opens_slice_row {α : Type} {t e : TypeId} {d : Kd α} {good : α → Prop} (hu : P.underlying t = some (.slice e)) (hC : P.cellsOf e = d.sz) {B : Nat} (hB : P.bytesOf e = B) (ho : Opens P e d good)
    (H : Type) (enc : TypeId × Value → H) (w : World) (fuel : Nat) (A : Option Addr) (len cap : Nat) (x : DataW H × List MemPlace)
    (h : DataW.trod enc P w 0 (fun _ => true) true fuel t [.slice A len cap] = some x) (hz : ∀ n ∈ x.1.weights P t, n ≤ reachBytes) :
    ∃ l : List α, l.length = len ∧ len ≤ cap ∧ d.C w A len l ∧ len ≤ maxLen ∧ len * B ≤ 140737488351232 ∧ ∀ a ∈ l, good a := by
  rcases DataW.trod_slice hu h with ⟨h0, _⟩ | ⟨a, len', cap', elems, rest, n, _, hcs, hx, _, hl, hm, hlen, hel, _, _⟩
  · simp only [List.cons.injEq, Value.slice.injEq, and_true] at h0
    obtain ⟨rfl, rfl, rfl⟩ := h0
    exact ⟨[], rfl, Nat.le_refl _, ⟨rfl, Nat.zero_le _, fun h => absurd h (by omega)⟩, Nat.zero_le _, by simp, fun a ha => by simp at ha⟩
  · simp only [List.cons.injEq, Value.slice.injEq, and_true] at hcs
    obtain ⟨rfl, rfl, rfl⟩ := hcs
    have each : ∀ i, i < len → ∃ b : α, (∃ c, c.length = d.sz ∧ d.K w b c ∧ ∀ j u, c[j]? = some u → w.cell? (a.add (i * d.sz + j)) = some u) ∧ good b := by
      intro i hi
      have h1 := hel i hi
      have hie : i < elems.length := by omega
      rw [List.getElem?_eq_getElem hie, Option.bind_eq_some_iff] at h1
      obtain ⟨cs', hc, ht'⟩ := h1
      have hw' : ∀ n ∈ (elems[i]).1.weights P e, n ≤ reachBytes := by
        intro m hm'
        refine hz m ?_
        rw [hx]
        simp only [DataW.weights, hu]
        refine List.mem_cons_of_mem _ (List.mem_append_left _ ?_)
        exact weightsAll_mem (List.mem_map.2 ⟨elems[i], List.getElem_mem hie, rfl⟩) m hm'
      obtain ⟨b, hb, hg⟩ := ho H enc w _ cs' _ ht' hw'
      obtain ⟨_, hcl, hat⟩ := World.cells?_some hc
      refine ⟨b, ⟨cs', by rw [hcl, hC], hb, fun j u hu' => ?_⟩, hg⟩
      have hj : j < P.cellsOf e := by
        have := (List.getElem?_eq_some_iff.1 hu').1
        omega
      have := hat j hj
      rw [hC] at this
      rw [← add_at_, this, hu']
    obtain ⟨l, hll, hq⟩ := choose_list len each
    refine ⟨l, hll, hl, ⟨hll, by simp only [maxLen] at hm; omega, fun _ => ⟨a, rfl, fun j p hj => (hq j p hj).1⟩⟩, by omega, ?_, fun b hb => ?_⟩
    · have h1 := hz ((elems.length + rest.length) * P.bytesOf e) (by rw [hx]; simp [DataW.weights, hu])
      rw [hB] at h1
      simp only [reachBytes] at h1
      refine Nat.le_trans (Nat.mul_le_mul_right _ ?_) h1
      omega
    · obtain ⟨i, hi⟩ := List.getElem?_of_mem hb
      exact (hq i b hi).2
def OpensFs {α : Type} (P : Program) (off : Nat) (fs : List Field) (d : Kd α) (good : α → Prop) : Prop :=
  ∀ (H : Type) (enc : TypeId × Value → H) (w : World) (fuel : Nat) (cs : List Value) (ys : List (DataW H × List MemPlace)),
    cs.length = off + d.sz → ys.length = fs.length → (∀ (i : Nat) (f : Field), fs[i]? = some f → DataW.trod enc P w 0 (fun _ => true) true fuel f.type ((cs.drop f.offset).take (P.cellsOf f.type)) = ys[i]?) →
    (∀ n ∈ DataW.weightsEach P (fs.map (·.type)) (ys.map (·.1)), n ≤ reachBytes) → ∃ a : α, d.K w a (cs.drop off) ∧ good a
theorem opensFs_one {α : Type} {off : Nat} {f : Field} {d : Kd α} {good : α → Prop} (ho : f.offset = off) (hC : P.cellsOf f.type = d.sz) (h : Opens P f.type d good) : OpensFs P off [f] d good := by
  intro H enc w fuel cs ys hcs hy hf hz
  match ys, hy with
  | [y], _ =>
    have h1 := hf 0 f rfl
    rw [ho, hC, List.take_of_length_le (by simp [List.length_drop]; omega)] at h1
    exact h H enc w fuel _ y h1 (fun n hn => hz n (by simp only [List.map_cons, DataW.weightsEach, List.mem_append]; exact Or.inl hn))
theorem opensFs_cons {α β : Type} {off : Nat} {f : Field} {fs : List Field} {d : Kd α} {e : Kd β} {g1 : α → Prop} {g2 : β → Prop} (ho : f.offset = off) (hC : P.cellsOf f.type = d.sz) (h : Opens P f.type d g1) (hs : OpensFs P (off + d.sz) fs e g2) :
    OpensFs P off (f :: fs) (Kd.pair d e) (fun p => g1 p.1 ∧ g2 p.2) := by
  intro H enc w fuel cs ys hcs hy hf hz
  match ys, hy with
  | y :: ys, hy =>
    have hsz : (Kd.pair d e).sz = d.sz + e.sz := rfl
    rw [hsz] at hcs
    have h1 := hf 0 f rfl
    rw [ho, hC] at h1
    obtain ⟨a, ha, hga⟩ := h H enc w fuel _ y h1 (fun n hn => hz n (by simp only [List.map_cons, DataW.weightsEach, List.mem_append]; exact Or.inl hn))
    obtain ⟨b, hb, hgb⟩ := hs H enc w fuel cs ys (by omega) (by simpa using hy) (fun i f' hi => by simpa using hf (i + 1) f' (by simpa using hi)) (fun n hn => hz n (by simp only [List.map_cons, DataW.weightsEach, List.mem_append]; exact Or.inr hn))
    refine ⟨(a, b), ⟨(cs.drop off).take d.sz, cs.drop (off + d.sz), ?_, ha, hb⟩, hga, hgb⟩
    rw [← List.drop_drop, List.take_append_drop]
theorem opens_struct {α : Type} {t : TypeId} {fs : Array Field} {d : Kd α} {good : α → Prop} (hu : P.underlying t = some (.struct fs)) (hC : P.cellsOf t = d.sz) (h : OpensFs P 0 fs.toList d good) : Opens P t d good := by
  intro H enc w fuel cs x hx hz
  obtain ⟨ys, n, _, hxe, hlen, hyl, hf⟩ := DataW.trod_struct hu hx
  obtain ⟨a, ha, hg⟩ := h H enc w n cs ys (by omega) (by simpa using hyl) (fun i f hi => hf i f (by simpa using hi)) (fun m hm => hz m (by rw [hxe]; simp only [DataW.weights, hu]; exact hm))
  exact ⟨a, by simpa using ha, hg⟩
theorem opens_iso {α β : Type} {t : TypeId} {d : Kd α} {good : α → Prop} (f : β → α) (g : α → β) (hfg : ∀ a, f (g a) = a) (h : Opens P t d good) : Opens P t (Kd.iso d f) (fun b => good (f b)) := by
  intro H enc w fuel cs x hx hz
  obtain ⟨a, ha, hga⟩ := h H enc w fuel cs x hx hz
  refine ⟨g a, ?_, by show good (f (g a)); rw [hfg]; exact hga⟩
  show d.K w (f (g a)) cs
  rw [hfg]
  exact ha
theorem opens_imp {α : Type} {t : TypeId} {d : Kd α} {g1 g2 : α → Prop} (h : Opens P t d g1) (hg : ∀ a, g1 a → g2 a) : Opens P t d g2 := by
  intro H enc w fuel cs x hx hz
  obtain ⟨a, ha, hga⟩ := h H enc w fuel cs x hx hz
  exact ⟨a, ha, hg a hga⟩
theorem weights_of {H : Type} {ts : List TypeId} {ds : List (DataW H)} (h : (DataW.weightsEach P ts ds).all (· ≤ reachBytes) = true) {j : Nat} {t : TypeId} {d : DataW H} (ht : ts[j]? = some t) (hd : ds[j]? = some d) : ∀ n ∈ d.weights P t, n ≤ reachBytes := by
  intro n hn
  have := List.all_eq_true.1 h _ (DataW.weights_mem_each ht hd n hn)
  simpa using this
theorem arg_slice {α : Type} {t e : TypeId} {d : Kd α} {good : α → Prop} (hu : P.underlying t = some (.slice e)) (hC : P.cellsOf e = d.sz) {B : Nat} (hB : P.bytesOf e = B) (ho : Opens P e d good)
    {H : Type} {enc : TypeId × Value → H} {w : World} {r : Reach} {b0 : Nat} {v : Value} {x : DataW H} {ps : List MemPlace} (hv : Value.okWide P w r b0 t v)
    (h : DataW.Trod enc P w 0 (fun _ => true) true t v x ps) (hz : ∀ n ∈ x.weights P t, n ≤ reachBytes) :
    ∃ (A : Option Addr) (c : Nat) (l : List α), v = .slice A l.length c ∧ l.length ≤ c ∧ d.C w A l.length l ∧ l.length ≤ maxLen ∧ l.length * B ≤ 140737488351232 ∧ ∀ a ∈ l, good a := by
  obtain ⟨A, len, c, rfl⟩ := okWide_slice hu hv
  obtain ⟨fuel, hf⟩ := h
  have hf' : DataW.trod enc P w 0 (fun _ => true) true fuel t [.slice A len c] = some (x, ps) := by simpa [Value.cells] using hf
  obtain ⟨l, rfl, hlc, hC', hm, hb, hg⟩ := opens_slice_row hu hC hB ho H enc w fuel A len c _ hf' hz
  exact ⟨A, c, l, rfl, hlc, hC', hm, hb, hg⟩
theorem arg_int {t : TypeId} {k : IntKind} (hu : P.underlying t = some (.int k))
    {H : Type} {enc : TypeId × Value → H} {w : World} {r : Reach} {b0 : Nat} {v : Value} {x : DataW H} {ps : List MemPlace} (hv : Value.okWide P w r b0 t v)
    (h : DataW.Trod enc P w 0 (fun _ => true) true t v x ps) : ∃ n, v = .int k n ∧ (Lit.int k n).wf = true := by
  obtain ⟨n, rfl⟩ := okWide_int hu hv
  obtain ⟨fuel, hf⟩ := h
  obtain ⟨m, hcs, _, hw⟩ := DataW.trod_int hu hf
  simp only [Value.cells] at hcs
  have e : n = m := by simpa using hcs
  subst e
  exact ⟨n, rfl, hw⟩
end Go.Proofs.YtfimhaodgekkgaaDoor.Opn
namespace Go.Proofs.YtfimhaodgekkgaaDoor.treeDoes
open Go.RowKit Go.Proofs.YtfimhaodgekkgaaDoorW.PrintWords Go.Proofs.YtfimhaodgekkgaaDoorW.PrintLast Go.Proofs.YtfimhaodgekkgaaDoorW.PrintMore Go.Proofs.YtfimhaodgekkgaaDoor.QTre
set_option linter.unusedVariables false
def G36 (x : S36) : Prop := (Lit.int .i64 x.f0).wf = true ∧ (Lit.int .i64 x.f1).wf = true ∧ (Lit.int .i64 x.f2).wf = true ∧ (Lit.int .i64 x.f3).wf = true
def G38 (x : S38) : Prop := G36 x.f0 ∧ (Lit.int .i64 x.f1).wf = true ∧ (Lit.int .i64 x.f2).wf = true ∧ True
def G40 (x : S40) : Prop := (Lit.int .i64 x.f0).wf = true ∧ (Lit.int .i64 x.f1).wf = true ∧ True ∧ (Lit.int .i64 x.f3).wf = true ∧ G38 x.f4 ∧ (Lit.int .i64 x.f5).wf = true
def Pure : Prop := ∀ (x0 : Int) (x1 : Int) (x2 : (List S40)), (Lit.int .i64 x0).wf = true → (Lit.int .i64 x1).wf = true → (x2.length ≤ maxLen ∧ x2.length * 96 ≤ 140737488351232 ∧ ∀ a ∈ x2, G40 a) → kissgatelaw12_TreeDoes.f x0 x1 x2 = some true
end Go.Proofs.YtfimhaodgekkgaaDoor.treeDoes
namespace Go.Proofs.YtfimhaodgekkgaaDoor.treeDoes
open Go.RowKit Go.Proofs.YtfimhaodgekkgaaDoorW.PrintWords Go.Proofs.YtfimhaodgekkgaaDoorW.PrintLast Go.Proofs.YtfimhaodgekkgaaDoorW.PrintMore Go.Proofs.YtfimhaodgekkgaaDoor.QTre
theorem pure : Pure := by
  intro x0 x1 x2 h0 h1 h2
  unfold kissgatelaw12_TreeDoes.f
  rw [if_pos]
  refine ⟨Pri.fit_of h0, fun s hs => ?_, h2.1⟩
  have h := h2.2.2 s hs
  exact ⟨Pri.fit_of h.2.1, Pri.fit_of h.2.2.2.1, Pri.fit_of h.2.2.2.2.1.1.1, Pri.fit_of h.2.2.2.2.1.1.2.1, Pri.fit_of h.2.2.2.2.1.1.2.2.1⟩
end Go.Proofs.YtfimhaodgekkgaaDoor.treeDoes
namespace Go.Proofs.YtfimhaodgekkgaaDoor.QTre
open Go.ChangeShapes Go.WideShapes Go.ChangeAt Go.RowKit
set_option linter.unusedVariables false
set_option linter.unusedSimpArgs false
abbrev laid1 : List (String × DataW Unit) := [("kissgate/tree.none", Rows.laid_kissgate_tree_none)]
theorem gNone : Tryd.prog.globalNamed "kissgate/tree.none" = some 0 := by kernel_rfl
theorem tNone : (Tryd.prog.globals[0]?).map (·.type) = some 80 := by kernel_rfl
theorem door_met (os : Os) (args : Array Value) : laidMetH Tryd.prog laid1 ((World.doorLaid Tryd.prog 400 os).forCall (fun _ _ => 0) ⟨#[], args, []⟩).memory :=
  laidMetH_of_parts3 (fuel := 8) (laidMet_of_run' 8 (by kernel_rfl) (by kernel_rfl)) (by kernel_rfl) (by kernel_rfl)
theorem list4 {α : Type} : ∀ {l : List α}, l.length = 4 → ∃ a b c d, l = [a, b, c, d]
  | [a, b, c, d], _ => ⟨a, b, c, d, rfl⟩
  | [], h => by simp at h
  | [_], h => by simp at h
  | [_, _], h => by simp at h
  | [_, _, _], h => by simp at h
  | _ :: _ :: _ :: _ :: _ :: _, h => by simp at h
theorem list7 {α : Type} {l : List α} (h : l.length = 7) : ∃ a b c d e f g, l = [a, b, c, d, e, f, g] := by
  obtain ⟨a, b, c, d, h4⟩ := list4 (l := l.take 4) (by simp; omega)
  have h3 : (l.drop 4).length = 3 := by simp; omega
  match hd : l.drop 4, h3 with
  | [e, f, g], _ => exact ⟨a, b, c, d, e, f, g, by rw [← List.take_append_drop 4 l, h4, hd]; rfl⟩
theorem of_laid {W : World} (h : laidMetH Tryd.prog laid1 W) : NG W ∧ 0 < W.heap.size := by
  rw [MakeChecks.laidMetH_plain _ _ _ (by kernel_rfl)] at h
  obtain ⟨ps, ⟨g0, t0, cs0, f0, p0, q0, hg0, ht0, hv0, hd0, _, _⟩, _, _⟩ := h
  obtain rfl := Option.some.inj (gNone.symm.trans hg0)
  obtain rfl := Option.some.inj (tNone.symm.trans ht0)
  have hc := fun i => World.var?_cell hg0 hv0 i
  obtain ⟨xs, n, _, hx, hl, hxl, hel⟩ := DataW.trod_struct Tryd.underlying80 hd0
  have c80 : Tryd.prog.cellsOf 80 = 7 := by kernel_rfl
  have c36 : Tryd.prog.cellsOf 36 = 4 := by kernel_rfl
  have c3 : Tryd.prog.cellsOf 3 = 1 := by kernel_rfl
  have c4 : Tryd.prog.cellsOf 4 = 1 := by kernel_rfl
  rw [c80] at hl
  obtain ⟨v0, v1, v2, v3, v4, v5, v6, hcs⟩ := list7 hl
  obtain ⟨x0, x1, x2, x3, rfl⟩ := list4 hxl
  simp only [Prod.mk.injEq, List.map_cons, List.map_nil, Rows.laid_kissgate_tree_none, DataW.agg.injEq, List.cons.injEq, and_true] at hx
  obtain ⟨⟨e0, e1, e2, e3⟩, _⟩ := hx
  have h0 : DataW.trod (fun x => ()) Tryd.prog W 0 (fun x => true) false n 36 (List.take (Tryd.prog.cellsOf 36) (List.drop 0 cs0.toList)) = some x0 := hel 0 _ rfl
  rw [hcs, c36] at h0
  have h1 : DataW.trod (fun x => ()) Tryd.prog W 0 (fun x => true) false n 3 (List.take (Tryd.prog.cellsOf 3) (List.drop 4 cs0.toList)) = some x1 := hel 1 _ rfl
  rw [hcs, c3] at h1
  have h2 : DataW.trod (fun x => ()) Tryd.prog W 0 (fun x => true) false n 3 (List.take (Tryd.prog.cellsOf 3) (List.drop 5 cs0.toList)) = some x2 := hel 2 _ rfl
  rw [hcs, c3] at h2
  have h3 : DataW.trod (fun x => ()) Tryd.prog W 0 (fun x => true) false n 4 (List.take (Tryd.prog.cellsOf 4) (List.drop 6 cs0.toList)) = some x3 := hel 3 _ rfl
  rw [hcs, c4] at h3
  obtain ⟨k1, a1, b1, _⟩ := DataW.trod_int Tryd.underlying3 h1
  obtain ⟨k2, a2, b2, _⟩ := DataW.trod_int Tryd.underlying3 h2
  obtain ⟨k3, a3, b3⟩ := DataW.trod_bool Tryd.underlying4 h3
  obtain ⟨ys, m, _, hy, hyl, hyn, hye⟩ := DataW.trod_struct Tryd.underlying36 h0
  obtain ⟨y0, y1, y2, y3, rfl⟩ := list4 hyn
  rw [hy] at e0
  simp only [List.map_cons, List.map_nil, DataW.agg.injEq, List.cons.injEq, and_true] at e0
  obtain ⟨f0', f1', f2', f3'⟩ := e0
  have g0 : DataW.trod (fun x => ()) Tryd.prog W 0 (fun x => true) false m 3 (List.take (Tryd.prog.cellsOf 3) (List.drop 0 (List.take 4 (List.drop 0 [v0, v1, v2, v3, v4, v5, v6])))) = some y0 := hye 0 _ rfl
  rw [c3] at g0
  obtain ⟨m0, r0, s0, _⟩ := DataW.trod_int Tryd.underlying3 g0
  have g1 : DataW.trod (fun x => ()) Tryd.prog W 0 (fun x => true) false m 3 (List.take (Tryd.prog.cellsOf 3) (List.drop 1 (List.take 4 (List.drop 0 [v0, v1, v2, v3, v4, v5, v6])))) = some y1 := hye 1 _ rfl
  rw [c3] at g1
  obtain ⟨m1, r1, s1, _⟩ := DataW.trod_int Tryd.underlying3 g1
  have g2 : DataW.trod (fun x => ()) Tryd.prog W 0 (fun x => true) false m 3 (List.take (Tryd.prog.cellsOf 3) (List.drop 2 (List.take 4 (List.drop 0 [v0, v1, v2, v3, v4, v5, v6])))) = some y2 := hye 2 _ rfl
  rw [c3] at g2
  obtain ⟨m2, r2, s2, _⟩ := DataW.trod_int Tryd.underlying3 g2
  have g3 : DataW.trod (fun x => ()) Tryd.prog W 0 (fun x => true) false m 3 (List.take (Tryd.prog.cellsOf 3) (List.drop 3 (List.take 4 (List.drop 0 [v0, v1, v2, v3, v4, v5, v6])))) = some y3 := hye 3 _ rfl
  rw [c3] at g3
  obtain ⟨m3, r3, s3, _⟩ := DataW.trod_int Tryd.underlying3 g3
  rw [s0] at f0'
  rw [s1] at f1'
  rw [s2] at f2'
  rw [s3] at f3'
  rw [b1] at e1
  rw [b2] at e2
  rw [b3] at e3
  injection f0' with q0; injection q0 with _ q0
  injection f1' with q1; injection q1 with _ q1
  injection f2' with q2; injection q2 with _ q2
  injection f3' with q3; injection q3 with _ q3
  injection e1 with q4; injection q4 with _ q4
  injection e2 with q5; injection q5 with _ q5
  injection e3 with q6; injection q6 with q6
  subst q0 q1 q2 q3 q4 q5 q6
  have w0 : v0 = .int .i64 0 := (List.cons.inj r0).1
  have w1 : v1 = .int .i64 0 := (List.cons.inj r1).1
  have w2 : v2 = .int .i64 0 := (List.cons.inj r2).1
  have w3 : v3 = .int .i64 0 := (List.cons.inj r3).1
  have w4 : v4 = .int .i64 0 := (List.cons.inj a1).1
  have w5 : v5 = .int .i64 0 := (List.cons.inj a2).1
  have w6 : v6 = .bool true := (List.cons.inj a3).1
  have hj : ∀ j v, [v0, v1, v2, v3, v4, v5, v6][j]? = some v → W.cell? ⟨0, j, none⟩ = some v := by
    intro j v h
    rw [hc j, ← h, ← hcs, Array.getElem?_toList]
  subst w0 w1 w2 w3 w4 w5 w6
  exact ⟨⟨hj 0 _ rfl, hj 1 _ rfl, hj 2 _ rfl, hj 3 _ rfl, hj 4 _ rfl, hj 5 _ rfl, hj 6 _ rfl⟩, World.block_lt_of_cell? W _ (hj 0 _ rfl)⟩
end Go.Proofs.YtfimhaodgekkgaaDoor.QTre
