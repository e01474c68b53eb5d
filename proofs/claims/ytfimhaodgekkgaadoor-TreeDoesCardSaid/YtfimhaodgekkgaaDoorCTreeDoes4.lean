/- Functions of the program as plain Lean functions, what their calls do, and what follows of it. Conditions: each theorem's own. -/
import Derived.Test.YtfimhaodgekkgaaDoorCTreeDoes3
namespace Go.Proofs.YtfimhaodgekkgaaDoor.QTre
open Go.RowKit Go.Proofs.YtfimhaodgekkgaaDoorW.PrintWords Go.Proofs.YtfimhaodgekkgaaDoorW.PrintLast Go.Proofs.YtfimhaodgekkgaaDoorW.PrintMore
open Go.Proofs.YtfimhaodgekkgaaDoor.Gen (Own Trn)
open Go.Proofs.YtfimhaodgekkgaaDoor.Pri (FitH roles bestOf role brid conv)
set_option linter.unusedVariables false
set_option linter.unusedSimpArgs false
abbrev lay62 (W : World) (gb : Nat) (v0 v1 v2 v3 v4 v5 v6 v7 v8 v9 v10 : Value) : World := (((((((((((W.setCell ⟨gb, 0, none⟩ v0).setCell ⟨gb, 1, none⟩ v1).setCell ⟨gb, 2, none⟩ v2).setCell ⟨gb, 3, none⟩ v3).setCell ⟨gb, 4, none⟩ v4).setCell ⟨gb, 5, none⟩ v5).setCell ⟨gb, 6, none⟩ v6).setCell ⟨gb, 7, none⟩ v7).setCell ⟨gb, 8, none⟩ v8).setCell ⟨gb, 9, none⟩ v9).setCell ⟨gb, 10, none⟩ v10)
theorem lay62_blk {W : World} {gb : Nat} (v0 v1 v2 v3 v4 v5 v6 v7 v8 v9 v10 : Value) (h : W.heap[gb]? = some (.cells #[.bool false, .int .i64 0, .int .i64 0, .int .i64 0, .int .i64 0, .int .i64 0, .int .i64 0, .int .i64 0, .bool false, .int .i64 0, .slice none 0 0] 62 (0, 0))) : (lay62 W gb v0 v1 v2 v3 v4 v5 v6 v7 v8 v9 v10).heap[gb]? = some (.cells #[v0, v1, v2, v3, v4, v5, v6, v7, v8, v9, v10] 62 (0, 0)) := by
  refine blk_put (cs := #[v0, v1, v2, v3, v4, v5, v6, v7, v8, v9, .slice none 0 0]) ?_ 10 _ rfl
  refine blk_put (cs := #[v0, v1, v2, v3, v4, v5, v6, v7, v8, .int .i64 0, .slice none 0 0]) ?_ 9 _ rfl
  refine blk_put (cs := #[v0, v1, v2, v3, v4, v5, v6, v7, .bool false, .int .i64 0, .slice none 0 0]) ?_ 8 _ rfl
  refine blk_put (cs := #[v0, v1, v2, v3, v4, v5, v6, .int .i64 0, .bool false, .int .i64 0, .slice none 0 0]) ?_ 7 _ rfl
  refine blk_put (cs := #[v0, v1, v2, v3, v4, v5, .int .i64 0, .int .i64 0, .bool false, .int .i64 0, .slice none 0 0]) ?_ 6 _ rfl
  refine blk_put (cs := #[v0, v1, v2, v3, v4, .int .i64 0, .int .i64 0, .int .i64 0, .bool false, .int .i64 0, .slice none 0 0]) ?_ 5 _ rfl
  refine blk_put (cs := #[v0, v1, v2, v3, .int .i64 0, .int .i64 0, .int .i64 0, .int .i64 0, .bool false, .int .i64 0, .slice none 0 0]) ?_ 4 _ rfl
  refine blk_put (cs := #[v0, v1, v2, .int .i64 0, .int .i64 0, .int .i64 0, .int .i64 0, .int .i64 0, .bool false, .int .i64 0, .slice none 0 0]) ?_ 3 _ rfl
  refine blk_put (cs := #[v0, v1, .int .i64 0, .int .i64 0, .int .i64 0, .int .i64 0, .int .i64 0, .int .i64 0, .bool false, .int .i64 0, .slice none 0 0]) ?_ 2 _ rfl
  refine blk_put (cs := #[v0, .int .i64 0, .int .i64 0, .int .i64 0, .int .i64 0, .int .i64 0, .int .i64 0, .int .i64 0, .bool false, .int .i64 0, .slice none 0 0]) ?_ 1 _ rfl
  refine blk_put (cs := #[.bool false, .int .i64 0, .int .i64 0, .int .i64 0, .int .i64 0, .int .i64 0, .int .i64 0, .int .i64 0, .bool false, .int .i64 0, .slice none 0 0]) ?_ 0 _ rfl
  exact h
theorem lay62_bel {w W : World} {gb : Nat} (v0 v1 v2 v3 v4 v5 v6 v7 v8 v9 v10 : Value) (h : Below w.heap.size w W) (hg : w.heap.size ≤ gb) : Below w.heap.size w (lay62 W gb v0 v1 v2 v3 v4 v5 v6 v7 v8 v9 v10) := (below_set (below_set (below_set (below_set (below_set (below_set (below_set (below_set (below_set (below_set (below_set h hg) hg) hg) hg) hg) hg) hg) hg) hg) hg) hg)
abbrev lay59 (W : World) (gb : Nat) (v0 v1 v2 v3 v4 v5 v6 : Value) : World := (((((((W.setCell ⟨gb, 0, none⟩ v0).setCell ⟨gb, 1, none⟩ v1).setCell ⟨gb, 2, none⟩ v2).setCell ⟨gb, 3, none⟩ v3).setCell ⟨gb, 4, none⟩ v4).setCell ⟨gb, 5, none⟩ v5).setCell ⟨gb, 6, none⟩ v6)
theorem lay59_blk {W : World} {gb : Nat} (v0 v1 v2 v3 v4 v5 v6 : Value) (h : W.heap[gb]? = some (.cells #[.int .i64 0, .int .i64 0, .int .i64 0, .int .i64 0, .int .i64 0, .int .i64 0, .bool false] 59 (0, 0))) : (lay59 W gb v0 v1 v2 v3 v4 v5 v6).heap[gb]? = some (.cells #[v0, v1, v2, v3, v4, v5, v6] 59 (0, 0)) := by
  refine blk_put (cs := #[v0, v1, v2, v3, v4, v5, .bool false]) ?_ 6 _ rfl
  refine blk_put (cs := #[v0, v1, v2, v3, v4, .int .i64 0, .bool false]) ?_ 5 _ rfl
  refine blk_put (cs := #[v0, v1, v2, v3, .int .i64 0, .int .i64 0, .bool false]) ?_ 4 _ rfl
  refine blk_put (cs := #[v0, v1, v2, .int .i64 0, .int .i64 0, .int .i64 0, .bool false]) ?_ 3 _ rfl
  refine blk_put (cs := #[v0, v1, .int .i64 0, .int .i64 0, .int .i64 0, .int .i64 0, .bool false]) ?_ 2 _ rfl
  refine blk_put (cs := #[v0, .int .i64 0, .int .i64 0, .int .i64 0, .int .i64 0, .int .i64 0, .bool false]) ?_ 1 _ rfl
  refine blk_put (cs := #[.int .i64 0, .int .i64 0, .int .i64 0, .int .i64 0, .int .i64 0, .int .i64 0, .bool false]) ?_ 0 _ rfl
  exact h
theorem lay59_bel {w W : World} {gb : Nat} (v0 v1 v2 v3 v4 v5 v6 : Value) (h : Below w.heap.size w W) (hg : w.heap.size ≤ gb) : Below w.heap.size w (lay59 W gb v0 v1 v2 v3 v4 v5 v6) := (below_set (below_set (below_set (below_set (below_set (below_set (below_set h hg) hg) hg) hg) hg) hg) hg)
def heardQ (x : RQ) : S80 := ⟨x.heard.f0, x.heard.f1, x.cost, x.heard.f3 || !x.up⟩
abbrev listQ (P : List RP) : List S80 := P.map (fun x => heardQ x.q)
theorem info59 : (Tryd.prog.info? 59).map (fun i => (i.zero, i.size, i.bytes)) = some (some (.agg #[(.int .i64 0), (.int .i64 0), (.int .i64 0), (.int .i64 0), (.int .i64 0), (.int .i64 0), (.bool false)]), 7, 56) := by kernel_rfl
set_option maxHeartbeats 8000000 in
set_option maxRecDepth 100000 in
theorem rlist_calls (base g b cap ob ocap : Nat) (id : Int) (P : List RP) (change : Int) (opens : List Bool) (w : World) (ht : RTre w base g b cap ob ocap id P change opens) (hn : P.length ≤ 100) :
    Calls Tryd.prog 52 #[.pointer (some ⟨g, 0, none⟩)] w fun e w' => ∃ v, e = .returned v ∧ Kd.R k59 59 w' w.heap.size (fun _ => True) v ((listQ P).map conv) ∧ Below w.heap.size w w' := by
  have hu59 := Tryd.underlying59
  have hu62 := Tryd.underlying62
  have hg1 : w.cell? ⟨g, 1, none⟩ = some (.slice (some ⟨b, 0, none⟩) P.length cap) := (blk_cell ht.cell 1).trans rfl
  have HT := Aside0.mk ht
  clear ht
  go_enter Tryd.func52, Tryd.ntmps52
  go_wp2
  go_loopg [3, 12] P.length (fun gk s3 s12 wr => ∃ i : Nat, s12 = .int .i64 i ∧ i ≤ P.length ∧ P.length - i ≤ gk ∧ Aside0 (Kd.R k59 59 wr w.heap.size (fun _ => True) s3 ((listQ (P.take i)).map conv)) ∧ Aside0 (Below w.heap.size w wr))
  case atStart => exact ⟨0, rfl, Nat.zero_le _, by omega, ⟨Kd.R_nil _ _ _ _ _⟩, ⟨Below.refl _ _⟩⟩
  case round =>
    obtain ⟨i, rfl, hil, hgk, HO, HB⟩ := hrel
    by_cases hlt : i < P.length
    · have hlz : (i : Int) < (P.length : Int) := by omega
      have htr := HT.out.below HB.out
      obtain ⟨hx0, hx1, hx2, hx3, hx4, hx5, hx6, hx7, hx8, hx9, hx10⟩ := rcells htr.row i hlt
      obtain ⟨A, k, ev⟩ : ∃ A k, P[i].v = .slice A P[i].q.turns.length k := Kd.R_slice (htr.turns i hlt)
      rw [ev] at hx10
      clear ev htr
      have hst : (listQ (P.take (i + 1))).map conv = (listQ (P.take i)).map conv ++ [conv (heardQ P[i].q)] := by rw [List.take_succ_eq_append_getElem hlt, listQ, List.map_append, List.map_append]; rfl
      have HST := Aside0.mk hst
      have HLL := Aside0.mk (show (((listQ (P.take i)).map conv).length + 1) * 56 ≤ 140737488355328 by rw [List.length_map, List.length_map, List.length_take]; omega)
      clear hst
      generalize (listQ (P.take i)).map conv = Q at HO HST HLL
      generalize P[i].q = x at hx0 hx1 hx2 hx3 hx4 hx5 hx6 hx7 hx8 hx9 hx10 HST
      obtain ⟨u, c, ⟨⟨v0, v1, v2, v3⟩, v4, v5, v6⟩, a, T⟩ := x
      dsimp only at hx0 hx1 hx2 hx3 hx4 hx5 hx6 hx7 hx8 hx9 hx10
      generalize T.length = n at hx10
      have key : (v6 = true) ∨ (v6 = false ∧ u = true) ∨ (v6 = false ∧ u = false) := by cases v6 <;> cases u <;> simp
      rcases key with e6 | ⟨e6, e0⟩ | ⟨e6, e0⟩
      · subst e6
        go_upto_region 5 with ((with_reducible refine gate_dst (N := 5) rfl ?_); refine box_event ?hg (N := 5) ?hd (cs := #[.bool false, .int .i64 0, .int .i64 0, .int .i64 0, .int .i64 0, .int .i64 0, .int .i64 0, .int .i64 0, .bool false, .int .i64 0, .slice none 0 0]) (t := 62) ?hr ?_; (case hd => rfl); (case hg => rfl); (case hr => first | (go_simp; done) | (go_simp; rfl)); intro pb hg w4 hbox hb; have hcz0 : w4.cell? ⟨pb, 0, none⟩ = some (.bool false) := (blk_cell hbox 0).trans rfl; have hfz0 := blk_frozen hbox 0; have hcz1 : w4.cell? ⟨pb, 1, none⟩ = some (.int .i64 0) := (blk_cell hbox 1).trans rfl; have hfz1 := blk_frozen hbox 1; have hcz2 : w4.cell? ⟨pb, 2, none⟩ = some (.int .i64 0) := (blk_cell hbox 2).trans rfl; have hfz2 := blk_frozen hbox 2; have hcz3 : w4.cell? ⟨pb, 3, none⟩ = some (.int .i64 0) := (blk_cell hbox 3).trans rfl; have hfz3 := blk_frozen hbox 3; have hcz4 : w4.cell? ⟨pb, 4, none⟩ = some (.int .i64 0) := (blk_cell hbox 4).trans rfl; have hfz4 := blk_frozen hbox 4; have hcz5 : w4.cell? ⟨pb, 5, none⟩ = some (.int .i64 0) := (blk_cell hbox 5).trans rfl; have hfz5 := blk_frozen hbox 5; have hcz6 : w4.cell? ⟨pb, 6, none⟩ = some (.int .i64 0) := (blk_cell hbox 6).trans rfl; have hfz6 := blk_frozen hbox 6; have hcz7 : w4.cell? ⟨pb, 7, none⟩ = some (.int .i64 0) := (blk_cell hbox 7).trans rfl; have hfz7 := blk_frozen hbox 7; have hcz8 : w4.cell? ⟨pb, 8, none⟩ = some (.bool false) := (blk_cell hbox 8).trans rfl; have hfz8 := blk_frozen hbox 8; have hcz9 : w4.cell? ⟨pb, 9, none⟩ = some (.int .i64 0) := (blk_cell hbox 9).trans rfl; have hfz9 := blk_frozen hbox 9; have hcz10 : w4.cell? ⟨pb, 10, none⟩ = some (.slice none 0 0) := (blk_cell hbox 10).trans rfl; have hfz10 := blk_frozen hbox 10; have BX := Aside0.mk hbox; have KX := Aside0.mk hb; have HGB := Aside0.mk hg; clear hbox hb hg)
        have B5 : Below wr.heap.size wr (((((((((((w4.setCell ⟨pb, 0, none⟩ (.bool u)).setCell ⟨pb, 1, none⟩ (.int .i64 c)).setCell ⟨pb, 2, none⟩ (.int .i64 v0)).setCell ⟨pb, 3, none⟩ (.int .i64 v1)).setCell ⟨pb, 4, none⟩ (.int .i64 v2)).setCell ⟨pb, 5, none⟩ (.int .i64 v3)).setCell ⟨pb, 6, none⟩ (.int .i64 v4)).setCell ⟨pb, 7, none⟩ (.int .i64 v5)).setCell ⟨pb, 8, none⟩ (.bool true)).setCell ⟨pb, 9, none⟩ (.int .i64 a)).setCell ⟨pb, 10, none⟩ (.slice A n k)) := lay62_bel (.bool u) (.int .i64 c) (.int .i64 v0) (.int .i64 v1) (.int .i64 v2) (.int .i64 v3) (.int .i64 v4) (.int .i64 v5) (.bool true) (.int .i64 a) (.slice A n k) KX.out (Nat.le_of_eq HGB.out.symm)
        have X5 : (((((((((((w4.setCell ⟨pb, 0, none⟩ (.bool u)).setCell ⟨pb, 1, none⟩ (.int .i64 c)).setCell ⟨pb, 2, none⟩ (.int .i64 v0)).setCell ⟨pb, 3, none⟩ (.int .i64 v1)).setCell ⟨pb, 4, none⟩ (.int .i64 v2)).setCell ⟨pb, 5, none⟩ (.int .i64 v3)).setCell ⟨pb, 6, none⟩ (.int .i64 v4)).setCell ⟨pb, 7, none⟩ (.int .i64 v5)).setCell ⟨pb, 8, none⟩ (.bool true)).setCell ⟨pb, 9, none⟩ (.int .i64 a)).setCell ⟨pb, 10, none⟩ (.slice A n k)).heap[pb]? = some (.cells #[.bool u, .int .i64 c, .int .i64 v0, .int .i64 v1, .int .i64 v2, .int .i64 v3, .int .i64 v4, .int .i64 v5, .bool true, .int .i64 a, .slice A n k] 62 (0, 0)) := lay62_blk (.bool u) (.int .i64 c) (.int .i64 v0) (.int .i64 v1) (.int .i64 v2) (.int .i64 v3) (.int .i64 v4) (.int .i64 v5) (.bool true) (.int .i64 a) (.slice A n k) BX.out
        generalize (((((((((((w4.setCell ⟨pb, 0, none⟩ (.bool u)).setCell ⟨pb, 1, none⟩ (.int .i64 c)).setCell ⟨pb, 2, none⟩ (.int .i64 v0)).setCell ⟨pb, 3, none⟩ (.int .i64 v1)).setCell ⟨pb, 4, none⟩ (.int .i64 v2)).setCell ⟨pb, 5, none⟩ (.int .i64 v3)).setCell ⟨pb, 6, none⟩ (.int .i64 v4)).setCell ⟨pb, 7, none⟩ (.int .i64 v5)).setCell ⟨pb, 8, none⟩ (.bool true)).setCell ⟨pb, 9, none⟩ (.int .i64 a)).setCell ⟨pb, 10, none⟩ (.slice A n k)) = w5 at B5 X5 ⊢
        have hp0 : w5.cell? ⟨pb, 0, none⟩ = some (.bool u) := (blk_cell X5 0).trans rfl
        have hp1 : w5.cell? ⟨pb, 1, none⟩ = some (.int .i64 c) := (blk_cell X5 1).trans rfl
        have hp2 : w5.cell? ⟨pb, 2, none⟩ = some (.int .i64 v0) := (blk_cell X5 2).trans rfl
        have hp3 : w5.cell? ⟨pb, 3, none⟩ = some (.int .i64 v1) := (blk_cell X5 3).trans rfl
        have hp4 : w5.cell? ⟨pb, 4, none⟩ = some (.int .i64 v2) := (blk_cell X5 4).trans rfl
        have hp5 : w5.cell? ⟨pb, 5, none⟩ = some (.int .i64 v3) := (blk_cell X5 5).trans rfl
        have hp6 : w5.cell? ⟨pb, 6, none⟩ = some (.int .i64 v4) := (blk_cell X5 6).trans rfl
        have hp7 : w5.cell? ⟨pb, 7, none⟩ = some (.int .i64 v5) := (blk_cell X5 7).trans rfl
        have hp8 : w5.cell? ⟨pb, 8, none⟩ = some (.bool true) := (blk_cell X5 8).trans rfl
        have hp9 : w5.cell? ⟨pb, 9, none⟩ = some (.int .i64 a) := (blk_cell X5 9).trans rfl
        have hp10 : w5.cell? ⟨pb, 10, none⟩ = some (.slice A n k) := (blk_cell X5 10).trans rfl
        clear hcz0 hfz0 hcz1 hfz1 hcz2 hfz2 hcz3 hfz3 hcz4 hfz4 hcz5 hfz5 hcz6 hfz6 hcz7 hfz7 hcz8 hfz8 hcz9 hfz9 hcz10 hfz10 BX KX HGB X5 hx0 hx1 hx2 hx3 hx4 hx5 hx6 hx7 hx8 hx9 hx10
        go_upto_region 6 with ((with_reducible refine gate_dst (N := 6) rfl ?_); refine box_event ?hg (N := 6) ?hd (cs := #[.int .i64 0, .int .i64 0, .int .i64 0, .int .i64 0, .int .i64 0, .int .i64 0, .bool false]) (t := 59) ?hr ?_; (case hd => rfl); (case hg => rfl); (case hr => first | (go_simp; done) | (go_simp; rfl)); intro qb hg w6 hbox hb; have hcz0 : w6.cell? ⟨qb, 0, none⟩ = some (.int .i64 0) := (blk_cell hbox 0).trans rfl; have hfz0 := blk_frozen hbox 0; have hcz1 : w6.cell? ⟨qb, 1, none⟩ = some (.int .i64 0) := (blk_cell hbox 1).trans rfl; have hfz1 := blk_frozen hbox 1; have hcz2 : w6.cell? ⟨qb, 2, none⟩ = some (.int .i64 0) := (blk_cell hbox 2).trans rfl; have hfz2 := blk_frozen hbox 2; have hcz3 : w6.cell? ⟨qb, 3, none⟩ = some (.int .i64 0) := (blk_cell hbox 3).trans rfl; have hfz3 := blk_frozen hbox 3; have hcz4 : w6.cell? ⟨qb, 4, none⟩ = some (.int .i64 0) := (blk_cell hbox 4).trans rfl; have hfz4 := blk_frozen hbox 4; have hcz5 : w6.cell? ⟨qb, 5, none⟩ = some (.int .i64 0) := (blk_cell hbox 5).trans rfl; have hfz5 := blk_frozen hbox 5; have hcz6 : w6.cell? ⟨qb, 6, none⟩ = some (.bool false) := (blk_cell hbox 6).trans rfl; have hfz6 := blk_frozen hbox 6; have BX := Aside0.mk hbox; have KX := Aside0.mk hb; have HGB := Aside0.mk hg; clear hbox hb hg)
        have B7 : Below w5.heap.size w5 (((((((w6.setCell ⟨qb, 0, none⟩ (.int .i64 v0)).setCell ⟨qb, 1, none⟩ (.int .i64 v1)).setCell ⟨qb, 2, none⟩ (.int .i64 v2)).setCell ⟨qb, 3, none⟩ (.int .i64 v3)).setCell ⟨qb, 4, none⟩ (.int .i64 v4)).setCell ⟨qb, 5, none⟩ (.int .i64 v5)).setCell ⟨qb, 6, none⟩ (.bool true)) := lay59_bel (.int .i64 v0) (.int .i64 v1) (.int .i64 v2) (.int .i64 v3) (.int .i64 v4) (.int .i64 v5) (.bool true) KX.out (Nat.le_of_eq HGB.out.symm)
        have X7 : (((((((w6.setCell ⟨qb, 0, none⟩ (.int .i64 v0)).setCell ⟨qb, 1, none⟩ (.int .i64 v1)).setCell ⟨qb, 2, none⟩ (.int .i64 v2)).setCell ⟨qb, 3, none⟩ (.int .i64 v3)).setCell ⟨qb, 4, none⟩ (.int .i64 v4)).setCell ⟨qb, 5, none⟩ (.int .i64 v5)).setCell ⟨qb, 6, none⟩ (.bool true)).heap[qb]? = some (.cells #[.int .i64 v0, .int .i64 v1, .int .i64 v2, .int .i64 v3, .int .i64 v4, .int .i64 v5, .bool true] 59 (0, 0)) := lay59_blk (.int .i64 v0) (.int .i64 v1) (.int .i64 v2) (.int .i64 v3) (.int .i64 v4) (.int .i64 v5) (.bool true) BX.out
        have hqb : w5.heap.size ≤ qb := Nat.le_of_eq HGB.out.symm
        generalize (((((((w6.setCell ⟨qb, 0, none⟩ (.int .i64 v0)).setCell ⟨qb, 1, none⟩ (.int .i64 v1)).setCell ⟨qb, 2, none⟩ (.int .i64 v2)).setCell ⟨qb, 3, none⟩ (.int .i64 v3)).setCell ⟨qb, 4, none⟩ (.int .i64 v4)).setCell ⟨qb, 5, none⟩ (.int .i64 v5)).setCell ⟨qb, 6, none⟩ (.bool true)) = w7 at B7 X7 ⊢
        have hq0 : w7.cell? ⟨qb, 5, none⟩ = some (.int .i64 v5) := (blk_cell X7 5).trans rfl
        have hq6 : w7.cell? ⟨qb, 6, none⟩ = some (.bool true) := (blk_cell X7 6).trans rfl
        have hqf := blk_frozen X7 5
        have hqf6 := blk_frozen X7 6
        have hy0 : w7.cell? ⟨pb, 0, none⟩ = some (.bool u) := pw_cell_below B7 hp0
        have hy1 : w7.cell? ⟨pb, 1, none⟩ = some (.int .i64 c) := pw_cell_below B7 hp1
        have hpl : pb < w5.heap.size := World.block_lt_of_cell? w5 _ hp0
        have hpq : ¬ (pb = qb) := by omega
        have hqp : ¬ (qb = pb) := by omega
        clear hcz0 hfz0 hcz1 hfz1 hcz2 hfz2 hcz3 hfz3 hcz4 hfz4 hcz5 hfz5 hcz6 hfz6 BX KX HGB hp0 hp1 hp2 hp3 hp4 hp5 hp6 hp7 hp8 hp9 hp10
        go_upto_region 8 with fail
        have B8 : Below w5.heap.size w5 ((w7.setCell ⟨qb, 5, none⟩ (.int .i64 c)).setCell ⟨qb, 6, none⟩ (.bool true)) := below_set (below_set B7 hqb) hqb
        have X8 : ((w7.setCell ⟨qb, 5, none⟩ (.int .i64 c)).setCell ⟨qb, 6, none⟩ (.bool true)).heap[qb]? = some (.cells #[.int .i64 v0, .int .i64 v1, .int .i64 v2, .int .i64 v3, .int .i64 v4, .int .i64 c, .bool true] 59 (0, 0)) := blk_put (cs := #[.int .i64 v0, .int .i64 v1, .int .i64 v2, .int .i64 v3, .int .i64 v4, .int .i64 c, .bool true]) (blk_put X7 5 _ rfl) 6 _ rfl
        generalize (w7.setCell ⟨qb, 5, none⟩ (.int .i64 c)).setCell ⟨qb, 6, none⟩ (.bool true) = w8 at B8 X8 ⊢
        have hr0 : w8.cell? ⟨qb, 0, none⟩ = some (.int .i64 v0) := (blk_cell X8 0).trans rfl
        have hr1 : w8.cell? ⟨qb, 1, none⟩ = some (.int .i64 v1) := (blk_cell X8 1).trans rfl
        have hr2 : w8.cell? ⟨qb, 2, none⟩ = some (.int .i64 v2) := (blk_cell X8 2).trans rfl
        have hr3 : w8.cell? ⟨qb, 3, none⟩ = some (.int .i64 v3) := (blk_cell X8 3).trans rfl
        have hr4 : w8.cell? ⟨qb, 4, none⟩ = some (.int .i64 v4) := (blk_cell X8 4).trans rfl
        have hr5 : w8.cell? ⟨qb, 5, none⟩ = some (.int .i64 c) := (blk_cell X8 5).trans rfl
        have hr6 : w8.cell? ⟨qb, 6, none⟩ = some (.bool true) := (blk_cell X8 6).trans rfl
        have HB8 := Aside0.mk (below_step HB.out (below_step B5 B8))
        have HO8 := Aside0.mk (Gen.R_kept rfl HO.out (Kept.of_below (below_step B5 B8) (fun _ => False)) (fun _ _ h => h))
        have HBB := Aside0.mk (below_step B5 B8)
        clear B5 B7 B8 X7 X8 hq0 hq6 hqf hqf6 hy0 hy1 HO
        go_wp2_with ((with_reducible refine gate_builtin (b := .append) (xs := #[.tmp 29, .tmp 31]) rfl ?_); at_builtin; refine Kd.R_append k59 (w0 := w) w.heap.size rfl (.tmp 29) (.tmp 31) 99 59 (.agg #[(.int .i64 0), (.int .i64 0), (.int .i64 0), (.int .i64 0), (.int .i64 0), (.int .i64 0), (.bool false)]) 56 rfl Tryd.underlying99 info59 rfl (by decide) (by decide) u3 Q ⟨⟨v0, v1, v2, v3⟩, v4, c, true⟩ [.int .i64 v0, .int .i64 v1, .int .i64 v2, .int .i64 v3, .int .i64 v4, .int .i64 c, .bool true] (fun _ => True) (fun _ => False) rfl ?hx ?aP (fun _ hk => hk.elim) ?aF ?aO ?aB ?aS ?aL ?_; (case hx => simp [Act.eval, World.size_alloc]); (case aP => exact k59_mkM _ _ _ ⟨⟨v0, v1, v2, v3⟩, v4, c, true⟩); (case aB => repeat (with_reducible first | exact HB8.out | apply below_alloc | apply pw_below_drewN | apply below_drew1)); (case aF => exact fun _ _ => trivial); (case aO => (with_reducible repeat (first | apply Kd.R_alloc | apply Kd.R_drewN | apply Kd.R_drew)); exact HO8.out); (case aS => exact (by repeat (with_reducible first | exact HB8.out | apply below_alloc | apply pw_below_drewN | apply below_drew1) : Below w.heap.size w _).size); (case aL => exact HLL.out); intro u9 w9 ho9 hb9 hg9 hat9; have HO9 := Aside0.mk ho9; have HB9 := Aside0.mk hb9; clear ho9 hb9 hg9 hat9)
        go_roundg (P.length - (i + 1))
        case measure => omega
        case rel => exact ⟨i + 1, by go_num, by omega, Nat.le_refl _, ⟨by rw [HST.out]; exact HO9.out⟩, HB9⟩
      · subst e6; subst e0
        go_upto_region 5 with ((with_reducible refine gate_dst (N := 5) rfl ?_); refine box_event ?hg (N := 5) ?hd (cs := #[.bool false, .int .i64 0, .int .i64 0, .int .i64 0, .int .i64 0, .int .i64 0, .int .i64 0, .int .i64 0, .bool false, .int .i64 0, .slice none 0 0]) (t := 62) ?hr ?_; (case hd => rfl); (case hg => rfl); (case hr => first | (go_simp; done) | (go_simp; rfl)); intro pb hg w4 hbox hb; have hcz0 : w4.cell? ⟨pb, 0, none⟩ = some (.bool false) := (blk_cell hbox 0).trans rfl; have hfz0 := blk_frozen hbox 0; have hcz1 : w4.cell? ⟨pb, 1, none⟩ = some (.int .i64 0) := (blk_cell hbox 1).trans rfl; have hfz1 := blk_frozen hbox 1; have hcz2 : w4.cell? ⟨pb, 2, none⟩ = some (.int .i64 0) := (blk_cell hbox 2).trans rfl; have hfz2 := blk_frozen hbox 2; have hcz3 : w4.cell? ⟨pb, 3, none⟩ = some (.int .i64 0) := (blk_cell hbox 3).trans rfl; have hfz3 := blk_frozen hbox 3; have hcz4 : w4.cell? ⟨pb, 4, none⟩ = some (.int .i64 0) := (blk_cell hbox 4).trans rfl; have hfz4 := blk_frozen hbox 4; have hcz5 : w4.cell? ⟨pb, 5, none⟩ = some (.int .i64 0) := (blk_cell hbox 5).trans rfl; have hfz5 := blk_frozen hbox 5; have hcz6 : w4.cell? ⟨pb, 6, none⟩ = some (.int .i64 0) := (blk_cell hbox 6).trans rfl; have hfz6 := blk_frozen hbox 6; have hcz7 : w4.cell? ⟨pb, 7, none⟩ = some (.int .i64 0) := (blk_cell hbox 7).trans rfl; have hfz7 := blk_frozen hbox 7; have hcz8 : w4.cell? ⟨pb, 8, none⟩ = some (.bool false) := (blk_cell hbox 8).trans rfl; have hfz8 := blk_frozen hbox 8; have hcz9 : w4.cell? ⟨pb, 9, none⟩ = some (.int .i64 0) := (blk_cell hbox 9).trans rfl; have hfz9 := blk_frozen hbox 9; have hcz10 : w4.cell? ⟨pb, 10, none⟩ = some (.slice none 0 0) := (blk_cell hbox 10).trans rfl; have hfz10 := blk_frozen hbox 10; have BX := Aside0.mk hbox; have KX := Aside0.mk hb; have HGB := Aside0.mk hg; clear hbox hb hg)
        have B5 : Below wr.heap.size wr (((((((((((w4.setCell ⟨pb, 0, none⟩ (.bool true)).setCell ⟨pb, 1, none⟩ (.int .i64 c)).setCell ⟨pb, 2, none⟩ (.int .i64 v0)).setCell ⟨pb, 3, none⟩ (.int .i64 v1)).setCell ⟨pb, 4, none⟩ (.int .i64 v2)).setCell ⟨pb, 5, none⟩ (.int .i64 v3)).setCell ⟨pb, 6, none⟩ (.int .i64 v4)).setCell ⟨pb, 7, none⟩ (.int .i64 v5)).setCell ⟨pb, 8, none⟩ (.bool false)).setCell ⟨pb, 9, none⟩ (.int .i64 a)).setCell ⟨pb, 10, none⟩ (.slice A n k)) := lay62_bel (.bool true) (.int .i64 c) (.int .i64 v0) (.int .i64 v1) (.int .i64 v2) (.int .i64 v3) (.int .i64 v4) (.int .i64 v5) (.bool false) (.int .i64 a) (.slice A n k) KX.out (Nat.le_of_eq HGB.out.symm)
        have X5 : (((((((((((w4.setCell ⟨pb, 0, none⟩ (.bool true)).setCell ⟨pb, 1, none⟩ (.int .i64 c)).setCell ⟨pb, 2, none⟩ (.int .i64 v0)).setCell ⟨pb, 3, none⟩ (.int .i64 v1)).setCell ⟨pb, 4, none⟩ (.int .i64 v2)).setCell ⟨pb, 5, none⟩ (.int .i64 v3)).setCell ⟨pb, 6, none⟩ (.int .i64 v4)).setCell ⟨pb, 7, none⟩ (.int .i64 v5)).setCell ⟨pb, 8, none⟩ (.bool false)).setCell ⟨pb, 9, none⟩ (.int .i64 a)).setCell ⟨pb, 10, none⟩ (.slice A n k)).heap[pb]? = some (.cells #[.bool true, .int .i64 c, .int .i64 v0, .int .i64 v1, .int .i64 v2, .int .i64 v3, .int .i64 v4, .int .i64 v5, .bool false, .int .i64 a, .slice A n k] 62 (0, 0)) := lay62_blk (.bool true) (.int .i64 c) (.int .i64 v0) (.int .i64 v1) (.int .i64 v2) (.int .i64 v3) (.int .i64 v4) (.int .i64 v5) (.bool false) (.int .i64 a) (.slice A n k) BX.out
        generalize (((((((((((w4.setCell ⟨pb, 0, none⟩ (.bool true)).setCell ⟨pb, 1, none⟩ (.int .i64 c)).setCell ⟨pb, 2, none⟩ (.int .i64 v0)).setCell ⟨pb, 3, none⟩ (.int .i64 v1)).setCell ⟨pb, 4, none⟩ (.int .i64 v2)).setCell ⟨pb, 5, none⟩ (.int .i64 v3)).setCell ⟨pb, 6, none⟩ (.int .i64 v4)).setCell ⟨pb, 7, none⟩ (.int .i64 v5)).setCell ⟨pb, 8, none⟩ (.bool false)).setCell ⟨pb, 9, none⟩ (.int .i64 a)).setCell ⟨pb, 10, none⟩ (.slice A n k)) = w5 at B5 X5 ⊢
        have hp0 : w5.cell? ⟨pb, 0, none⟩ = some (.bool true) := (blk_cell X5 0).trans rfl
        have hp1 : w5.cell? ⟨pb, 1, none⟩ = some (.int .i64 c) := (blk_cell X5 1).trans rfl
        have hp2 : w5.cell? ⟨pb, 2, none⟩ = some (.int .i64 v0) := (blk_cell X5 2).trans rfl
        have hp3 : w5.cell? ⟨pb, 3, none⟩ = some (.int .i64 v1) := (blk_cell X5 3).trans rfl
        have hp4 : w5.cell? ⟨pb, 4, none⟩ = some (.int .i64 v2) := (blk_cell X5 4).trans rfl
        have hp5 : w5.cell? ⟨pb, 5, none⟩ = some (.int .i64 v3) := (blk_cell X5 5).trans rfl
        have hp6 : w5.cell? ⟨pb, 6, none⟩ = some (.int .i64 v4) := (blk_cell X5 6).trans rfl
        have hp7 : w5.cell? ⟨pb, 7, none⟩ = some (.int .i64 v5) := (blk_cell X5 7).trans rfl
        have hp8 : w5.cell? ⟨pb, 8, none⟩ = some (.bool false) := (blk_cell X5 8).trans rfl
        have hp9 : w5.cell? ⟨pb, 9, none⟩ = some (.int .i64 a) := (blk_cell X5 9).trans rfl
        have hp10 : w5.cell? ⟨pb, 10, none⟩ = some (.slice A n k) := (blk_cell X5 10).trans rfl
        clear hcz0 hfz0 hcz1 hfz1 hcz2 hfz2 hcz3 hfz3 hcz4 hfz4 hcz5 hfz5 hcz6 hfz6 hcz7 hfz7 hcz8 hfz8 hcz9 hfz9 hcz10 hfz10 BX KX HGB X5 hx0 hx1 hx2 hx3 hx4 hx5 hx6 hx7 hx8 hx9 hx10
        go_upto_region 6 with ((with_reducible refine gate_dst (N := 6) rfl ?_); refine box_event ?hg (N := 6) ?hd (cs := #[.int .i64 0, .int .i64 0, .int .i64 0, .int .i64 0, .int .i64 0, .int .i64 0, .bool false]) (t := 59) ?hr ?_; (case hd => rfl); (case hg => rfl); (case hr => first | (go_simp; done) | (go_simp; rfl)); intro qb hg w6 hbox hb; have hcz0 : w6.cell? ⟨qb, 0, none⟩ = some (.int .i64 0) := (blk_cell hbox 0).trans rfl; have hfz0 := blk_frozen hbox 0; have hcz1 : w6.cell? ⟨qb, 1, none⟩ = some (.int .i64 0) := (blk_cell hbox 1).trans rfl; have hfz1 := blk_frozen hbox 1; have hcz2 : w6.cell? ⟨qb, 2, none⟩ = some (.int .i64 0) := (blk_cell hbox 2).trans rfl; have hfz2 := blk_frozen hbox 2; have hcz3 : w6.cell? ⟨qb, 3, none⟩ = some (.int .i64 0) := (blk_cell hbox 3).trans rfl; have hfz3 := blk_frozen hbox 3; have hcz4 : w6.cell? ⟨qb, 4, none⟩ = some (.int .i64 0) := (blk_cell hbox 4).trans rfl; have hfz4 := blk_frozen hbox 4; have hcz5 : w6.cell? ⟨qb, 5, none⟩ = some (.int .i64 0) := (blk_cell hbox 5).trans rfl; have hfz5 := blk_frozen hbox 5; have hcz6 : w6.cell? ⟨qb, 6, none⟩ = some (.bool false) := (blk_cell hbox 6).trans rfl; have hfz6 := blk_frozen hbox 6; have BX := Aside0.mk hbox; have KX := Aside0.mk hb; have HGB := Aside0.mk hg; clear hbox hb hg)
        have B7 : Below w5.heap.size w5 (((((((w6.setCell ⟨qb, 0, none⟩ (.int .i64 v0)).setCell ⟨qb, 1, none⟩ (.int .i64 v1)).setCell ⟨qb, 2, none⟩ (.int .i64 v2)).setCell ⟨qb, 3, none⟩ (.int .i64 v3)).setCell ⟨qb, 4, none⟩ (.int .i64 v4)).setCell ⟨qb, 5, none⟩ (.int .i64 v5)).setCell ⟨qb, 6, none⟩ (.bool false)) := lay59_bel (.int .i64 v0) (.int .i64 v1) (.int .i64 v2) (.int .i64 v3) (.int .i64 v4) (.int .i64 v5) (.bool false) KX.out (Nat.le_of_eq HGB.out.symm)
        have X7 : (((((((w6.setCell ⟨qb, 0, none⟩ (.int .i64 v0)).setCell ⟨qb, 1, none⟩ (.int .i64 v1)).setCell ⟨qb, 2, none⟩ (.int .i64 v2)).setCell ⟨qb, 3, none⟩ (.int .i64 v3)).setCell ⟨qb, 4, none⟩ (.int .i64 v4)).setCell ⟨qb, 5, none⟩ (.int .i64 v5)).setCell ⟨qb, 6, none⟩ (.bool false)).heap[qb]? = some (.cells #[.int .i64 v0, .int .i64 v1, .int .i64 v2, .int .i64 v3, .int .i64 v4, .int .i64 v5, .bool false] 59 (0, 0)) := lay59_blk (.int .i64 v0) (.int .i64 v1) (.int .i64 v2) (.int .i64 v3) (.int .i64 v4) (.int .i64 v5) (.bool false) BX.out
        have hqb : w5.heap.size ≤ qb := Nat.le_of_eq HGB.out.symm
        generalize (((((((w6.setCell ⟨qb, 0, none⟩ (.int .i64 v0)).setCell ⟨qb, 1, none⟩ (.int .i64 v1)).setCell ⟨qb, 2, none⟩ (.int .i64 v2)).setCell ⟨qb, 3, none⟩ (.int .i64 v3)).setCell ⟨qb, 4, none⟩ (.int .i64 v4)).setCell ⟨qb, 5, none⟩ (.int .i64 v5)).setCell ⟨qb, 6, none⟩ (.bool false)) = w7 at B7 X7 ⊢
        have hq0 : w7.cell? ⟨qb, 5, none⟩ = some (.int .i64 v5) := (blk_cell X7 5).trans rfl
        have hq6 : w7.cell? ⟨qb, 6, none⟩ = some (.bool false) := (blk_cell X7 6).trans rfl
        have hqf := blk_frozen X7 5
        have hqf6 := blk_frozen X7 6
        have hy0 : w7.cell? ⟨pb, 0, none⟩ = some (.bool true) := pw_cell_below B7 hp0
        have hy1 : w7.cell? ⟨pb, 1, none⟩ = some (.int .i64 c) := pw_cell_below B7 hp1
        have hpl : pb < w5.heap.size := World.block_lt_of_cell? w5 _ hp0
        have hpq : ¬ (pb = qb) := by omega
        have hqp : ¬ (qb = pb) := by omega
        clear hcz0 hfz0 hcz1 hfz1 hcz2 hfz2 hcz3 hfz3 hcz4 hfz4 hcz5 hfz5 hcz6 hfz6 BX KX HGB hp0 hp1 hp2 hp3 hp4 hp5 hp6 hp7 hp8 hp9 hp10
        go_upto_region 8 with fail
        have B8 : Below w5.heap.size w5 ((w7.setCell ⟨qb, 5, none⟩ (.int .i64 c)).setCell ⟨qb, 6, none⟩ (.bool false)) := below_set (below_set B7 hqb) hqb
        have X8 : ((w7.setCell ⟨qb, 5, none⟩ (.int .i64 c)).setCell ⟨qb, 6, none⟩ (.bool false)).heap[qb]? = some (.cells #[.int .i64 v0, .int .i64 v1, .int .i64 v2, .int .i64 v3, .int .i64 v4, .int .i64 c, .bool false] 59 (0, 0)) := blk_put (cs := #[.int .i64 v0, .int .i64 v1, .int .i64 v2, .int .i64 v3, .int .i64 v4, .int .i64 c, .bool false]) (blk_put X7 5 _ rfl) 6 _ rfl
        generalize (w7.setCell ⟨qb, 5, none⟩ (.int .i64 c)).setCell ⟨qb, 6, none⟩ (.bool false) = w8 at B8 X8 ⊢
        have hr0 : w8.cell? ⟨qb, 0, none⟩ = some (.int .i64 v0) := (blk_cell X8 0).trans rfl
        have hr1 : w8.cell? ⟨qb, 1, none⟩ = some (.int .i64 v1) := (blk_cell X8 1).trans rfl
        have hr2 : w8.cell? ⟨qb, 2, none⟩ = some (.int .i64 v2) := (blk_cell X8 2).trans rfl
        have hr3 : w8.cell? ⟨qb, 3, none⟩ = some (.int .i64 v3) := (blk_cell X8 3).trans rfl
        have hr4 : w8.cell? ⟨qb, 4, none⟩ = some (.int .i64 v4) := (blk_cell X8 4).trans rfl
        have hr5 : w8.cell? ⟨qb, 5, none⟩ = some (.int .i64 c) := (blk_cell X8 5).trans rfl
        have hr6 : w8.cell? ⟨qb, 6, none⟩ = some (.bool false) := (blk_cell X8 6).trans rfl
        have HB8 := Aside0.mk (below_step HB.out (below_step B5 B8))
        have HO8 := Aside0.mk (Gen.R_kept rfl HO.out (Kept.of_below (below_step B5 B8) (fun _ => False)) (fun _ _ h => h))
        have HBB := Aside0.mk (below_step B5 B8)
        clear B5 B7 B8 X7 X8 hq0 hq6 hqf hqf6 hy0 hy1 HO
        go_wp2_with ((with_reducible refine gate_builtin (b := .append) (xs := #[.tmp 29, .tmp 31]) rfl ?_); at_builtin; refine Kd.R_append k59 (w0 := w) w.heap.size rfl (.tmp 29) (.tmp 31) 99 59 (.agg #[(.int .i64 0), (.int .i64 0), (.int .i64 0), (.int .i64 0), (.int .i64 0), (.int .i64 0), (.bool false)]) 56 rfl Tryd.underlying99 info59 rfl (by decide) (by decide) u3 Q ⟨⟨v0, v1, v2, v3⟩, v4, c, false⟩ [.int .i64 v0, .int .i64 v1, .int .i64 v2, .int .i64 v3, .int .i64 v4, .int .i64 c, .bool false] (fun _ => True) (fun _ => False) rfl ?hx ?aP (fun _ hk => hk.elim) ?aF ?aO ?aB ?aS ?aL ?_; (case hx => simp [Act.eval, World.size_alloc]); (case aP => exact k59_mkM _ _ _ ⟨⟨v0, v1, v2, v3⟩, v4, c, false⟩); (case aB => repeat (with_reducible first | exact HB8.out | apply below_alloc | apply pw_below_drewN | apply below_drew1)); (case aF => exact fun _ _ => trivial); (case aO => (with_reducible repeat (first | apply Kd.R_alloc | apply Kd.R_drewN | apply Kd.R_drew)); exact HO8.out); (case aS => exact (by repeat (with_reducible first | exact HB8.out | apply below_alloc | apply pw_below_drewN | apply below_drew1) : Below w.heap.size w _).size); (case aL => exact HLL.out); intro u9 w9 ho9 hb9 hg9 hat9; have HO9 := Aside0.mk ho9; have HB9 := Aside0.mk hb9; clear ho9 hb9 hg9 hat9)
        go_roundg (P.length - (i + 1))
        case measure => omega
        case rel => exact ⟨i + 1, by go_num, by omega, Nat.le_refl _, ⟨by rw [HST.out]; exact HO9.out⟩, HB9⟩
      · subst e6; subst e0
        go_upto_region 5 with ((with_reducible refine gate_dst (N := 5) rfl ?_); refine box_event ?hg (N := 5) ?hd (cs := #[.bool false, .int .i64 0, .int .i64 0, .int .i64 0, .int .i64 0, .int .i64 0, .int .i64 0, .int .i64 0, .bool false, .int .i64 0, .slice none 0 0]) (t := 62) ?hr ?_; (case hd => rfl); (case hg => rfl); (case hr => first | (go_simp; done) | (go_simp; rfl)); intro pb hg w4 hbox hb; have hcz0 : w4.cell? ⟨pb, 0, none⟩ = some (.bool false) := (blk_cell hbox 0).trans rfl; have hfz0 := blk_frozen hbox 0; have hcz1 : w4.cell? ⟨pb, 1, none⟩ = some (.int .i64 0) := (blk_cell hbox 1).trans rfl; have hfz1 := blk_frozen hbox 1; have hcz2 : w4.cell? ⟨pb, 2, none⟩ = some (.int .i64 0) := (blk_cell hbox 2).trans rfl; have hfz2 := blk_frozen hbox 2; have hcz3 : w4.cell? ⟨pb, 3, none⟩ = some (.int .i64 0) := (blk_cell hbox 3).trans rfl; have hfz3 := blk_frozen hbox 3; have hcz4 : w4.cell? ⟨pb, 4, none⟩ = some (.int .i64 0) := (blk_cell hbox 4).trans rfl; have hfz4 := blk_frozen hbox 4; have hcz5 : w4.cell? ⟨pb, 5, none⟩ = some (.int .i64 0) := (blk_cell hbox 5).trans rfl; have hfz5 := blk_frozen hbox 5; have hcz6 : w4.cell? ⟨pb, 6, none⟩ = some (.int .i64 0) := (blk_cell hbox 6).trans rfl; have hfz6 := blk_frozen hbox 6; have hcz7 : w4.cell? ⟨pb, 7, none⟩ = some (.int .i64 0) := (blk_cell hbox 7).trans rfl; have hfz7 := blk_frozen hbox 7; have hcz8 : w4.cell? ⟨pb, 8, none⟩ = some (.bool false) := (blk_cell hbox 8).trans rfl; have hfz8 := blk_frozen hbox 8; have hcz9 : w4.cell? ⟨pb, 9, none⟩ = some (.int .i64 0) := (blk_cell hbox 9).trans rfl; have hfz9 := blk_frozen hbox 9; have hcz10 : w4.cell? ⟨pb, 10, none⟩ = some (.slice none 0 0) := (blk_cell hbox 10).trans rfl; have hfz10 := blk_frozen hbox 10; have BX := Aside0.mk hbox; have KX := Aside0.mk hb; have HGB := Aside0.mk hg; clear hbox hb hg)
        have B5 : Below wr.heap.size wr (((((((((((w4.setCell ⟨pb, 0, none⟩ (.bool false)).setCell ⟨pb, 1, none⟩ (.int .i64 c)).setCell ⟨pb, 2, none⟩ (.int .i64 v0)).setCell ⟨pb, 3, none⟩ (.int .i64 v1)).setCell ⟨pb, 4, none⟩ (.int .i64 v2)).setCell ⟨pb, 5, none⟩ (.int .i64 v3)).setCell ⟨pb, 6, none⟩ (.int .i64 v4)).setCell ⟨pb, 7, none⟩ (.int .i64 v5)).setCell ⟨pb, 8, none⟩ (.bool false)).setCell ⟨pb, 9, none⟩ (.int .i64 a)).setCell ⟨pb, 10, none⟩ (.slice A n k)) := lay62_bel (.bool false) (.int .i64 c) (.int .i64 v0) (.int .i64 v1) (.int .i64 v2) (.int .i64 v3) (.int .i64 v4) (.int .i64 v5) (.bool false) (.int .i64 a) (.slice A n k) KX.out (Nat.le_of_eq HGB.out.symm)
        have X5 : (((((((((((w4.setCell ⟨pb, 0, none⟩ (.bool false)).setCell ⟨pb, 1, none⟩ (.int .i64 c)).setCell ⟨pb, 2, none⟩ (.int .i64 v0)).setCell ⟨pb, 3, none⟩ (.int .i64 v1)).setCell ⟨pb, 4, none⟩ (.int .i64 v2)).setCell ⟨pb, 5, none⟩ (.int .i64 v3)).setCell ⟨pb, 6, none⟩ (.int .i64 v4)).setCell ⟨pb, 7, none⟩ (.int .i64 v5)).setCell ⟨pb, 8, none⟩ (.bool false)).setCell ⟨pb, 9, none⟩ (.int .i64 a)).setCell ⟨pb, 10, none⟩ (.slice A n k)).heap[pb]? = some (.cells #[.bool false, .int .i64 c, .int .i64 v0, .int .i64 v1, .int .i64 v2, .int .i64 v3, .int .i64 v4, .int .i64 v5, .bool false, .int .i64 a, .slice A n k] 62 (0, 0)) := lay62_blk (.bool false) (.int .i64 c) (.int .i64 v0) (.int .i64 v1) (.int .i64 v2) (.int .i64 v3) (.int .i64 v4) (.int .i64 v5) (.bool false) (.int .i64 a) (.slice A n k) BX.out
        generalize (((((((((((w4.setCell ⟨pb, 0, none⟩ (.bool false)).setCell ⟨pb, 1, none⟩ (.int .i64 c)).setCell ⟨pb, 2, none⟩ (.int .i64 v0)).setCell ⟨pb, 3, none⟩ (.int .i64 v1)).setCell ⟨pb, 4, none⟩ (.int .i64 v2)).setCell ⟨pb, 5, none⟩ (.int .i64 v3)).setCell ⟨pb, 6, none⟩ (.int .i64 v4)).setCell ⟨pb, 7, none⟩ (.int .i64 v5)).setCell ⟨pb, 8, none⟩ (.bool false)).setCell ⟨pb, 9, none⟩ (.int .i64 a)).setCell ⟨pb, 10, none⟩ (.slice A n k)) = w5 at B5 X5 ⊢
        have hp0 : w5.cell? ⟨pb, 0, none⟩ = some (.bool false) := (blk_cell X5 0).trans rfl
        have hp1 : w5.cell? ⟨pb, 1, none⟩ = some (.int .i64 c) := (blk_cell X5 1).trans rfl
        have hp2 : w5.cell? ⟨pb, 2, none⟩ = some (.int .i64 v0) := (blk_cell X5 2).trans rfl
        have hp3 : w5.cell? ⟨pb, 3, none⟩ = some (.int .i64 v1) := (blk_cell X5 3).trans rfl
        have hp4 : w5.cell? ⟨pb, 4, none⟩ = some (.int .i64 v2) := (blk_cell X5 4).trans rfl
        have hp5 : w5.cell? ⟨pb, 5, none⟩ = some (.int .i64 v3) := (blk_cell X5 5).trans rfl
        have hp6 : w5.cell? ⟨pb, 6, none⟩ = some (.int .i64 v4) := (blk_cell X5 6).trans rfl
        have hp7 : w5.cell? ⟨pb, 7, none⟩ = some (.int .i64 v5) := (blk_cell X5 7).trans rfl
        have hp8 : w5.cell? ⟨pb, 8, none⟩ = some (.bool false) := (blk_cell X5 8).trans rfl
        have hp9 : w5.cell? ⟨pb, 9, none⟩ = some (.int .i64 a) := (blk_cell X5 9).trans rfl
        have hp10 : w5.cell? ⟨pb, 10, none⟩ = some (.slice A n k) := (blk_cell X5 10).trans rfl
        clear hcz0 hfz0 hcz1 hfz1 hcz2 hfz2 hcz3 hfz3 hcz4 hfz4 hcz5 hfz5 hcz6 hfz6 hcz7 hfz7 hcz8 hfz8 hcz9 hfz9 hcz10 hfz10 BX KX HGB X5 hx0 hx1 hx2 hx3 hx4 hx5 hx6 hx7 hx8 hx9 hx10
        go_upto_region 6 with ((with_reducible refine gate_dst (N := 6) rfl ?_); refine box_event ?hg (N := 6) ?hd (cs := #[.int .i64 0, .int .i64 0, .int .i64 0, .int .i64 0, .int .i64 0, .int .i64 0, .bool false]) (t := 59) ?hr ?_; (case hd => rfl); (case hg => rfl); (case hr => first | (go_simp; done) | (go_simp; rfl)); intro qb hg w6 hbox hb; have hcz0 : w6.cell? ⟨qb, 0, none⟩ = some (.int .i64 0) := (blk_cell hbox 0).trans rfl; have hfz0 := blk_frozen hbox 0; have hcz1 : w6.cell? ⟨qb, 1, none⟩ = some (.int .i64 0) := (blk_cell hbox 1).trans rfl; have hfz1 := blk_frozen hbox 1; have hcz2 : w6.cell? ⟨qb, 2, none⟩ = some (.int .i64 0) := (blk_cell hbox 2).trans rfl; have hfz2 := blk_frozen hbox 2; have hcz3 : w6.cell? ⟨qb, 3, none⟩ = some (.int .i64 0) := (blk_cell hbox 3).trans rfl; have hfz3 := blk_frozen hbox 3; have hcz4 : w6.cell? ⟨qb, 4, none⟩ = some (.int .i64 0) := (blk_cell hbox 4).trans rfl; have hfz4 := blk_frozen hbox 4; have hcz5 : w6.cell? ⟨qb, 5, none⟩ = some (.int .i64 0) := (blk_cell hbox 5).trans rfl; have hfz5 := blk_frozen hbox 5; have hcz6 : w6.cell? ⟨qb, 6, none⟩ = some (.bool false) := (blk_cell hbox 6).trans rfl; have hfz6 := blk_frozen hbox 6; have BX := Aside0.mk hbox; have KX := Aside0.mk hb; have HGB := Aside0.mk hg; clear hbox hb hg)
        have B7 : Below w5.heap.size w5 (((((((w6.setCell ⟨qb, 0, none⟩ (.int .i64 v0)).setCell ⟨qb, 1, none⟩ (.int .i64 v1)).setCell ⟨qb, 2, none⟩ (.int .i64 v2)).setCell ⟨qb, 3, none⟩ (.int .i64 v3)).setCell ⟨qb, 4, none⟩ (.int .i64 v4)).setCell ⟨qb, 5, none⟩ (.int .i64 v5)).setCell ⟨qb, 6, none⟩ (.bool false)) := lay59_bel (.int .i64 v0) (.int .i64 v1) (.int .i64 v2) (.int .i64 v3) (.int .i64 v4) (.int .i64 v5) (.bool false) KX.out (Nat.le_of_eq HGB.out.symm)
        have X7 : (((((((w6.setCell ⟨qb, 0, none⟩ (.int .i64 v0)).setCell ⟨qb, 1, none⟩ (.int .i64 v1)).setCell ⟨qb, 2, none⟩ (.int .i64 v2)).setCell ⟨qb, 3, none⟩ (.int .i64 v3)).setCell ⟨qb, 4, none⟩ (.int .i64 v4)).setCell ⟨qb, 5, none⟩ (.int .i64 v5)).setCell ⟨qb, 6, none⟩ (.bool false)).heap[qb]? = some (.cells #[.int .i64 v0, .int .i64 v1, .int .i64 v2, .int .i64 v3, .int .i64 v4, .int .i64 v5, .bool false] 59 (0, 0)) := lay59_blk (.int .i64 v0) (.int .i64 v1) (.int .i64 v2) (.int .i64 v3) (.int .i64 v4) (.int .i64 v5) (.bool false) BX.out
        have hqb : w5.heap.size ≤ qb := Nat.le_of_eq HGB.out.symm
        generalize (((((((w6.setCell ⟨qb, 0, none⟩ (.int .i64 v0)).setCell ⟨qb, 1, none⟩ (.int .i64 v1)).setCell ⟨qb, 2, none⟩ (.int .i64 v2)).setCell ⟨qb, 3, none⟩ (.int .i64 v3)).setCell ⟨qb, 4, none⟩ (.int .i64 v4)).setCell ⟨qb, 5, none⟩ (.int .i64 v5)).setCell ⟨qb, 6, none⟩ (.bool false)) = w7 at B7 X7 ⊢
        have hq0 : w7.cell? ⟨qb, 5, none⟩ = some (.int .i64 v5) := (blk_cell X7 5).trans rfl
        have hq6 : w7.cell? ⟨qb, 6, none⟩ = some (.bool false) := (blk_cell X7 6).trans rfl
        have hqf := blk_frozen X7 5
        have hqf6 := blk_frozen X7 6
        have hy0 : w7.cell? ⟨pb, 0, none⟩ = some (.bool false) := pw_cell_below B7 hp0
        have hy1 : w7.cell? ⟨pb, 1, none⟩ = some (.int .i64 c) := pw_cell_below B7 hp1
        have hpl : pb < w5.heap.size := World.block_lt_of_cell? w5 _ hp0
        have hpq : ¬ (pb = qb) := by omega
        have hqp : ¬ (qb = pb) := by omega
        clear hcz0 hfz0 hcz1 hfz1 hcz2 hfz2 hcz3 hfz3 hcz4 hfz4 hcz5 hfz5 hcz6 hfz6 BX KX HGB hp0 hp1 hp2 hp3 hp4 hp5 hp6 hp7 hp8 hp9 hp10
        go_upto_region 8 with fail
        have B8 : Below w5.heap.size w5 ((w7.setCell ⟨qb, 5, none⟩ (.int .i64 c)).setCell ⟨qb, 6, none⟩ (.bool true)) := below_set (below_set B7 hqb) hqb
        have X8 : ((w7.setCell ⟨qb, 5, none⟩ (.int .i64 c)).setCell ⟨qb, 6, none⟩ (.bool true)).heap[qb]? = some (.cells #[.int .i64 v0, .int .i64 v1, .int .i64 v2, .int .i64 v3, .int .i64 v4, .int .i64 c, .bool true] 59 (0, 0)) := blk_put (cs := #[.int .i64 v0, .int .i64 v1, .int .i64 v2, .int .i64 v3, .int .i64 v4, .int .i64 c, .bool false]) (blk_put X7 5 _ rfl) 6 _ rfl
        generalize (w7.setCell ⟨qb, 5, none⟩ (.int .i64 c)).setCell ⟨qb, 6, none⟩ (.bool true) = w8 at B8 X8 ⊢
        have hr0 : w8.cell? ⟨qb, 0, none⟩ = some (.int .i64 v0) := (blk_cell X8 0).trans rfl
        have hr1 : w8.cell? ⟨qb, 1, none⟩ = some (.int .i64 v1) := (blk_cell X8 1).trans rfl
        have hr2 : w8.cell? ⟨qb, 2, none⟩ = some (.int .i64 v2) := (blk_cell X8 2).trans rfl
        have hr3 : w8.cell? ⟨qb, 3, none⟩ = some (.int .i64 v3) := (blk_cell X8 3).trans rfl
        have hr4 : w8.cell? ⟨qb, 4, none⟩ = some (.int .i64 v4) := (blk_cell X8 4).trans rfl
        have hr5 : w8.cell? ⟨qb, 5, none⟩ = some (.int .i64 c) := (blk_cell X8 5).trans rfl
        have hr6 : w8.cell? ⟨qb, 6, none⟩ = some (.bool true) := (blk_cell X8 6).trans rfl
        have HB8 := Aside0.mk (below_step HB.out (below_step B5 B8))
        have HO8 := Aside0.mk (Gen.R_kept rfl HO.out (Kept.of_below (below_step B5 B8) (fun _ => False)) (fun _ _ h => h))
        have HBB := Aside0.mk (below_step B5 B8)
        clear B5 B7 B8 X7 X8 hq0 hq6 hqf hqf6 hy0 hy1 HO
        go_wp2_with ((with_reducible refine gate_builtin (b := .append) (xs := #[.tmp 29, .tmp 31]) rfl ?_); at_builtin; refine Kd.R_append k59 (w0 := w) w.heap.size rfl (.tmp 29) (.tmp 31) 99 59 (.agg #[(.int .i64 0), (.int .i64 0), (.int .i64 0), (.int .i64 0), (.int .i64 0), (.int .i64 0), (.bool false)]) 56 rfl Tryd.underlying99 info59 rfl (by decide) (by decide) u3 Q ⟨⟨v0, v1, v2, v3⟩, v4, c, true⟩ [.int .i64 v0, .int .i64 v1, .int .i64 v2, .int .i64 v3, .int .i64 v4, .int .i64 c, .bool true] (fun _ => True) (fun _ => False) rfl ?hx ?aP (fun _ hk => hk.elim) ?aF ?aO ?aB ?aS ?aL ?_; (case hx => simp [Act.eval, World.size_alloc]); (case aP => exact k59_mkM _ _ _ ⟨⟨v0, v1, v2, v3⟩, v4, c, true⟩); (case aB => repeat (with_reducible first | exact HB8.out | apply below_alloc | apply pw_below_drewN | apply below_drew1)); (case aF => exact fun _ _ => trivial); (case aO => (with_reducible repeat (first | apply Kd.R_alloc | apply Kd.R_drewN | apply Kd.R_drew)); exact HO8.out); (case aS => exact (by repeat (with_reducible first | exact HB8.out | apply below_alloc | apply pw_below_drewN | apply below_drew1) : Below w.heap.size w _).size); (case aL => exact HLL.out); intro u9 w9 ho9 hb9 hg9 hat9; have HO9 := Aside0.mk ho9; have HB9 := Aside0.mk hb9; clear ho9 hb9 hg9 hat9)
        go_roundg (P.length - (i + 1))
        case measure => omega
        case rel => exact ⟨i + 1, by go_num, by omega, Nat.le_refl _, ⟨by rw [HST.out]; exact HO9.out⟩, HB9⟩
    · have e : i = P.length := by omega
      subst e
      rw [List.take_length] at HO
      go_wp2
      go_ret
      exact ⟨_, rfl, HO.out, HB.out⟩
end Go.Proofs.YtfimhaodgekkgaaDoor.QTre
namespace Go.Proofs.YtfimhaodgekkgaaDoor.QTre
open Go.RowKit Go.Proofs.YtfimhaodgekkgaaDoorW.PrintWords Go.Proofs.YtfimhaodgekkgaaDoorW.PrintLast Go.Proofs.YtfimhaodgekkgaaDoorW.PrintMore
open Go.Proofs.YtfimhaodgekkgaaDoor.Gen (Own Trn)
open Go.Proofs.YtfimhaodgekkgaaDoor.Pri (FitH roles bestOf role brid conv)
set_option linter.unusedVariables false
set_option linter.unusedSimpArgs false
theorem info103 : (Tryd.prog.info? 103).map (fun i => (i.zero, i.size, i.bytes)) = some (some (.agg #[(.int .i64 0), (.int .i64 0)]), 2, 16) := by kernel_rfl
theorem C_one103 (x : S103) {w : World} {b : Nat} (h : w.heap[b]? = some (.cells (enc103 x).toArray 103 (0, 0))) : Kd.C k103 w (some ⟨b, 0, none⟩) 1 [x] := by
  have o : Own enc103 2 103 w b 1 [x] := ⟨⟨_, h, rfl, by simp [Gen.flat]; rfl⟩, Nat.le_refl _⟩
  have r := o.toR (d := k103) (base := 0) (ok := fun _ => True) (fun _ => rfl) rfl (fun w base ok x => k103_mkM w base ok x) (Nat.zero_le _) trivial (by decide)
  obtain ⟨A, c, e, _, hC⟩ := Gen.R_open r
  injection e with e1
  subst e1
  exact hC
theorem rrole10_calls (id : Int) (L : List S80) (A : Option Addr) (c n : Nat) (i : Nat) (w : World) (hln : L.length = n) (hr : Kd.C k59 w A n (L.map conv)) (hc : n ≤ c) (hn : n ≤ 1000) (hf : ∀ h ∈ L, FitH h) (hi : i < L.length) :
    Calls Tryd.prog 53 #[.int .i64 id, .slice A n c, .int .i64 i] w fun e w' => e = .returned (.int .i64 (role id (bestOf id L) i L[i])) ∧ Below w.heap.size w w' := by
  subst hln
  obtain ⟨k, hk⟩ := (Pri.role_ref id L (by omega) hf i hi).rounds
  have hl : (L.map conv).length = L.length := List.length_map _
  have := kissgateref10_Role.calls k id A c (L.map conv) i _ w (by rw [hl]; exact hr) (by rw [hl]; exact hc) hk
  rw [hl] at this
  exact this
def turnQ (id now : Int) (L : List S80) (i : Nat) (x : RQ) : RQ := ⟨x.up, x.cost, x.heard, x.at_, x.turns ++ [⟨if x.up = true then role id (bestOf id L) i (L.getD i ⟨⟨0, 0, 0, 0⟩, 0, 0, false⟩) else 0, now⟩]⟩
def updQ (id now : Int) (L : List S80) (Q : List RQ) (j : Nat) : List RQ := Q.mapIdx fun k x => if k < j then turnQ id now L k x else x
theorem updQ_len (id now : Int) (L : List S80) (Q : List RQ) (j : Nat) : (updQ id now L Q j).length = Q.length := by unfold updQ; simp
theorem updQ_zero (id now : Int) (L : List S80) (Q : List RQ) : updQ id now L Q 0 = Q := by
  apply List.ext_getElem
  · exact updQ_len _ _ _ _ _
  · intro k h1 h2; unfold updQ; simp
theorem updQ_at (id now : Int) (L : List S80) (Q : List RQ) (j k : Nat) (h : k < (updQ id now L Q j).length) : (updQ id now L Q j)[k] = if k < j then turnQ id now L k (Q[k]'(by rw [updQ_len] at h; exact h)) else Q[k]'(by rw [updQ_len] at h; exact h) := by
  simp only [updQ, List.getElem_mapIdx]
theorem upd_turn {id now : Int} {L : List S80} {P Pj : List RP} {j : Nat} (hm : Pj.map (·.q) = updQ id now L (P.map (·.q)) j) (hj : j < P.length) (hjq : j < Pj.length) (v : Value) {r : Int} (hr : r = if Pj[j].q.up = true then role id (bestOf id L) j (L.getD j ⟨⟨0, 0, 0, 0⟩, 0, 0, false⟩) else 0) :
    (Pj.set j ⟨⟨Pj[j].q.up, Pj[j].q.cost, Pj[j].q.heard, Pj[j].q.at_, Pj[j].q.turns ++ [⟨r, now⟩]⟩, v⟩).map (·.q) = updQ id now L (P.map (·.q)) (j + 1) := by
  have hl : Pj.length = P.length := by
    have := congrArg List.length hm
    rw [List.length_map, updQ_len, List.length_map] at this
    exact this
  have hg : ∀ k (hk : k < Pj.length), Pj[k].q = if k < j then turnQ id now L k (P[k]'(by omega)).q else (P[k]'(by omega)).q := by
    intro k hk
    have h1 : (Pj.map (·.q))[k]'(by rw [List.length_map]; exact hk) = (updQ id now L (P.map (·.q)) j)[k]'(by rw [updQ_len, List.length_map]; omega) := by simp only [hm]
    rw [List.getElem_map, updQ_at] at h1
    rw [h1]
    simp only [List.getElem_map]
  apply List.ext_getElem
  · rw [List.length_map, List.length_set, updQ_len, List.length_map]; exact hl
  · intro k h1 h2
    have hk : k < Pj.length := by rw [List.length_map, List.length_set] at h1; exact h1
    rw [List.getElem_map, List.getElem_set, updQ_at]
    by_cases e : j = k
    · subst e
      have hgj := hg j hjq
      rw [if_neg (by omega)] at hgj
      rw [if_pos rfl, if_pos (by omega)]
      unfold turnQ
      rw [List.getElem_map, hr, hgj]
    · rw [if_neg e, hg k hk]
      simp only [List.getElem_map]
      by_cases h3 : k < j
      · rw [if_pos h3, if_pos (by omega)]
      · rw [if_neg h3, if_neg (by omega)]
def enc59 (x : S59) : List Value := [.int .i64 x.f0.f0, .int .i64 x.f0.f1, .int .i64 x.f0.f2, .int .i64 x.f0.f3, .int .i64 x.f1, .int .i64 x.f2, .bool x.f3]
theorem R59_lt {w : World} {base : Nat} {ok : Nat → Prop} {v : Value} {xs : List S59} (h : Kd.R k59 59 w base ok v xs) {q : Nat} (hq : v.ownBlock = some q) : q < w.heap.size ∧ base ≤ q := by
  rcases Gen.Own.ofR (enc := enc59) (k := 7) (fun _ => rfl) rfl (fun w base ok x cs h => k59_openM h) h with ⟨rfl, _⟩ | ⟨b, cap, rfl, _, hb, _, ho⟩
  · cases hq
  · have e : b = q := by simpa [Value.ownBlock] using hq
    subst e
    exact ⟨ho.lt, hb⟩
theorem list_kept {W W2 : World} {base g b cap ob ocap n : Nat} {id change : Int} {P : List RP} {opens : List Bool} {vl : Value} {L : List S59} {A : Option Addr} {k0 k : Nat} (hL : Kd.R k59 59 W n (fun q => ¬ RF g b ob P q) vl L) (hg : W.grownBy W2 (Value.slice A k0 k).ownBlock) (h : RTre W base g b cap ob ocap id P change opens) {j : Nat} (hj : j < P.length) (hv : P[j].v = .slice A k0 k) (x : RQ) (v : Value) (hnew : ∀ q, v.ownBlock = some q → some q = (Value.slice A k0 k).ownBlock ∨ W.heap.size ≤ q) :
    Kd.R k59 59 (W2.setCell ⟨b, j * 11 + 10, none⟩ v) n (fun q => ¬ RF g b ob (P.set j ⟨x, v⟩) q) vl L := by
  have hK : Kept W W2 (fun q => some q = (Value.slice A k0 k).ownBlock) := ⟨hg.size, fun q hq hn => hg.block q hq hn⟩
  have h1 := Gen.R_kept rfl hL hK (fun q hq e => hL.1 q hq (.inr (.inr (.inr ⟨j, hj, by rw [hv]; exact e.symm⟩))))
  have h2 := Gen.R_kept rfl h1 (Gen.kept_set W2 b (j * 11 + 10) v) (fun q hq e => hL.1 q hq (.inr (.inl e)))
  refine Kd.R_reok rfl h2 (fun q hq hf => ?_)
  rcases RF_turn hj (w := W) (by rw [hv]; exact hnew) q hf with e | e
  · exact hL.1 q hq e
  · have := (R59_lt hL hq).1; omega
theorem turn_cell {W W4 : World} {base g b cap ob ocap : Nat} {id change : Int} {P : List RP} {opens : List Bool} {A : Option Addr} {k0 k : Nat} (h : RTre W base g b cap ob ocap id P change opens) {j : Nat} (hj : j < P.length) (hv : P[j].v = .slice A k0 k) (hg : W.grownBy W4 (Value.slice A k0 k).ownBlock) : W4.cell? ⟨b, j * 11 + 10, none⟩ = some (.slice A k0 k) := by
  have hK : Kept W W4 (fun q => some q = (Value.slice A k0 k).ownBlock) := ⟨hg.size, fun q hq hn => hg.block q hq hn⟩
  have := (rcells (h.row.kept hK (fun e => ((h.turns j hj).1 b (by rw [hv]; exact e.symm)).2.1 rfl)) j hj).c10
  rw [hv] at this
  exact this
theorem turn_slice {W W4 : World} {base g b cap ob ocap n : Nat} {id change : Int} {P : List RP} {opens : List Bool} {A : Option Addr} {k0 k : Nat} (h : RTre W base g b cap ob ocap id P change opens) {j : Nat} (hj : j < P.length) (hv : P[j].v = .slice A k0 k) (hg : W.grownBy W4 (Value.slice A k0 k).ownBlock) (hn : P.length = n) : W4.cell? ⟨g, 1, none⟩ = some (.slice (some ⟨b, 0, none⟩) n cap) := by
  have hK : Kept W W4 (fun q => some q = (Value.slice A k0 k).ownBlock) := ⟨hg.size, fun q hq hn => hg.block q hq hn⟩
  have := blk_kept h.cell hK (fun e => ((h.turns j hj).1 g (by rw [hv]; exact e.symm)).1 rfl)
  rw [hn] at this
  exact (blk_cell this 1).trans rfl
theorem turn_frozen {W W4 : World} {base g b cap ob ocap : Nat} {id change : Int} {P : List RP} {opens : List Bool} {A : Option Addr} {k0 k : Nat} (h : RTre W base g b cap ob ocap id P change opens) {j : Nat} (hj : j < P.length) (hv : P[j].v = .slice A k0 k) (hg : W.grownBy W4 (Value.slice A k0 k).ownBlock) : W4.frozen? ⟨b, j * 11 + 10, none⟩ = false := by
  have hK : Kept W W4 (fun q => some q = (Value.slice A k0 k).ownBlock) := ⟨hg.size, fun q hq hn => hg.block q hq hn⟩
  exact (h.row.kept hK (fun e => ((h.turns j hj).1 b (by rw [hv]; exact e.symm)).2.1 rfl)).fz _
set_option maxHeartbeats 8000000 in
set_option maxRecDepth 100000 in
theorem rupd_calls (base g b cap ob ocap : Nat) (id : Int) (P : List RP) (change now : Int) (opens : List Bool) (w0 w : World) (hB : Below base w0 w) (hs : base ≤ w.heap.size) (ht : RTre w base g b cap ob ocap id P change opens) (hn : P.length ≤ 100) (hf : ∀ h ∈ listQ P, FitH h) (hT : ∀ (k : Nat) (h : k < P.length), P[k].q.turns.length ≤ 1000) :
    Calls Tryd.prog 42 #[.pointer (some ⟨g, 0, none⟩), .int .i64 now] w fun e w' => e = .returned (.tuple #[]) ∧ ∃ P2 : List RP, RTre w' base g b cap ob ocap id P2 change opens ∧ P2.map (·.q) = updQ id now (listQ P) (P.map (·.q)) P.length ∧ Trn base w0 w (RF g b ob P) (RF g b ob P2) w' := by
  have e52 : ∀ args w, (callFunc 52 args).run Tryd.prog w = .ok (.enter 52 args) w := enters_of Tryd.func52 (by kernel_rfl) rfl
  have e53 : ∀ args w, (callFunc 53 args).run Tryd.prog w = .ok (.enter 53 args) w := enters_of Tryd.func53 (by kernel_rfl) rfl
  have mixed : Tryd.prog.follows .mixedOrders = true := by kernel_rfl
  have HT := Aside0.mk ht
  have HF := Aside0.mk hf
  have HTL := Aside0.mk hT
  have HSZ := Aside0.mk hs
  have HTN0 := Aside0.mk (fun (W : World) (hb : Below w.heap.size w W) => Trn.of_below (F := RF g b ob P) hB hs hb)
  have HLS := Aside0.mk (rlist_calls base g b cap ob ocap id P change opens w ht hn)
  have HLN := Aside0.mk (show (listQ P).length = P.length from List.length_map _)
  clear ht hf hT hs hB
  go_enter Tryd.func42, Tryd.ntmps42
  go_wp2_with (go_at_fn 52; refine HLS.out.mono ?_; rintro e w1 ⟨v1, rfl, h1, hb1⟩; have HL1 := Aside0.mk h1; have HB1 := Aside0.mk hb1; have hg1 : w1.cell? ⟨g, 1, none⟩ = some (.slice (some ⟨b, 0, none⟩) P.length cap) := (blk_cell (HT.out.below hb1).cell 1).trans rfl; clear h1 hb1)
  have HLI0 : Aside0 (Kd.R k59 59 w1 w.heap.size (fun q => ¬ RF g b ob P q) v1 ((listQ P).map conv)) := ⟨Kd.R_reok rfl HL1.out (fun q hq hf => by have h1 := (R59_lt HL1.out hq).2; have h2 := HT.out.lt q hf; omega)⟩
  go_loopg [14] P.length (fun gk s14 wr => ∃ (j : Nat) (Pj : List RP), s14 = .int .i64 j ∧ j ≤ P.length ∧ P.length - j ≤ gk ∧ Aside0 (RTre wr base g b cap ob ocap id Pj change opens) ∧ Aside0 (Pj.map (·.q) = updQ id now (listQ P) (P.map (·.q)) j) ∧ Aside0 (Trn base w0 w (RF g b ob P) (RF g b ob Pj) wr) ∧ Aside0 (Kd.R k59 59 wr w.heap.size (fun q => ¬ RF g b ob Pj q) v1 ((listQ P).map conv)))
  case atStart => exact ⟨0, P, rfl, Nat.zero_le _, by omega, ⟨HT.out.below HB1.out⟩, ⟨by rw [updQ_zero]⟩, ⟨HTN0.out w1 HB1.out⟩, HLI0⟩
  case round =>
    obtain ⟨j, Pj, rfl, hjl, hgk, HRT, HMP, HTN, HLI⟩ := hrel
    have HPJ : Aside0 (Pj.length = P.length) := ⟨by
      have := congrArg List.length HMP.out
      rw [List.length_map, updQ_len, List.length_map] at this
      exact this⟩
    by_cases hlt : j < P.length
    · have hlz : (j : Int) < (P.length : Int) := by omega
      have hjq : j < Pj.length := by (rw [HPJ.out]; exact hlt)
      have hgr : wr.cell? ⟨g, 1, none⟩ = some (.slice (some ⟨b, 0, none⟩) P.length cap) := by
        have := HRT.out.cell
        rw [HPJ.out] at this
        exact (blk_cell this 1).trans rfl
      have hg0 : wr.cell? ⟨g, 0, none⟩ = some (.int .i64 id) := (blk_cell HRT.out.cell 0).trans rfl
      have hx0 := (rcells HRT.out.row j hjq).c0
      have hqe : Pj[j].q = P[j].q := by
        have h1 : (Pj.map (·.q))[j]'(by rw [List.length_map]; exact hjq) = (updQ id now (listQ P) (P.map (·.q)) j)[j]'(by rw [updQ_len, List.length_map]; exact hlt) := by simp only [HMP.out]
        rw [List.getElem_map, updQ_at, if_neg (by omega), List.getElem_map] at h1
        exact h1
      obtain ⟨A, k, hvk⟩ : ∃ A k, Pj[j].v = .slice A Pj[j].q.turns.length k := Kd.R_slice (HRT.out.turns j hjq)
      have hlt2 : (Pj[j].q.turns.length + 1) * 16 ≤ 140737488355328 := by
        have := HTL.out j hlt
        rw [hqe]; omega
      have htx := HRT.out.turns j hjq
      rw [hvk] at htx
      have HRR0 : Aside0 (Pj[j].q.up = Pj[j].q.up) := ⟨rfl⟩
      obtain ⟨T, hte⟩ : ∃ T, Pj[j].q.turns = T := ⟨_, rfl⟩
      rw [hte] at hvk hlt2 htx
      have HVK := Aside0.mk hvk
      have HLT := Aside0.mk hlt2
      have HTX := Aside0.mk htx
      have HTE := Aside0.mk hte
      clear hvk hlt2 htx hte hqe HRR0
      cases hup : Pj[j].q.up
      · have HRR : Aside0 ((0 : Int) = if Pj[j].q.up = true then role id (bestOf id (listQ P)) j ((listQ P).getD j ⟨⟨0, 0, 0, 0⟩, 0, 0, false⟩) else 0) := ⟨by rw [hup]; rfl⟩
        rw [hup] at hx0
        clear hup
        have hbx := Below.refl wr.heap.size wr
        have HBS := Aside0.mk (show base ≤ wr.heap.size from Nat.le_trans HSZ.out HTN.out.size)
        have HTR := Aside0.mk (Kd.R_reok (ok := fun q => some q = (Value.slice A T.length k).ownBlock ∨ wr.heap.size ≤ q) rfl HTX.out (fun q hq => .inl hq.symm))
        have HCK := Aside0.mk (fun (w4 : World) (hg : wr.grownBy w4 (Value.slice A T.length k).ownBlock) => turn_cell HRT.out hjq HVK.out hg)
        have HFK := Aside0.mk (fun (w4 : World) (hg : wr.grownBy w4 (Value.slice A T.length k).ownBlock) => turn_frozen HRT.out hjq HVK.out hg)
        have HGK := Aside0.mk (fun (w4 : World) (hg : wr.grownBy w4 (Value.slice A T.length k).ownBlock) => turn_slice HRT.out hjq HVK.out hg HPJ.out)
        have hc10 : wr.cell? ⟨b, j * 11 + 10, none⟩ = some (.slice A T.length k) := by
          have := (rcells HRT.out.row j hjq).c10
          rw [HVK.out] at this
          exact this
        have hf10 : wr.frozen? ⟨b, j * 11 + 10, none⟩ = false := HRT.out.row.fz _
        have hbl : b < wr.heap.size := HRT.out.row.lt
        have hn1 : ¬ (b = wr.heap.size) := by omega
        have hgl : g < wr.heap.size := blk_lt HRT.out.cell
        have hn2 : ¬ (g = wr.heap.size) := by omega
        go_wp2_with fail
        go_region_law_o (refine Kd.R_append_rows_step k103 (w0 := wr) base (by rfl) (.tmp 44) (.tmp 48) 60 103 (.agg #[(.int .i64 0), (.int .i64 0)]) 16 rfl Tryd.underlying60 info103 rfl (by decide) (by decide) (.slice A T.length k) T [⟨0, now⟩] _ 1 1 (fun q => some q = (Value.slice A T.length k).ownBlock ∨ wr.heap.size ≤ q) (fun _ => False) rfl rfl ?aO ?aR (fun _ _ h => h) (fun _ h => h.elim) ?aF ?aB ?aS ?aL ?_; (case aR => exact C_one103 ⟨0, now⟩ (by first | exact blk_new _ _ | exact blk_drew (blk_new _ _))); (case aB => exact (show Below wr.heap.size wr _ from (by repeat (with_reducible first | assumption | apply below_alloc | apply pw_below_drewN | apply below_drew1))).mono HBS.out); (case aF => exact fun q hq => .inr (Nat.le_trans (show Below wr.heap.size wr _ from (by repeat (with_reducible first | assumption | apply below_alloc | apply pw_below_drewN | apply below_drew1))).size hq)); (case aO => (with_reducible repeat (first | apply Kd.R_alloc | apply Kd.R_drewN | apply Kd.R_drew)); exact HTR.out); (case aS => exact Nat.le_trans HBS.out (show Below wr.heap.size wr _ from (by repeat (with_reducible first | assumption | apply below_alloc | apply pw_below_drewN | apply below_drew1))).size); (case aL => exact HLT.out); intro u5 w4 ho4 hb4 hg4 hat4; obtain ⟨A5, c5, rfl⟩ := Kd.R_slice ho4; have hg5 : wr.grownBy w4 (Value.slice A T.length k).ownBlock := Gen.grownBy_trans (Gen.grownBy_below (by repeat (with_reducible first | assumption | apply below_alloc | apply pw_below_drewN | apply below_drew1))) (show World.grownBy _ w4 _ from hg4); have hc4 : w4.cell? ⟨b, j * 11 + 10, none⟩ = some (.slice A T.length k) := HCK.out w4 hg5; have hf4 : w4.frozen? ⟨b, j * 11 + 10, none⟩ = false := HFK.out w4 hg5; have hgr4 : w4.cell? ⟨g, 1, none⟩ = some (.slice (some ⟨b, 0, none⟩) P.length cap) := HGK.out w4 hg5; have HG5 := Aside0.mk hg5; have HO4 := Aside0.mk ho4; clear ho4 hb4 hg4 hat4 hg5)
        all_goals
          go_wp2
          go_roundg (P.length - (j + 1))
          case measure => omega
          case rel =>
            have hR := HO4.out
            have hT := HRT.out.turn hjq (by rw [HVK.out]; exact HG5.out) _ _ (by rw [HVK.out]; exact hR)
            have hU := upd_turn HMP.out hlt hjq (Value.slice A5 (T ++ [(⟨0, now⟩ : S103)]).length c5) HRR.out
            rw [HTE.out] at hU
            have t1 := Trn.grow HTN.out HSZ.out HG5.out (fun q hq => by rw [← HVK.out] at hq; exact ⟨.inr (.inr (.inr ⟨j, hjq, hq⟩)), (R103_lt (HRT.out.turns j hjq) hq).2⟩) (RF_turn (x := ⟨Pj[j].q.up, Pj[j].q.cost, Pj[j].q.heard, Pj[j].q.at_, T ++ [⟨0, now⟩]⟩) hjq (fun q hq => by rw [HVK.out]; exact hR.1 q hq))
            have hl := list_kept HLI.out HG5.out HRT.out hjq HVK.out ⟨Pj[j].q.up, Pj[j].q.cost, Pj[j].q.heard, Pj[j].q.at_, T ++ [⟨0, now⟩]⟩ _ hR.1
            have hlen : (T ++ [(⟨0, now⟩ : S103)]).length = T.length + 1 := by rw [List.length_append]; rfl
            rw [hlen] at hT hU t1 hl
            exact ⟨j + 1, _, by go_num, by omega, Nat.le_refl _, ⟨hT⟩, ⟨hU⟩, ⟨t1.set HSZ.out (.inr (.inl rfl)) HRT.out.lowb _ _⟩, ⟨hl⟩⟩
      · have hRL : (listQ P).getD j ⟨⟨0, 0, 0, 0⟩, 0, 0, false⟩ = (listQ P)[j]'(by rw [HLN.out]; exact hlt) := by rw [List.getD_eq_getElem?_getD, List.getElem?_eq_getElem (by rw [HLN.out]; exact hlt)]; rfl
        have HRR : Aside0 (role id (bestOf id (listQ P)) j ((listQ P)[j]'(by rw [HLN.out]; exact hlt)) = if Pj[j].q.up = true then role id (bestOf id (listQ P)) j ((listQ P).getD j ⟨⟨0, 0, 0, 0⟩, 0, 0, false⟩) else 0) := ⟨by rw [hup, if_pos rfl, hRL]⟩
        obtain ⟨A1, c1, ev1, hc1, hC1⟩ := Gen.R_open HLI.out
        rw [List.length_map, HLN.out] at ev1 hc1 hC1
        have HRC : Aside0 (Calls Tryd.prog 53 #[.int .i64 id, v1, .int .i64 j] wr fun e w' => e = .returned (.int .i64 (role id (bestOf id (listQ P)) j ((listQ P)[j]'(by rw [HLN.out]; exact hlt)))) ∧ Below wr.heap.size wr w') := ⟨by
          rw [ev1]
          exact rrole10_calls id (listQ P) A1 c1 P.length j wr HLN.out hC1 hc1 (by omega) HF.out (by rw [HLN.out]; exact hlt)⟩
        generalize role id (bestOf id (listQ P)) j ((listQ P)[j]'(by rw [HLN.out]; exact hlt)) = rr at HRR HRC
        rw [hup] at hx0
        clear hup ev1 hc1 hC1 hRL
        go_upto_region 7 with (go_at_fn 53; refine HRC.out.mono ?_; rintro e wx ⟨rfl, hbx0⟩; have HBX := Aside0.mk hbx0; clear hbx0)
        have HRTx := Aside0.mk (HRT.out.below HBX.out)
        have HTXx := Aside0.mk (Gen.R_kept rfl HTX.out (Kept.of_below HBX.out (fun _ => False)) (fun _ _ h => h))
        have HTNx := Aside0.mk (Trn.below HTN.out HSZ.out HBX.out)
        have HLIx := Aside0.mk (Gen.R_kept rfl HLI.out (Kept.of_below HBX.out (fun _ => False)) (fun _ _ h => h))
        have hgr2 : wx.cell? ⟨g, 1, none⟩ = some (.slice (some ⟨b, 0, none⟩) P.length cap) := pw_cell_below HBX.out hgr
        clear HRT HTX HTN HLI HRC hgr hg0 hx0
        have hbx := Below.refl wx.heap.size wx
        have HBS := Aside0.mk (show base ≤ wx.heap.size from Nat.le_trans HSZ.out HTNx.out.size)
        have HTR := Aside0.mk (Kd.R_reok (ok := fun q => some q = (Value.slice A T.length k).ownBlock ∨ wx.heap.size ≤ q) rfl HTXx.out (fun q hq => .inl hq.symm))
        have HCK := Aside0.mk (fun (w4 : World) (hg : wx.grownBy w4 (Value.slice A T.length k).ownBlock) => turn_cell HRTx.out hjq HVK.out hg)
        have HFK := Aside0.mk (fun (w4 : World) (hg : wx.grownBy w4 (Value.slice A T.length k).ownBlock) => turn_frozen HRTx.out hjq HVK.out hg)
        have HGK := Aside0.mk (fun (w4 : World) (hg : wx.grownBy w4 (Value.slice A T.length k).ownBlock) => turn_slice HRTx.out hjq HVK.out hg HPJ.out)
        have hc10 : wx.cell? ⟨b, j * 11 + 10, none⟩ = some (.slice A T.length k) := by
          have := (rcells HRTx.out.row j hjq).c10
          rw [HVK.out] at this
          exact this
        have hf10 : wx.frozen? ⟨b, j * 11 + 10, none⟩ = false := HRTx.out.row.fz _
        have hbl : b < wx.heap.size := HRTx.out.row.lt
        have hn1 : ¬ (b = wx.heap.size) := by omega
        have hgl : g < wx.heap.size := blk_lt HRTx.out.cell
        have hn2 : ¬ (g = wx.heap.size) := by omega
        go_wp2_with fail
        go_region_law_o (refine Kd.R_append_rows_step k103 (w0 := wx) base (by rfl) (.tmp 44) (.tmp 48) 60 103 (.agg #[(.int .i64 0), (.int .i64 0)]) 16 rfl Tryd.underlying60 info103 rfl (by decide) (by decide) (.slice A T.length k) T [⟨rr, now⟩] _ 1 1 (fun q => some q = (Value.slice A T.length k).ownBlock ∨ wx.heap.size ≤ q) (fun _ => False) rfl rfl ?aO ?aR (fun _ _ h => h) (fun _ h => h.elim) ?aF ?aB ?aS ?aL ?_; (case aR => exact C_one103 ⟨rr, now⟩ (by first | exact blk_new _ _ | exact blk_drew (blk_new _ _))); (case aB => exact (show Below wx.heap.size wx _ from (by repeat (with_reducible first | assumption | apply below_alloc | apply pw_below_drewN | apply below_drew1))).mono HBS.out); (case aF => exact fun q hq => .inr (Nat.le_trans (show Below wx.heap.size wx _ from (by repeat (with_reducible first | assumption | apply below_alloc | apply pw_below_drewN | apply below_drew1))).size hq)); (case aO => (with_reducible repeat (first | apply Kd.R_alloc | apply Kd.R_drewN | apply Kd.R_drew)); exact HTR.out); (case aS => exact Nat.le_trans HBS.out (show Below wx.heap.size wx _ from (by repeat (with_reducible first | assumption | apply below_alloc | apply pw_below_drewN | apply below_drew1))).size); (case aL => exact HLT.out); intro u5 w4 ho4 hb4 hg4 hat4; obtain ⟨A5, c5, rfl⟩ := Kd.R_slice ho4; have hg5 : wx.grownBy w4 (Value.slice A T.length k).ownBlock := Gen.grownBy_trans (Gen.grownBy_below (by repeat (with_reducible first | assumption | apply below_alloc | apply pw_below_drewN | apply below_drew1))) (show World.grownBy _ w4 _ from hg4); have hc4 : w4.cell? ⟨b, j * 11 + 10, none⟩ = some (.slice A T.length k) := HCK.out w4 hg5; have hf4 : w4.frozen? ⟨b, j * 11 + 10, none⟩ = false := HFK.out w4 hg5; have hgr4 : w4.cell? ⟨g, 1, none⟩ = some (.slice (some ⟨b, 0, none⟩) P.length cap) := HGK.out w4 hg5; have HG5 := Aside0.mk hg5; have HO4 := Aside0.mk ho4; clear ho4 hb4 hg4 hat4 hg5)
        all_goals
          go_wp2
          go_roundg (P.length - (j + 1))
          case measure => omega
          case rel =>
            have hR := HO4.out
            have hT := HRTx.out.turn hjq (by rw [HVK.out]; exact HG5.out) _ _ (by rw [HVK.out]; exact hR)
            have hU := upd_turn HMP.out hlt hjq (Value.slice A5 (T ++ [(⟨rr, now⟩ : S103)]).length c5) HRR.out
            rw [HTE.out] at hU
            have t1 := Trn.grow HTNx.out HSZ.out HG5.out (fun q hq => by rw [← HVK.out] at hq; exact ⟨.inr (.inr (.inr ⟨j, hjq, hq⟩)), (R103_lt (HRTx.out.turns j hjq) hq).2⟩) (RF_turn (x := ⟨Pj[j].q.up, Pj[j].q.cost, Pj[j].q.heard, Pj[j].q.at_, T ++ [⟨rr, now⟩]⟩) hjq (fun q hq => by rw [HVK.out]; exact hR.1 q hq))
            have hl := list_kept HLIx.out HG5.out HRTx.out hjq HVK.out ⟨Pj[j].q.up, Pj[j].q.cost, Pj[j].q.heard, Pj[j].q.at_, T ++ [⟨rr, now⟩]⟩ _ hR.1
            have hlen : (T ++ [(⟨rr, now⟩ : S103)]).length = T.length + 1 := by rw [List.length_append]; rfl
            rw [hlen] at hT hU t1 hl
            exact ⟨j + 1, _, by go_num, by omega, Nat.le_refl _, ⟨hT⟩, ⟨hU⟩, ⟨t1.set HSZ.out (.inr (.inl rfl)) HRTx.out.lowb _ _⟩, ⟨hl⟩⟩
    · have e : j = P.length := by omega
      subst e
      go_wp2
      go_end0
      exact ⟨rfl, Pj, HRT.out, HMP.out, HTN.out⟩
end Go.Proofs.YtfimhaodgekkgaaDoor.QTre
namespace Go.Proofs.YtfimhaodgekkgaaDoor.QTre
open Go.RowKit Go.Proofs.YtfimhaodgekkgaaDoorW.PrintWords Go.Proofs.YtfimhaodgekkgaaDoorW.PrintLast Go.Proofs.YtfimhaodgekkgaaDoorW.PrintMore
open Go.Proofs.YtfimhaodgekkgaaDoor.Gen (Own Trn)
open Go.Proofs.YtfimhaodgekkgaaDoor.Pri (FitH roles bestOf role brid conv)
set_option linter.unusedVariables false
set_option linter.unusedSimpArgs false
section
variable {w W : World} {base g b cap ob ocap : Nat} {id change : Int} {P : List RP} {opens : List Bool} {k : Nat} {x : RP}
theorem RTre.put2 (h : RTre w base g b cap ob ocap id (P.set k x) change opens) (hk : k < P.length) (j : Nat) (hj : j < 11) (y : RP) (v : Value) (e : encR y = (encR x).set j v) (hv : y.v = x.v) (ht : y.q.turns = x.q.turns) :
    RTre (w.setCell ⟨b, k * 11 + j, none⟩ v) base g b cap ob ocap id (P.set k y) change opens := by
  have hk2 : k < (P.set k x).length := by rw [List.length_set]; exact hk
  have hx : (P.set k x)[k] = x := List.getElem_set_self _
  have := h.put hk2 j hj y v (by rw [hx]; exact e) (by rw [hx]; exact hv) (by rw [hx]; exact ht)
  rw [List.set_set] at this
  exact this
theorem RTre.same (h : RTre w base g b cap ob ocap id P change opens) (k : Nat) (hk : k < P.length) : RTre w base g b cap ob ocap id (P.set k P[k]) change opens := by
  rw [List.set_getElem_self]; exact h
abbrev rforget (w : World) (b k : Nat) : World := ((((((w.setCell ⟨b, k * 11 + 2, none⟩ (.int .i64 0)).setCell ⟨b, k * 11 + 2 + 1, none⟩ (.int .i64 0)).setCell ⟨b, k * 11 + 2 + 2, none⟩ (.int .i64 0)).setCell ⟨b, k * 11 + 2 + 3, none⟩ (.int .i64 0)).setCell ⟨b, k * 11 + 2 + 4, none⟩ (.int .i64 0)).setCell ⟨b, k * 11 + 2 + 5, none⟩ (.int .i64 0)).setCell ⟨b, k * 11 + 2 + 6, none⟩ (.bool true)
theorem RTre.forget (h : RTre w base g b cap ob ocap id (P.set k x) change opens) (hk : k < P.length) : RTre (rforget w b k) base g b cap ob ocap id (P.set k ⟨⟨x.q.up, x.q.cost, none80, x.q.at_, x.q.turns⟩, x.v⟩) change opens :=
  ((((((h.put2 hk 2 (by decide) ⟨⟨x.q.up, x.q.cost, ⟨⟨0, x.q.heard.f0.f1, x.q.heard.f0.f2, x.q.heard.f0.f3⟩, x.q.heard.f1, x.q.heard.f2, x.q.heard.f3⟩, x.q.at_, x.q.turns⟩, x.v⟩ _ rfl rfl rfl).put2 hk 3 (by decide) ⟨⟨x.q.up, x.q.cost, ⟨⟨0, 0, x.q.heard.f0.f2, x.q.heard.f0.f3⟩, x.q.heard.f1, x.q.heard.f2, x.q.heard.f3⟩, x.q.at_, x.q.turns⟩, x.v⟩ _ rfl rfl rfl).put2 hk 4 (by decide) ⟨⟨x.q.up, x.q.cost, ⟨⟨0, 0, 0, x.q.heard.f0.f3⟩, x.q.heard.f1, x.q.heard.f2, x.q.heard.f3⟩, x.q.at_, x.q.turns⟩, x.v⟩ _ rfl rfl rfl).put2 hk 5 (by decide) ⟨⟨x.q.up, x.q.cost, ⟨⟨0, 0, 0, 0⟩, x.q.heard.f1, x.q.heard.f2, x.q.heard.f3⟩, x.q.at_, x.q.turns⟩, x.v⟩ _ rfl rfl rfl).put2 hk 6 (by decide) ⟨⟨x.q.up, x.q.cost, ⟨⟨0, 0, 0, 0⟩, 0, x.q.heard.f2, x.q.heard.f3⟩, x.q.at_, x.q.turns⟩, x.v⟩ _ rfl rfl rfl).put2 hk 7 (by decide) ⟨⟨x.q.up, x.q.cost, ⟨⟨0, 0, 0, 0⟩, 0, 0, x.q.heard.f3⟩, x.q.at_, x.q.turns⟩, x.v⟩ _ rfl rfl rfl).put2 hk 8 (by decide) ⟨⟨x.q.up, x.q.cost, none80, x.q.at_, x.q.turns⟩, x.v⟩ _ rfl rfl rfl
abbrev rsetUC (w : World) (b k : Nat) (up : Bool) (cost : Int) : World := (w.setCell ⟨b, k * 11, none⟩ (.bool up)).setCell ⟨b, k * 11 + 1, none⟩ (.int .i64 cost)
theorem RTre.uc (h : RTre w base g b cap ob ocap id (P.set k x) change opens) (hk : k < P.length) (up : Bool) (cost : Int) : RTre (rsetUC w b k up cost) base g b cap ob ocap id (P.set k ⟨⟨up, cost, x.q.heard, x.q.at_, x.q.turns⟩, x.v⟩) change opens :=
  (h.put2 hk 0 (by decide) ⟨⟨up, x.q.cost, x.q.heard, x.q.at_, x.q.turns⟩, x.v⟩ _ rfl rfl rfl).put2 hk 1 (by decide) ⟨⟨up, cost, x.q.heard, x.q.at_, x.q.turns⟩, x.v⟩ _ rfl rfl rfl
theorem trn_rforget {w0 : World} {F F' : Nat → Prop} (a : Trn base w0 w F F' W) (hs : base ≤ w.heap.size) (hF : F' b) (hb : base ≤ b) (k : Nat) : Trn base w0 w F F' (rforget W b k) :=
  ((((((a.set hs hF hb _ _).set hs hF hb _ _).set hs hF hb _ _).set hs hF hb _ _).set hs hF hb _ _).set hs hF hb _ _).set hs hF hb _ _
theorem trn_ruc {w0 : World} {F F' : Nat → Prop} (a : Trn base w0 w F F' W) (hs : base ≤ w.heap.size) (hF : F' b) (hb : base ≤ b) (k : Nat) (up : Bool) (cost : Int) : Trn base w0 w F F' (rsetUC W b k up cost) :=
  (a.set hs hF hb _ _).set hs hF hb _ _
end
def FitQ (x : RQ) : Prop := Pri.Fit x.heard.f0.f0 ∧ Pri.Fit x.heard.f0.f1 ∧ Pri.Fit x.cost
theorem fit_listQ {P : List RP} (h : ∀ x ∈ P, FitQ x.q) : ∀ s ∈ listQ P, FitH s := by
  intro s hs
  obtain ⟨x, hx, rfl⟩ := List.mem_map.1 hs
  exact h x hx
theorem fitq_set {P : List RP} (h : ∀ x ∈ P, FitQ x.q) (k : Nat) (y : RP) (hy : FitQ y.q) : ∀ x ∈ P.set k y, FitQ x.q := by
  intro p hp
  rcases List.mem_or_eq_of_mem_set hp with h1 | h1
  · exact h p h1
  · subst h1; exact hy
theorem turns_set {P : List RP} {m : Nat} (h : ∀ (k : Nat) (hk : k < P.length), P[k].q.turns.length ≤ m) (k : Nat) (hk : k < P.length) (y : RP) (hy : y.q.turns = P[k].q.turns) : ∀ (i : Nat) (hi : i < (P.set k y).length), (P.set k y)[i].q.turns.length ≤ m := by
  intro i hi
  have hi2 : i < P.length := by rw [List.length_set] at hi; exact hi
  rw [List.getElem_set]
  split
  · rename_i e; subst e; rw [hy]; exact h k hk
  · exact h i hi2
def setQ (x : RQ) (up : Bool) (cost : Int) : RQ := ⟨up, cost, if x.up != up then none80 else x.heard, x.at_, x.turns⟩
set_option maxHeartbeats 4000000 in
set_option maxRecDepth 100000 in
theorem rset_bad (base g b cap ob ocap : Nat) (id : Int) (P : List RP) (change now : Int) (opens : List Bool) (w : World) (ht : RTre w base g b cap ob ocap id P change opens) (i : Int) (up : Bool) (cost : Int) (hbad : ¬ (0 ≤ i ∧ i < (P.length : Int)) ∨ cost < 1 ∨ 16777216 < cost) :
    Calls Tryd.prog 23 #[.pointer (some ⟨g, 0, none⟩), .int .i64 i, .bool up, .int .i64 cost, .int .i64 now] w fun e w' => e = .returned (.int .i64 1) ∧ w' = w := by
  have hg1 : w.cell? ⟨g, 1, none⟩ = some (.slice (some ⟨b, 0, none⟩) P.length cap) := (blk_cell ht.cell 1).trans rfl
  clear ht
  have key : i < 0 ∨ (¬ i < 0 ∧ (P.length : Int) ≤ i) ∨ (¬ i < 0 ∧ ¬ (P.length : Int) ≤ i ∧ cost < 1) ∨ (¬ i < 0 ∧ ¬ (P.length : Int) ≤ i ∧ ¬ cost < 1 ∧ 16777216 < cost) := by omega
  clear hbad
  rcases key with d1 | ⟨d1, d2⟩ | ⟨d1, d2, d3⟩ | ⟨d1, d2, d3, d4⟩
  · have q1 : decide (i < 0) = true := decide_eq_true d1
    go_enter Tryd.func23, Tryd.ntmps23
    go_wp2
    go_ret
    exact ⟨rfl, rfl⟩
  · have q1 : decide (i < 0) = false := decide_eq_false d1
    have q2 : decide ((P.length : Int) ≤ i) = true := decide_eq_true d2
    go_enter Tryd.func23, Tryd.ntmps23
    go_wp2
    go_ret
    exact ⟨rfl, rfl⟩
  · have q1 : decide (i < 0) = false := decide_eq_false d1
    have q2 : decide ((P.length : Int) ≤ i) = false := decide_eq_false d2
    have q3 : decide (cost < 1) = true := decide_eq_true d3
    go_enter Tryd.func23, Tryd.ntmps23
    go_wp2
    go_ret
    exact ⟨rfl, rfl⟩
  · have q1 : decide (i < 0) = false := decide_eq_false d1
    have q2 : decide ((P.length : Int) ≤ i) = false := decide_eq_false d2
    have q3 : decide (cost < 1) = false := decide_eq_false d3
    have q4 : decide (16777216 < cost) = true := decide_eq_true d4
    go_enter Tryd.func23, Tryd.ntmps23
    go_wp2
    go_ret
    exact ⟨rfl, rfl⟩
set_option maxHeartbeats 4000000 in
set_option maxRecDepth 100000 in
theorem rset_ok (base g b cap ob ocap : Nat) (id : Int) (P : List RP) (change now : Int) (opens : List Bool) (w0 w : World) (hB : Below base w0 w) (hs : base ≤ w.heap.size) (ht : RTre w base g b cap ob ocap id P change opens) (hn : P.length ≤ 100) (hf : ∀ x ∈ P, FitQ x.q) (hT : ∀ (k : Nat) (h : k < P.length), P[k].q.turns.length ≤ 1000) (k : Nat) (hk : k < P.length) (up : Bool) (cost : Int) (hc1 : ¬ cost < 1) (hc2 : ¬ 16777216 < cost) :
    Calls Tryd.prog 23 #[.pointer (some ⟨g, 0, none⟩), .int .i64 k, .bool up, .int .i64 cost, .int .i64 now] w fun e w' => e = .returned (.int .i64 0) ∧ ∃ P2 : List RP, RTre w' base g b cap ob ocap id P2 change opens ∧ P2.map (·.q) = updQ id now (listQ (P.set k ⟨setQ P[k].q up cost, P[k].v⟩)) ((P.set k ⟨setQ P[k].q up cost, P[k].v⟩).map (·.q)) P.length ∧ Trn base w0 w (RF g b ob P) (RF g b ob P2) w' := by
  have e42 : ∀ args w, (callFunc 42 args).run Tryd.prog w = .ok (.enter 42 args) w := enters_of Tryd.func42 (by kernel_rfl) rfl
  have hg1 : w.cell? ⟨g, 1, none⟩ = some (.slice (some ⟨b, 0, none⟩) P.length cap) := (blk_cell ht.cell 1).trans rfl
  have hlz : (k : Int) < (P.length : Int) := by omega
  have d1 : decide ((k : Int) < 0) = false := decide_eq_false (by omega)
  have d2 : decide ((P.length : Int) ≤ (k : Int)) = false := decide_eq_false (by omega)
  have d3 : decide (cost < 1) = false := decide_eq_false hc1
  have d4 : decide (16777216 < cost) = false := decide_eq_false hc2
  obtain ⟨hx0, hx1, hx2, hx3, hx4, hx5, hx6, hx7, hx8, hx9, hx10⟩ := rcells ht.row k hk
  have hz := ht.row.fz
  have hbl := ht.row.lt
  have hne := ht.ne1
  have hgl := blk_lt ht.cell
  have HT := Aside0.mk ht
  have HSZ := Aside0.mk hs
  have hc : Pri.Fit cost := ⟨by omega, by omega⟩
  have hset : (setQ P[k].q up cost).turns = P[k].q.turns := rfl
  have hfx := hf _ (List.getElem_mem hk)
  have hfit : FitQ (setQ P[k].q up cost) := by
    unfold setQ
    refine ⟨?_, ?_, hc⟩
    all_goals dsimp only
    all_goals split
    · exact fit0
    · exact hfx.1
    · exact fit0
    · exact hfx.2.1
  have HFS := Aside0.mk (fit_listQ (fitq_set hf k ⟨setQ P[k].q up cost, P[k].v⟩ hfit))
  have HTS := Aside0.mk (turns_set hT k hk ⟨setQ P[k].q up cost, P[k].v⟩ rfl)
  have HTN0 := Aside0.mk (Trn.refl (F := RF g b ob P) hB (w := w))
  clear ht hs hB hf hT hfx hfit hset
  have key : (up = true ∧ P[k].q.up = false) ∨ (up = false ∧ P[k].q.up = true) ∨ (up = true ∧ P[k].q.up = true) ∨ (up = false ∧ P[k].q.up = false) := by cases up <;> cases P[k].q.up <;> simp
  rcases key with ⟨e, e2⟩ | ⟨e, e2⟩ | ⟨e, e2⟩ | ⟨e, e2⟩
  · subst e
    have ep : setQ P[k].q true cost = ⟨true, cost, none80, P[k].q.at_, P[k].q.turns⟩ := by unfold setQ; rw [e2]; rfl
    have HTr := Aside0.mk (((HT.out.same k hk).forget hk).uc hk true cost)
    have HTn := Aside0.mk (Trn.weak (trn_ruc (trn_rforget HTN0.out HSZ.out (.inr (.inl rfl)) HT.out.lowb k) HSZ.out (.inr (.inl rfl)) HT.out.lowb k true cost) (F2 := RF g b ob (P.set k ⟨setQ P[k].q true cost, P[k].v⟩)) (RF_put hk rfl))
    rw [← ep] at HTr
    have HU := Aside0.mk (rupd_calls base g b cap ob ocap id (P.set k ⟨setQ P[k].q true cost, P[k].v⟩) change now opens w0 (rsetUC (rforget w b k) b k true cost) HTn.out.bel (Nat.le_trans HSZ.out HTn.out.size) HTr.out (by rw [List.length_set]; exact hn) HFS.out HTS.out)
    rw [List.length_set] at HU
    clear HTr HFS HTS ep
    rw [e2] at hx0
    clear e2
    generalize P.set k ⟨setQ P[k].q true cost, P[k].v⟩ = PS at *
    go_enter Tryd.func23, Tryd.ntmps23
    go_wp2_with (go_at_fn 42; refine HU.out.mono ?_; rintro e w9 ⟨rfl, P2, h9, m9, t9⟩; have H9 := Aside0.mk h9; have M9 := Aside0.mk m9; have T9 := Aside0.mk t9; clear h9 m9 t9)
    go_ret
    exact ⟨rfl, P2, H9.out, M9.out, HTn.out.trans T9.out⟩
  · subst e
    have ep : setQ P[k].q false cost = ⟨false, cost, none80, P[k].q.at_, P[k].q.turns⟩ := by unfold setQ; rw [e2]; rfl
    have HTr := Aside0.mk (((HT.out.same k hk).forget hk).uc hk false cost)
    have HTn := Aside0.mk (Trn.weak (trn_ruc (trn_rforget HTN0.out HSZ.out (.inr (.inl rfl)) HT.out.lowb k) HSZ.out (.inr (.inl rfl)) HT.out.lowb k false cost) (F2 := RF g b ob (P.set k ⟨setQ P[k].q false cost, P[k].v⟩)) (RF_put hk rfl))
    rw [← ep] at HTr
    have HU := Aside0.mk (rupd_calls base g b cap ob ocap id (P.set k ⟨setQ P[k].q false cost, P[k].v⟩) change now opens w0 (rsetUC (rforget w b k) b k false cost) HTn.out.bel (Nat.le_trans HSZ.out HTn.out.size) HTr.out (by rw [List.length_set]; exact hn) HFS.out HTS.out)
    rw [List.length_set] at HU
    clear HTr HFS HTS ep
    rw [e2] at hx0
    clear e2
    generalize P.set k ⟨setQ P[k].q false cost, P[k].v⟩ = PS at *
    go_enter Tryd.func23, Tryd.ntmps23
    go_wp2_with (go_at_fn 42; refine HU.out.mono ?_; rintro e w9 ⟨rfl, P2, h9, m9, t9⟩; have H9 := Aside0.mk h9; have M9 := Aside0.mk m9; have T9 := Aside0.mk t9; clear h9 m9 t9)
    go_ret
    exact ⟨rfl, P2, H9.out, M9.out, HTn.out.trans T9.out⟩
  · subst e
    have ep : setQ P[k].q true cost = ⟨true, cost, P[k].q.heard, P[k].q.at_, P[k].q.turns⟩ := by unfold setQ; rw [e2]; rfl
    have HTr := Aside0.mk ((HT.out.same k hk).uc hk true cost)
    have HTn := Aside0.mk (Trn.weak (trn_ruc HTN0.out HSZ.out (.inr (.inl rfl)) HT.out.lowb k true cost) (F2 := RF g b ob (P.set k ⟨setQ P[k].q true cost, P[k].v⟩)) (RF_put hk rfl))
    rw [← ep] at HTr
    have HU := Aside0.mk (rupd_calls base g b cap ob ocap id (P.set k ⟨setQ P[k].q true cost, P[k].v⟩) change now opens w0 (rsetUC w b k true cost) HTn.out.bel (Nat.le_trans HSZ.out HTn.out.size) HTr.out (by rw [List.length_set]; exact hn) HFS.out HTS.out)
    rw [List.length_set] at HU
    clear HTr HFS HTS ep
    rw [e2] at hx0
    clear e2
    generalize P.set k ⟨setQ P[k].q true cost, P[k].v⟩ = PS at *
    go_enter Tryd.func23, Tryd.ntmps23
    go_wp2_with (go_at_fn 42; refine HU.out.mono ?_; rintro e w9 ⟨rfl, P2, h9, m9, t9⟩; have H9 := Aside0.mk h9; have M9 := Aside0.mk m9; have T9 := Aside0.mk t9; clear h9 m9 t9)
    go_ret
    exact ⟨rfl, P2, H9.out, M9.out, HTn.out.trans T9.out⟩
  · subst e
    have ep : setQ P[k].q false cost = ⟨false, cost, P[k].q.heard, P[k].q.at_, P[k].q.turns⟩ := by unfold setQ; rw [e2]; rfl
    have HTr := Aside0.mk ((HT.out.same k hk).uc hk false cost)
    have HTn := Aside0.mk (Trn.weak (trn_ruc HTN0.out HSZ.out (.inr (.inl rfl)) HT.out.lowb k false cost) (F2 := RF g b ob (P.set k ⟨setQ P[k].q false cost, P[k].v⟩)) (RF_put hk rfl))
    rw [← ep] at HTr
    have HU := Aside0.mk (rupd_calls base g b cap ob ocap id (P.set k ⟨setQ P[k].q false cost, P[k].v⟩) change now opens w0 (rsetUC w b k false cost) HTn.out.bel (Nat.le_trans HSZ.out HTn.out.size) HTr.out (by rw [List.length_set]; exact hn) HFS.out HTS.out)
    rw [List.length_set] at HU
    clear HTr HFS HTS ep
    rw [e2] at hx0
    clear e2
    generalize P.set k ⟨setQ P[k].q false cost, P[k].v⟩ = PS at *
    go_enter Tryd.func23, Tryd.ntmps23
    go_wp2_with (go_at_fn 42; refine HU.out.mono ?_; rintro e w9 ⟨rfl, P2, h9, m9, t9⟩; have H9 := Aside0.mk h9; have M9 := Aside0.mk m9; have T9 := Aside0.mk t9; clear h9 m9 t9)
    go_ret
    exact ⟨rfl, P2, H9.out, M9.out, HTn.out.trans T9.out⟩
def kRP : Kd RP where
  sz := 11
  E := []
  K := fun _ x cs => cs = encR x ∧ x.v.oneCell' = true
  M := fun _ _ _ x cs => cs = encR x ∧ x.v.oneCell' = true
  K_len := fun h => by rw [h.1]; rfl
  K_one := fun {w x cs} h u hu => by
    rw [h.1] at hu
    simp only [encR, List.mem_cons, List.not_mem_nil, or_false] at hu
    rcases hu with rfl | rfl | rfl | rfl | rfl | rfl | rfl | rfl | rfl | rfl | rfl
    all_goals first | rfl | exact h.2
  K_below := fun _ h => h
  K_of_M := fun h => h
  M_mono := fun _ h => h
  M_bound := fun h => h
  M_move := fun _ h => h
  M_lower := fun _ h => h
theorem make_bool {w : World} {base : Nat} {ok : Nat → Prop} {v : Value} {n : Int} {m : Nat} (hm : 1 ≤ m) (hn : n = (m : Int) := by rfl) (h : Kd.R Kd.bool 4 w base ok v (List.replicate n.toNat false)) : ∃ ob ocap, v = .slice (some ⟨ob, 0, none⟩) m ocap ∧ base ≤ ob ∧ Own encO 1 4 w ob ocap (List.replicate m false) := by
  subst hn
  rw [Int.toNat_natCast] at h
  rcases Gen.Own.ofR (enc := encO) (k := 1) (fun _ => rfl) rfl (fun w base ok x cs h => h) h with ⟨_, e⟩ | ⟨b, c, rfl, _, hb, _, ho⟩
  · have := congrArg List.length e
    rw [List.length_replicate] at this
    simp at this; omega
  · rw [List.length_replicate]
    exact ⟨b, c, rfl, hb, ho⟩
def rp0 : RP := ⟨⟨false, 0, none80, 0, []⟩, .slice none 0 0⟩
theorem info62b : (Tryd.prog.info? 62).map (fun i => (i.zero, i.size, i.bytes)) = some (some (.agg #[(.bool false), (.int .i64 0), (.int .i64 0), (.int .i64 0), (.int .i64 0), (.int .i64 0), (.int .i64 0), (.int .i64 0), (.bool false), (.int .i64 0), (.slice none 0 0)]), 11, 104) := by kernel_rfl
abbrev rnewCells (id : Int) (v u : Value) : Array Value := #[.int .i64 id, v, .int .i64 (-1), u]
set_option maxHeartbeats 4000000 in
set_option maxRecDepth 100000 in
theorem rnew_calls (id : Int) (n : Nat) (h1 : 1 ≤ n) (h6 : n ≤ 6) (w : World) :
    Calls Tryd.prog 22 #[.int .i64 id, .int .i64 n] w fun e w' => ∃ g b cap ob ocap : Nat, e = .returned (.pointer (some ⟨g, 0, none⟩)) ∧ RTre w' w.heap.size g b cap ob ocap id (List.replicate n rp0) (-1) (List.replicate n false) ∧ Below w.heap.size w w' := by
  have hu57 := Tryd.underlying57
  have HH6 := Aside0.mk h6
  have HH1 := Aside0.mk h1
  clear h1 h6
  go_enter Tryd.func22, Tryd.ntmps22
  go_wp2_with (first
    | ((with_reducible refine gate_dst (N := 9) rfl ?_); refine Kd.R_make Kd.bool w.heap.size 4 rfl (N := 9) rfl 26 _ _ rfl (n : Int) rfl rfl Tryd.underlying26 (.bool false) 1 info4 rfl (by decide) (by decide) false (ok := fun _ => True) (okp := fun _ => True) (rfl) (fun _ hk => hk) trivial (by omega) (by have := HH6.out; omega) (w0 := w) (by repeat (first | exact Below.refl _ _ | apply below_alloc | apply pw_below_drewN | apply below_drew1)) (Nat.le_refl _) ?_; intro v1 w1 ho1 hb1 hg1 hn1; obtain ⟨ob, ocap, rfl, hob, hown⟩ := make_bool HH1.out rfl ho1; have HOB := Aside0.mk hown; have HOBL := Aside0.mk hob; have HB1 := Aside0.mk hb1; clear ho1 hb1 hg1 hn1 hown hob)
    | ((with_reducible refine gate_dst (N := 11) rfl ?_); refine box_event ?hg (N := 11) ?hd (cs := rnewCells id (.slice none 0 0) (.slice (some ⟨ob, 0, none⟩) n ocap)) (t := 57) ?hr ?_; (case hd => rfl); (case hg => rfl); (case hr => first | (go_simp; done) | (go_simp; rfl)); intro gb hg w3 hbox hb; have HB3 := Aside0.mk (below_step HB1.out hb); have BK := Aside0.mk hbox; have HOB3 := Aside0.mk (HOB.out.below hb); have HGO := Aside0.mk (show ob < gb by rw [hg]; exact HOB.out.lt); clear hb hbox hg))
  have hobg : ob < gb := HGO.out
  go_loopg [6] n (fun gk s6 wr => ∃ i : Nat, s6 = .int .i64 i ∧ i ≤ n ∧ n - i ≤ gk ∧ ∃ v : Value, Aside0 (wr.heap[gb]? = some (.cells (rnewCells id v (.slice (some ⟨ob, 0, none⟩) n ocap)) 57 (0, 0))) ∧ Aside0 (Own encO 1 4 wr ob ocap (List.replicate n false)) ∧ Aside0 (Kd.R kRP 62 wr w.heap.size (fun q => q ≠ gb ∧ q ≠ ob) v (List.replicate i rp0)) ∧ Aside0 (Below w.heap.size w wr))
  case atStart => exact ⟨0, rfl, Nat.zero_le _, by omega, _, BK, HOB3, ⟨Kd.R_nil _ _ _ _ _⟩, HB3⟩
  case round =>
    obtain ⟨i, rfl, hil, hgk, v, HC, HOO, HO, HB⟩ := hrel
    by_cases hlt : i < n
    · have hlz : (i : Int) < (n : Int) := by omega
      have hcg : wr.cell? ⟨gb, 1, none⟩ = some v := (blk_cell HC.out 1).trans rfl
      have hfz := blk_frozen HC.out 1
      have hgl := blk_lt HC.out
      have hol := HOO.out.lt
      have hbw := Below.refl wr.heap.size wr
      have hi6 : i ≤ 6 := by have := HH6.out; omega
      have HLL := Aside0.mk (show ((List.replicate i rp0).length + 1) * 104 ≤ 140737488355328 by rw [List.length_replicate]; have := HH6.out; omega)
      go_wp2_with ((with_reducible refine gate_builtin (b := .append) (xs := #[.tmp 21, .tmp 24]) rfl ?_); at_builtin; refine Kd.R_append kRP (w0 := w) w.heap.size rfl (.tmp 21) (.tmp 24) 55 62 (.agg #[(.bool false), (.int .i64 0), (.int .i64 0), (.int .i64 0), (.int .i64 0), (.int .i64 0), (.int .i64 0), (.int .i64 0), (.bool false), (.int .i64 0), (.slice none 0 0)]) 104 rfl Tryd.underlying55 info62b rfl (by decide) (by decide) v (List.replicate i rp0) rp0 [.bool false, .int .i64 0, .int .i64 0, .int .i64 0, .int .i64 0, .int .i64 0, .int .i64 0, .int .i64 0, .bool true, .int .i64 0, .slice none 0 0] (fun q => q ≠ gb ∧ q ≠ ob) (fun _ => False) rfl ?hx ?aP (fun _ hk => hk.elim) ?aF ?aO ?aB ?aS ?aL ?_; (case hx => simp [Act.eval, World.size_alloc]); (case aP => exact ⟨rfl, rfl⟩); (case aB => exact below_step HB.out (by repeat (with_reducible first | assumption | apply below_alloc | apply pw_below_drewN | apply below_drew1))); (case aF => exact fun q hq => by have h2 : wr.heap.size ≤ q := Nat.le_trans (show Below wr.heap.size wr _ from (by repeat (with_reducible first | assumption | apply below_alloc | apply pw_below_drewN | apply below_drew1))).size hq; omega); (case aO => (with_reducible repeat (first | apply Kd.R_alloc | apply Kd.R_drewN | apply Kd.R_drew)); exact HO.out); (case aS => exact Nat.le_trans HB.out.size (by repeat (with_reducible first | assumption | apply below_alloc | apply pw_below_drewN | apply below_drew1) : Below wr.heap.size wr _).size); (case aL => exact HLL.out); intro u5 w4 ho4 hb4 hg4 hat4; have hg5 : wr.grownBy w4 v.ownBlock := Gen.grownBy_trans (Gen.grownBy_below (by repeat (with_reducible first | assumption | apply below_alloc | apply pw_below_drewN | apply below_drew1))) (show World.grownBy _ w4 _ from hg4); have hc4 : w4.heap[gb]? = some (.cells (rnewCells id v (.slice (some ⟨ob, 0, none⟩) n ocap)) 57 (0, 0)) := blk_grown HC.out hg5 (fun e => (HO.out.1 _ e.symm).1 rfl); have hf4 := blk_frozen hc4 1; have hx4 : w4.cell? ⟨gb, 1, none⟩ = some v := (blk_cell hc4 1).trans rfl; have HC4 := Aside0.mk hc4; have HO4 := Aside0.mk ho4; have HB4 := Aside0.mk hb4; have HG4 := Aside0.mk hg5; obtain ⟨A5, c5, rfl⟩ := Kd.R_slice ho4; clear hc4 ho4 hb4 hg4 hat4 hg5)
      go_roundg (n - (i + 1))
      case measure => omega
      case rel =>
        have hO := Gen.R_kept rfl HO4.out (Gen.kept_set w4 gb 1 (.slice A5 (i + 1) c5)) (fun q hq e => (HO4.out.1 q hq).1 e)
        rw [← List.replicate_succ', List.length_replicate] at hO
        have hK : Kept wr w4 (fun q => some q = v.ownBlock) := ⟨HG4.out.size, fun q hq hn => HG4.out.block q hq hn⟩
        have hO2 := (HOO.out.kept hK (fun e => (HO.out.1 _ e.symm).2 rfl)).kept (Gen.kept_set w4 gb 1 (.slice A5 (i + 1) c5)) (fun (e : ob = gb) => by omega)
        exact ⟨i + 1, by go_num, by omega, Nat.le_refl _, _, ⟨blk_put HC4.out 1 (.slice A5 (i + 1) c5) rfl⟩, ⟨hO2⟩, ⟨hO⟩, ⟨below_set HB4.out (Nat.le_trans HOBL.out (Nat.le_of_lt hobg))⟩⟩
    · have e : i = n := by omega
      subst e
      rcases Gen.Own.ofR (d := kRP) (enc := encR) (k := 11) encR_len rfl (fun w base ok x cs h => h.1) HO.out with ⟨_, e⟩ | ⟨b, cap, rfl, hbok, hbb, hcap, hown⟩
      · have := congrArg List.length e
        rw [List.length_replicate] at this
        have h1 := HH1.out
        simp at this
        omega
      · have HW := Aside0.mk hown
        clear hown
        go_wp2
        go_ret
        have hc := HC.out
        have gr : ∀ (k : Nat) (hk : k < (List.replicate i rp0).length), (List.replicate i rp0)[k] = rp0 := fun k hk => List.getElem_replicate hk
        refine ⟨gb, b, cap, ob, ocap, rfl, ⟨?_, HW.out, HOO.out, fun k hk => ?_, fun a c ha hc hne q hq => ?_, fun e => hbok.1 e.symm, fun e => by omega, hbok.2, Nat.le_trans HOBL.out (Nat.le_of_lt hobg), hbb, HOBL.out, hcap⟩, HB.out⟩
        · have e1 : (List.replicate i false).length = i := List.length_replicate
          rw [e1]; exact hc
        · rw [gr]; exact Kd.R_nil _ _ _ _ _
        · rw [gr] at hq; cases hq
end Go.Proofs.YtfimhaodgekkgaaDoor.QTre
namespace Go.Proofs.YtfimhaodgekkgaaDoor.QTre
open Go.RowKit Go.Proofs.YtfimhaodgekkgaaDoorW.PrintWords Go.Proofs.YtfimhaodgekkgaaDoorW.PrintLast Go.Proofs.YtfimhaodgekkgaaDoorW.PrintMore
open Go.Proofs.YtfimhaodgekkgaaDoor.Gen (Own Trn)
open Go.Proofs.YtfimhaodgekkgaaDoor.Pri (FitH roles bestOf role brid conv)
set_option linter.unusedVariables false
set_option linter.unusedSimpArgs false
def clampR (r : Int) : Int := if r < 0 ∨ 3 < r then 0 else r
def stepT (a : Int × Int) (t : S103) : Int × Int := if clampR t.f0 = a.1 then a else (clampR t.f0, t.f1)
def lastTn (l : List S103) : Int × Int := l.foldl stepT (0, 0)
theorem lastTn_snoc (l : List S103) (t : S103) : lastTn (l ++ [t]) = stepT (lastTn l) t := by unfold lastTn; rw [List.foldl_append]; rfl
theorem clampR_in (r : Int) : 0 ≤ clampR r ∧ clampR r ≤ 3 := by unfold clampR; split <;> omega
theorem fold_in : ∀ (l : List S103) (a : Int × Int), 0 ≤ a.1 ∧ a.1 ≤ 3 → 0 ≤ (l.foldl stepT a).1 ∧ (l.foldl stepT a).1 ≤ 3
  | [], a, h => h
  | t :: l, a, h => by
    rw [List.foldl_cons]
    refine fold_in l _ ?_
    unfold stepT
    split
    · exact h
    · exact clampR_in _
theorem lastTn_in (l : List S103) : 0 ≤ (lastTn l).1 ∧ (lastTn l).1 ≤ 3 := fold_in l _ ⟨by decide, by decide⟩
theorem setR_step (p : S82) (r now : Int) (h : 0 ≤ p.f0 ∧ p.f0 ≤ 3) : ((setR p r now).2.f0, (setR p r now).2.f1) = stepT (p.f0, p.f1) ⟨r, now⟩ := by
  have e : (if r < 0 ∨ 3 < r then 0 else r) = clampR r := rfl
  unfold setR stepT
  rw [e]
  dsimp only
  by_cases h1 : r = p.f0
  · rw [if_pos h1, if_pos (by unfold clampR; rw [if_neg (by omega)]; exact h1)]
  · rw [if_neg h1]
    by_cases h2 : clampR r = p.f0
    · rw [if_pos h2, if_pos h2]
    · rw [if_neg h2, if_neg h2]
def SmP (p : S84) (q : RQ) : Prop := p.f0 = q.up ∧ p.f1 = q.cost ∧ p.f2 = q.heard ∧ p.f3 = q.at_ ∧ (p.f4.f0, p.f4.f1) = lastTn q.turns
structure Sm (P : List S84) (Q : List RQ) : Prop where
  len : P.length = Q.length
  each : ∀ (k : Nat) (h : k < P.length) (h' : k < Q.length), SmP P[k] Q[k]
section
variable {P : List S84} {Q : List RQ}
theorem Sm.list (h : Sm P Q) : P.map heardOf = Q.map heardQ := by
  apply List.ext_getElem
  · rw [List.length_map, List.length_map]; exact h.len
  · intro k h1 h2
    rw [List.length_map] at h1 h2
    rw [List.getElem_map, List.getElem_map]
    obtain ⟨e0, e1, e2, e3, _⟩ := h.each k h1 h2
    unfold heardOf heardQ
    rw [e0, e1, e2]
theorem Sm.set (h : Sm P Q) (k : Nat) (x : S84) (y : RQ) (hxy : SmP x y) : Sm (P.set k x) (Q.set k y) := by
  refine ⟨by rw [List.length_set, List.length_set]; exact h.len, fun i h1 h2 => ?_⟩
  rw [List.length_set] at h1 h2
  rw [List.getElem_set, List.getElem_set]
  split
  · exact hxy
  · exact h.each i h1 h2
theorem roles_at (id : Int) (L : List S80) (k : Nat) (h : k < L.length) : (roles id L).getD k 0 = role id (bestOf id L) k L[k] := by
  have := Pri.roles_get id L k h
  unfold rd at this
  simpa using this
theorem Sm.upd (h : Sm P Q) (id now : Int) : Sm (QTre.upd id now P) (updQ id now (Q.map heardQ) Q Q.length) := by
  refine ⟨by rw [updN_len, updQ_len]; exact h.len, fun k h1 h2 => ?_⟩
  rw [updN_len] at h1
  rw [updQ_len] at h2
  rw [updN_at, updQ_at, if_pos h1, if_pos h2]
  obtain ⟨e0, e1, e2, e3, e4⟩ := h.each k h1 h2
  have hl : k < (P.map heardOf).length := by rw [List.length_map]; exact h1
  have hr : (roles id (P.map heardOf)).getD k 0 = role id (bestOf id (Q.map heardQ)) k ((Q.map heardQ).getD k ⟨⟨0, 0, 0, 0⟩, 0, 0, false⟩) := by
    rw [roles_at id _ k hl]
    have h3 : k < (Q.map heardQ).length := by rw [List.length_map]; exact h2
    rw [List.getD_eq_getElem?_getD, List.getElem?_eq_getElem h3]
    simp only [h.list, Option.getD_some]
  unfold setPort turnQ
  rw [hr]
  refine ⟨e0, e1, e2, e3, ?_⟩
  dsimp only
  rw [lastTn_snoc, ← e4, e0]
  refine setR_step _ _ _ ?_
  have := lastTn_in Q[k].turns
  rw [← e4] at this
  exact this
end
abbrev QS (D : List RP) : List RQ := D.map (·.q)
theorem listQ_QS (D : List RP) : listQ D = (QS D).map heardQ := by unfold listQ QS; rw [List.map_map]; rfl
def rq0 : RQ := ⟨false, 0, none80, 0, []⟩
def rsetF (id now : Int) (Q : List RQ) (i : Int) (up : Bool) (cost : Int) : Int × List RQ :=
  if (0 ≤ i ∧ i < (Q.length : Int)) ∧ ¬ cost < 1 ∧ ¬ 16777216 < cost then
    (0, updQ id now ((Q.set i.toNat (setQ (Q.getD i.toNat rq0) up cost)).map heardQ) (Q.set i.toNat (setQ (Q.getD i.toNat rq0) up cost)) Q.length)
  else (1, Q)
theorem dset_calls (base g b cap ob ocap : Nat) (id : Int) (D : List RP) (change now : Int) (opens : List Bool) (w0 w : World) (hB : Below base w0 w) (hs : base ≤ w.heap.size) (ht : RTre w base g b cap ob ocap id D change opens) (hn : D.length ≤ 100) (hf : ∀ x ∈ D, FitQ x.q) (hT : ∀ (k : Nat) (h : k < D.length), D[k].q.turns.length ≤ 1000) (i : Int) (up : Bool) (cost : Int) :
    Calls Tryd.prog 23 #[.pointer (some ⟨g, 0, none⟩), .int .i64 i, .bool up, .int .i64 cost, .int .i64 now] w fun e w' => e = .returned (.int .i64 (rsetF id now (QS D) i up cost).1) ∧ ∃ D2 : List RP, RTre w' base g b cap ob ocap id D2 change opens ∧ QS D2 = (rsetF id now (QS D) i up cost).2 ∧ Trn base w0 w (RF g b ob D) (RF g b ob D2) w' := by
  have hl : (QS D).length = D.length := List.length_map _
  unfold rsetF
  rw [hl]
  by_cases h : (0 ≤ i ∧ i < (D.length : Int)) ∧ ¬ cost < 1 ∧ ¬ 16777216 < cost
  · rw [if_pos h]
    obtain ⟨k, rfl⟩ : ∃ k : Nat, i = k := ⟨i.toNat, by omega⟩
    have hk : k < D.length := by omega
    have hk2 : k < (QS D).length := by rw [hl]; exact hk
    rw [Int.toNat_natCast]
    have hg : (QS D).getD k rq0 = D[k].q := by
      rw [List.getD_eq_getElem?_getD, List.getElem?_eq_getElem hk2]
      simp only [Option.getD_some, QS, List.getElem_map]
    rw [hg]
    refine (rset_ok base g b cap ob ocap id D change now opens w0 w hB hs ht hn hf hT k hk up cost h.2.1 h.2.2).mono ?_
    rintro e w' ⟨rfl, D2, h1, h2, h3⟩
    refine ⟨rfl, D2, h1, ?_, h3⟩
    rw [listQ_QS] at h2
    have hs2 : QS (D.set k ⟨setQ D[k].q up cost, D[k].v⟩) = (QS D).set k (setQ D[k].q up cost) := by unfold QS; rw [List.map_set]
    rw [hs2] at h2
    have h4 : (D.set k ⟨setQ D[k].q up cost, D[k].v⟩).map (·.q) = (QS D).set k (setQ D[k].q up cost) := hs2
    rw [h4] at h2
    exact h2
  · rw [if_neg h]
    refine (rset_bad base g b cap ob ocap id D change now opens w ht i up cost (by omega)).mono ?_
    rintro e w' ⟨rfl, rfl⟩
    exact ⟨rfl, D, ht, rfl, Trn.refl hB⟩
theorem smP_set {p : S84} {q : RQ} (h : SmP p q) (up : Bool) (cost : Int) : SmP (setP p up cost) (setQ q up cost) := by
  obtain ⟨e0, e1, e2, e3, e4⟩ := h
  unfold setP setQ
  refine ⟨rfl, rfl, ?_, e3, e4⟩
  dsimp only
  rw [e0, e2]
  cases up <;> cases q.up <;> rfl
section
variable {P : List S84} {Q : List RQ}
theorem Sm.getD (h : Sm P Q) (k : Nat) (hk : k < P.length) : SmP (P.getD k port0) (Q.getD k rq0) := by
  have hk2 : k < Q.length := by rw [← h.len]; exact hk
  rw [getD_lt hk, List.getD_eq_getElem?_getD, List.getElem?_eq_getElem hk2]
  exact h.each k hk hk2
theorem Sm.setF (h : Sm P Q) (id now : Int) (best : S36) (root i : Int) (up : Bool) (cost : Int) : (QTre.setF id now P best root i up cost).code = (rsetF id now Q i up cost).1 ∧ Sm (QTre.setF id now P best root i up cost).ports (rsetF id now Q i up cost).2 := by
  unfold QTre.setF rsetF
  rw [← h.len]
  by_cases hv : (0 ≤ i ∧ i < (P.length : Int)) ∧ ¬ cost < 1 ∧ ¬ 16777216 < cost
  · rw [if_pos hv, if_pos hv]
    have h2 := h.set i.toNat _ _ (smP_set (h.getD i.toNat (by omega)) up cost)
    have h3 := h2.upd id now
    rw [List.length_set, ← h.len] at h3
    exact ⟨rfl, h3⟩
  · rw [if_neg hv, if_neg hv]
    exact ⟨rfl, h⟩
theorem Sm.ups (h : Sm P Q) : P.map (·.f0) = Q.map (·.up) := by
  apply List.ext_getElem
  · rw [List.length_map, List.length_map]; exact h.len
  · intro k h1 h2
    rw [List.length_map] at h1 h2
    rw [List.getElem_map, List.getElem_map]
    exact (h.each k h1 h2).1
end
theorem ups_upd (id now : Int) (P : List S84) : (upd id now P).map (·.f0) = P.map (·.f0) := by
  apply List.ext_getElem
  · rw [List.length_map, List.length_map, updN_len]
  · intro k h1 h2
    rw [List.getElem_map, List.getElem_map, updN_at]
    split <;> rfl
theorem ups_tick (id now : Int) (P : List S84) : (tickP id now P).map (·.f0) = P.map (·.f0) := by
  have h1 : (tickP id now P).map (·.f0) = (upd id now (tk1 now P)).map (·.f0) := by unfold tickP; rw [List.map_map]; rfl
  have h2 : (tk1 now P).map (·.f0) = P.map (·.f0) := by
    unfold tk1
    rw [List.map_map]
    apply List.map_congr_left
    intro p _
    show (fgtP now p).f0 = p.f0
    unfold fgtP
    split <;> rfl
  rw [h1, ups_upd, h2]
structure InvQ (n i : Nat) (Q : List RQ) : Prop where
  len : Q.length = n
  fit : ∀ x ∈ Q, FitQ x
  turns : ∀ x ∈ Q, x.turns.length ≤ i
theorem InvQ.more {n i j : Nat} {Q : List RQ} (h : InvQ n i Q) (hij : i ≤ j) : InvQ n j Q := ⟨h.len, h.fit, fun x hx => Nat.le_trans (h.turns x hx) hij⟩
theorem InvQ.upd {n i : Nat} {Q : List RQ} (h : InvQ n i Q) (id now : Int) (L : List S80) : InvQ n (i + 1) (updQ id now L Q Q.length) := by
  refine ⟨by rw [updQ_len]; exact h.len, fun x hx => ?_, fun x hx => ?_⟩
  all_goals
    obtain ⟨k, hk, rfl⟩ := List.mem_iff_getElem.1 hx
    rw [updQ_at]
    have hk2 : k < Q.length := by rw [updQ_len] at hk; exact hk
    rw [if_pos hk2]
  · have := h.fit _ (List.getElem_mem hk2)
    exact this
  · show (Q[k].turns ++ _).length ≤ i + 1
    rw [List.length_append]
    have := h.turns _ (List.getElem_mem hk2)
    simp; omega
theorem InvQ.put {n i : Nat} {Q : List RQ} (h : InvQ n i Q) (k : Nat) (y : RQ) (hf : FitQ y) (ht : y.turns.length ≤ i) : InvQ n i (Q.set k y) := by
  refine ⟨by rw [List.length_set]; exact h.len, fun x hx => ?_, fun x hx => ?_⟩
  all_goals rcases List.mem_or_eq_of_mem_set hx with h1 | h1
  · exact h.fit x h1
  · subst h1; exact hf
  · exact h.turns x h1
  · subst h1; exact ht
theorem getDQ_mem {Q : List RQ} {k : Nat} (hk : k < Q.length) : Q.getD k rq0 ∈ Q := by
  rw [List.getD_eq_getElem?_getD, List.getElem?_eq_getElem hk]
  exact List.getElem_mem hk
theorem setQ_fit {x : RQ} (h : FitQ x) (up : Bool) {cost : Int} (hc : Pri.Fit cost) : FitQ (setQ x up cost) := by
  unfold setQ
  refine ⟨?_, ?_, hc⟩
  all_goals dsimp only
  all_goals split
  · exact fit0
  · exact h.1
  · exact fit0
  · exact h.2.1
theorem InvQ.set {n i : Nat} {Q : List RQ} (h : InvQ n i Q) (id now : Int) (p : Int) (up : Bool) (cost : Int) : InvQ n (i + 1) (rsetF id now Q p up cost).2 := by
  unfold rsetF
  by_cases hv : (0 ≤ p ∧ p < (Q.length : Int)) ∧ ¬ cost < 1 ∧ ¬ 16777216 < cost
  · rw [if_pos hv]
    have hm := getDQ_mem (Q := Q) (k := p.toNat) (by omega)
    have hc : Pri.Fit cost := ⟨by omega, by omega⟩
    have h2 := (h.put p.toNat (setQ (Q.getD p.toNat rq0) up cost) (setQ_fit (h.fit _ hm) up hc) (show (Q.getD p.toNat rq0).turns.length ≤ i from h.turns _ hm)).upd id now ((Q.set p.toNat (setQ (Q.getD p.toNat rq0) up cost)).map heardQ)
    rw [List.length_set] at h2
    exact h2
  · rw [if_neg hv]; exact h.more (by omega)
theorem InvQ.new (n : Nat) : InvQ n 0 (QS (List.replicate n rp0)) := by
  have e : QS (List.replicate n rp0) = List.replicate n rq0 := by unfold QS; rw [List.map_replicate]; rfl
  rw [e]
  refine ⟨List.length_replicate, fun x hx => ?_, fun x hx => ?_⟩
  all_goals rw [List.eq_of_mem_replicate hx]
  · exact ⟨fit0, fit0, fit0⟩
  · exact Nat.le_refl _
theorem InvQ.of {n i : Nat} {D : List RP} (h : InvQ n i (QS D)) : D.length = n ∧ (∀ x ∈ D, FitQ x.q) ∧ ∀ (k : Nat) (hk : k < D.length), D[k].q.turns.length ≤ i := by
  refine ⟨by have := h.len; rw [List.length_map] at this; exact this, fun x hx => h.fit _ (List.mem_map.2 ⟨x, hx, rfl⟩), fun k hk => h.turns _ (List.mem_map.2 ⟨_, List.getElem_mem hk, rfl⟩)⟩
structure InvF (id : Int) (n : Nat) (T : Int) (P : List S84) (best : S36) (root : Int) : Prop where
  len : P.length = n
  fit : ∀ p ∈ P, FitP p
  at_ : ∀ p ∈ P, 0 ≤ p.f3 ∧ p.f3 ≤ T ∧ 0 ≤ p.f4.f1 ∧ p.f4.f1 ≤ T
theorem setR_at (p : S82) (r now : Int) : (setR p r now).2.f1 = p.f1 ∨ (setR p r now).2.f1 = now := by
  unfold setR
  repeat' split
  all_goals first | exact .inl rfl | exact .inr rfl
section
variable {id T : Int} {n : Nat} {P : List S84} {best : S36} {root : Int}
theorem InvF.new : InvF id n 0 (List.replicate n port0) best root := by
  refine ⟨List.length_replicate, fun p hp => ?_, fun p hp => ?_⟩
  all_goals rw [List.eq_of_mem_replicate hp]
  · exact ⟨fit0, fit0, fit0⟩
  · exact ⟨by decide, by decide, by decide, by decide⟩
theorem InvF.later (h : InvF id n T P best root) {T2 : Int} (hT : T ≤ T2) : InvF id n T2 P best root := ⟨h.len, h.fit, fun p hp => by have := h.at_ p hp; omega⟩
theorem upd_fit (h : ∀ p ∈ P, FitP p) (id now : Int) : ∀ p ∈ upd id now P, FitP p := all_updN h (fun r p hp => hp)
theorem upd_at (h : ∀ p ∈ P, 0 ≤ p.f3 ∧ p.f3 ≤ T ∧ 0 ≤ p.f4.f1 ∧ p.f4.f1 ≤ T) (hT : 0 ≤ T) (id : Int) : ∀ p ∈ upd id T P, 0 ≤ p.f3 ∧ p.f3 ≤ T ∧ 0 ≤ p.f4.f1 ∧ p.f4.f1 ≤ T :=
  all_updN h (fun r p hp => by
    refine ⟨hp.1, hp.2.1, ?_⟩
    show 0 ≤ (setR p.f4 (if p.f0 = true then r else 0) T).2.f1 ∧ (setR p.f4 (if p.f0 = true then r else 0) T).2.f1 ≤ T
    rcases setR_at p.f4 (if p.f0 = true then r else 0) T with e | e
    · rw [e]; exact hp.2.2
    · rw [e]; omega)
theorem InvF.setF (h : InvF id n T P best root) (hT : 0 ≤ T) (i : Int) (up : Bool) (cost : Int) : InvF id n T (setF id T P best root i up cost).ports (setF id T P best root i up cost).best (setF id T P best root i up cost).root := by
  unfold QTre.setF
  by_cases hv : (0 ≤ i ∧ i < (P.length : Int)) ∧ ¬ cost < 1 ∧ ¬ 16777216 < cost
  · rw [if_pos hv]
    have hm := getD_mem (P := P) (k := i.toNat) (by omega)
    have hc : Pri.Fit cost := ⟨by omega, by omega⟩
    have hf : FitP (setP (P.getD i.toNat port0) up cost) := by
      unfold setP
      refine ⟨?_, ?_, hc⟩
      all_goals dsimp only
      all_goals split
      · exact fit0
      · exact (h.fit _ hm).1
      · exact fit0
      · exact (h.fit _ hm).2.1
    exact ⟨by rw [updN_len, List.length_set]; exact h.len, upd_fit (all_set h.fit _ _ hf) id T, upd_at (all_set h.at_ i.toNat (setP (P.getD i.toNat port0) up cost) (show 0 ≤ (P.getD i.toNat port0).f3 ∧ (P.getD i.toNat port0).f3 ≤ T ∧ 0 ≤ (P.getD i.toNat port0).f4.f1 ∧ (P.getD i.toNat port0).f4.f1 ≤ T from h.at_ _ hm)) hT id⟩
  · rw [if_neg hv]; exact h
theorem InvF.hearF (h : InvF id n T P best root) (hT : 0 ≤ T) (i : Int) (m : S38) (hm : FitB m) : InvF id n T (hearF id T P best root i m).ports (hearF id T P best root i m).best (hearF id T P best root i m).root := by
  unfold QTre.hearF
  by_cases hv : (0 ≤ i ∧ i < (P.length : Int)) ∧ goodB m = true ∧ m.f2 = 2
  · rw [if_pos hv]
    split
    · have hp := getD_mem (P := P) (k := i.toNat) (by omega)
      have ha := h.at_ _ hp
      exact ⟨by rw [updN_len, List.length_set]; exact h.len, upd_fit (all_set h.fit i.toNat (hearP (P.getD i.toNat port0) m T) ⟨hm.1, hm.2.1, (h.fit _ hp).2.2⟩) id T, upd_at (all_set h.at_ i.toNat (hearP (P.getD i.toNat port0) m T) ⟨hT, Int.le_refl _, ha.2.2.1, ha.2.2.2⟩) hT id⟩
    · exact h
  · rw [if_neg hv]; exact h
theorem fgt_at {now : Int} {p : S84} : (fgtP now p).f3 = p.f3 ∧ (fgtP now p).f4 = p.f4 ∧ (fgtP now p).f0 = p.f0 := by
  unfold fgtP
  split <;> exact ⟨rfl, rfl, rfl⟩
theorem InvF.tick (h : InvF id n T P best root) {now : Int} (hn : T ≤ now) (h0 : 0 ≤ now) : InvF id n now (tickP id now P) (tickB id now P).1 (tickB id now P).2 := by
  have hf : ∀ p ∈ tk1 now P, FitP p := fgt_fit h.fit
  have ha : ∀ p ∈ tk1 now P, 0 ≤ p.f3 ∧ p.f3 ≤ now ∧ 0 ≤ p.f4.f1 ∧ p.f4.f1 ≤ now := by
    intro p hp
    obtain ⟨q, hq, rfl⟩ := List.mem_map.1 hp
    have := h.at_ q hq
    rw [fgt_at.1, fgt_at.2.1]
    omega
  refine ⟨by rw [List.length_map, updN_len, List.length_map]; exact h.len, fun p hp => ?_, fun p hp => ?_⟩
  · obtain ⟨q, hq, rfl⟩ := List.mem_map.1 hp
    exact upd_fit hf id now q hq
  · obtain ⟨q, hq, rfl⟩ := List.mem_map.1 hp
    exact upd_at ha h0 id q hq
end
structure InvK (id : Int) (n : Nat) (T : Int) (k : Nat) (ups : List Bool) (P : List S84) (best : S36) (root : Int) : Prop where
  len : P.length = n
  fit : ∀ p ∈ P, FitP p
  at_ : ∀ p ∈ P, 0 ≤ p.f3 ∧ p.f3 ≤ T ∧ 0 ≤ p.f4.f1 ∧ p.f4.f1 ≤ T + k
  ups : P.map (·.f0) = ups
  late : 15 ≤ k → ∀ p ∈ P, p.f2 = none80 ∧ p.f4.f0 = (if p.f0 = true then 2 else 0) ∧ p.f4.f1 ≤ T + 15
  best_ : 15 ≤ k → best = Pri.own id ∧ root = -1
section
variable {id T : Int} {n k : Nat} {ups : List Bool} {P : List S84} {best : S36} {root : Int}
theorem none_bst (h : ∀ p ∈ P, p.f2 = none80) (id : Int) : bst id P = (Pri.own id, -1) := by
  rcases bst_cases id P with e | ⟨j, hj, _, ht, _⟩
  · exact e
  · have hp := h _ (List.getElem_mem hj)
    unfold heardOf at ht
    rw [hp] at ht
    unfold Pri.takes at ht
    have := of_decide_eq_true ht
    simp [none80] at this
theorem none_role (h : ∀ p ∈ P, p.f2 = none80) (id : Int) (j : Nat) (hj : j < P.length) : (roles id (P.map heardOf)).getD j 0 = 2 := by
  have hl : j < (P.map heardOf).length := by rw [List.length_map]; exact hj
  rw [roles_at id _ j hl]
  have hb : bestOf id (P.map heardOf) = (Pri.own id, -1) := none_bst h id
  rw [hb, List.getElem_map]
  unfold role
  rw [if_neg (show ¬ (j : Int) = -1 by omega), if_neg]
  rintro ⟨ht, _⟩
  unfold heardOf at ht
  rw [h _ (List.getElem_mem hj)] at ht
  unfold Pri.takes at ht
  have := of_decide_eq_true ht
  simp [none80] at this
theorem InvK.tick (h : InvK id n T k ups P best root) (hT : 0 ≤ T) (hT2 : T ≤ 1000000) (hk : k ≤ 100) : InvK id n T (k + 1) ups (tickP id (T + (k + 1 : Nat)) P) (tickB id (T + (k + 1 : Nat)) P).1 (tickB id (T + (k + 1 : Nat)) P).2 := by
  have hF : InvF id n (T + k) P best root := ⟨h.len, h.fit, fun p hp => by have := h.at_ p hp; omega⟩
  have hF2 := hF.tick (now := T + (k + 1 : Nat)) (by omega) (by omega)
  have hel : ∀ p ∈ tickP id (T + (k + 1 : Nat)) P, ∃ (j : Nat) (hj : j < P.length), p = opnP (T + (k + 1 : Nat)) (setPort ((roles id ((tk1 (T + (k + 1 : Nat)) P).map heardOf)).getD j 0) (T + (k + 1 : Nat)) (fgtP (T + (k + 1 : Nat)) P[j])) := by
    intro p hp
    obtain ⟨q, hq, rfl⟩ := List.mem_map.1 hp
    obtain ⟨j, hj, rfl⟩ := List.mem_iff_getElem.1 hq
    have hj2 : j < P.length := by rw [updN_len, List.length_map] at hj; exact hj
    refine ⟨j, hj2, ?_⟩
    rw [updN_at, if_pos (by rw [List.length_map]; exact hj2), List.getElem_map]
  have hf3 : ∀ p ∈ tickP id (T + (k + 1 : Nat)) P, p.f3 ≤ T := by
    intro p hp
    obtain ⟨j, hj, rfl⟩ := hel p hp
    show (fgtP (T + (k + 1 : Nat)) P[j]).f3 ≤ T
    rw [fgt_at.1]
    exact (h.at_ _ (List.getElem_mem hj)).2.1
  have hnone : 15 ≤ k + 1 → ∀ p ∈ tk1 (T + (k + 1 : Nat)) P, p.f2 = none80 := by
    intro hk15 p hp
    obtain ⟨q, hq, rfl⟩ := List.mem_map.1 hp
    have ha := h.at_ q hq
    unfold fgtP
    rw [if_pos]
    unfold wrap64
    omega
  refine ⟨hF2.len, hF2.fit, fun p hp => ?_, ?_, fun hk15 p hp => ?_, fun hk15 => ?_⟩
  · have h1 := hF2.at_ p hp
    exact ⟨h1.1, hf3 p hp, h1.2.2.1, h1.2.2.2⟩
  · rw [ups_tick]; exact h.ups
  · obtain ⟨j, hj, rfl⟩ := hel p hp
    have hm : fgtP (T + (k + 1 : Nat)) P[j] ∈ tk1 (T + (k + 1 : Nat)) P := List.mem_map.2 ⟨_, List.getElem_mem hj, rfl⟩
    have hr := none_role (hnone hk15) id j (by rw [List.length_map]; exact hj)
    rw [hr]
    have hn2 := hnone hk15 _ hm
    refine ⟨hn2, ?_⟩
    show (setR (fgtP (T + (k + 1 : Nat)) P[j]).f4 (if (fgtP (T + (k + 1 : Nat)) P[j]).f0 = true then 2 else 0) (T + (k + 1 : Nat))).2.f0 = (if (fgtP (T + (k + 1 : Nat)) P[j]).f0 = true then 2 else 0) ∧ (setR (fgtP (T + (k + 1 : Nat)) P[j]).f4 (if (fgtP (T + (k + 1 : Nat)) P[j]).f0 = true then 2 else 0) (T + (k + 1 : Nat))).2.f1 ≤ T + 15
    rw [fgt_at.2.1, fgt_at.2.2]
    have ha := h.at_ _ (List.getElem_mem hj)
    by_cases hl : 15 ≤ k
    · have hq := h.late hl _ (List.getElem_mem hj)
      unfold setR
      rw [if_pos hq.2.1.symm]
      exact ⟨hq.2.1, hq.2.2⟩
    · generalize hrr : (if P[j].f0 = true then (2 : Int) else 0) = r
      have hr2 : r = 0 ∨ r = 2 := by rw [← hrr]; split <;> simp
      unfold setR
      by_cases h1 : r = P[j].f4.f0
      · rw [if_pos h1]; exact ⟨h1.symm, by show P[j].f4.f1 ≤ T + 15; omega⟩
      · rw [if_neg h1]
        have h2 : (if r < 0 ∨ 3 < r then 0 else r) = r := if_neg (by omega)
        rw [h2, if_neg h1]
        exact ⟨rfl, by show T + ((k + 1 : Nat) : Int) ≤ T + 15; omega⟩
  · have hb := none_bst (hnone hk15) id
    have : tickB id (T + (k + 1 : Nat)) P = (Pri.own id, -1) := hb
    rw [this]
    exact ⟨rfl, rfl⟩
end
end Go.Proofs.YtfimhaodgekkgaaDoor.QTre
namespace Go.Proofs.YtfimhaodgekkgaaDoor.QTre
open Go.RowKit Go.Proofs.YtfimhaodgekkgaaDoorW.PrintWords Go.Proofs.YtfimhaodgekkgaaDoorW.PrintLast Go.Proofs.YtfimhaodgekkgaaDoorW.PrintMore
attribute [local go_sem] max2_int min2_int max_two min_two max_three min_three max_four min_four
set_option linter.unusedVariables false
set_option linter.unusedSimpArgs false
mutual
def kissgateref11_last.l0 : Nat → Int → Int → List (S103) → Int → Int → Option (Int × Int)
  | 0, _, _, _, _, _ => none
  | k + 1, x4, x5, x9, x10, x11 => if x11 < x10 then (if 0 ≤ x11 then (if x11 < (x9.length : Int) then (if ((rd_T103 x9 x11).f0) < 0 then (kissgateref11_last.j1 k x4 x5 ((rd_T103 x9 x11).f0) x9 x10 x11 true ((rd_T103 x9 x11).f0) ((rd_T103 x9 x11).f1)) else (kissgateref11_last.j1 k x4 x5 ((rd_T103 x9 x11).f0) x9 x10 x11 (decide (((rd_T103 x9 x11).f0) > 3)) ((rd_T103 x9 x11).f0) ((rd_T103 x9 x11).f1))) else (none)) else (none)) else (some (x4, x5))
def kissgateref11_last.j1 : Nat → Int → Int → Int → List (S103) → Int → Int → Bool → Int → Int → Option (Int × Int)
  | 0, _, _, _, _, _, _, _, _, _ => none
  | k + 1, x4, x5, x8, x9, x10, x11, x22, x307000, x307001 => if x22 = true then (if 0 = x4 then (kissgateref11_last.l0 k x4 x5 x9 x10 (wrap64 (x11 + 1))) else (kissgateref11_last.l0 k 0 x307001 x9 x10 (wrap64 (x11 + 1)))) else (if x8 = x4 then (kissgateref11_last.l0 k x4 x5 x9 x10 (wrap64 (x11 + 1))) else (kissgateref11_last.l0 k x8 x307001 x9 x10 (wrap64 (x11 + 1))))
end
def kissgateref11_last.f (k : Nat) (l0 : List (S103)) : Option (Int × Int) := kissgateref11_last.l0 k 0 0 l0 (l0.length : Int) 0
set_option maxHeartbeats 8000000 in
set_option maxRecDepth 100000 in
theorem kissgateref11_last.calls (k : Nat) (A0 : Option Addr) (c0 : Nat) (l0 : List (S103)) (r1 : Int) (r2 : Int) (w : World) (hr0 : Kd.C k103 w A0 l0.length l0) (hc0 : l0.length ≤ c0) (h : kissgateref11_last.f k l0 = some (r1, r2)) :
    Calls Tryd.prog 55 #[.slice A0 l0.length c0] w fun e w' => e = .returned (.tuple #[.int .i64 r1, .int .i64 r2]) ∧ Below w.heap.size w w' := by
  have hu103 := Tryd.underlying103
  have HR0 := Aside0.mk hr0
  have HC0 := Aside0.mk hc0
  clear hr0 hc0
  have HB := Aside0.mk (Below.refl w.heap.size w)
  have H : (kissgateref11_last.l0 k 0 0 l0 (l0.length : Int) 0) = some (r1, r2) := h
  clear h
  have H' := Aside0.mk H
  clear H
  go_enter Tryd.func55, Tryd.ntmps55
  go_wp2
  go_loopg [4, 5, 11] k (fun kq v4 v5 v11 w' => ∃ (x4_1 : Int) (x5_1 : Int) (x11_1 : Int), v4 = .int .i64 x4_1 ∧ v5 = .int .i64 x5_1 ∧ v11 = .int .i64 x11_1 ∧ Aside0 (kissgateref11_last.l0 kq x4_1 x5_1 l0 (l0.length : Int) x11_1 = some (r1, r2)) ∧ Aside0 (kq ≤ k) ∧ Aside0 (Below w.heap.size w w'))
  case atStart => exact ⟨(0), (0), (0), (by first | rfl | (simp; done) | (simp [*]; done)), (by first | rfl | (simp; done) | (simp [*]; done)), (by first | rfl | (simp; done) | (simp [*]; done)), H', ⟨Nat.le_refl _⟩, ⟨by repeat (first | (with_reducible first | exact HB.out | apply below_alloc | apply pw_below_drewN | apply below_drew1) | exact HB.out)⟩⟩
  case round =>
    clear H'
    obtain ⟨x4_1, x5_1, x11_1, rfl, rfl, rfl, HA, HK1, HB⟩ := hrel
    cases gk with
    | zero => exact absurd HA.out (by simp [kissgateref11_last.l0])
    | succ k1 =>
      have H := HA.out
      clear HA
      simp only [kissgateref11_last.l0] at H
      by_cases c2 : x11_1 < (l0.length : Int)
      · rw [if_pos c2] at H
        have c2b0 : decide (x11_1 < (l0.length : Int)) = true := decide_eq_true c2
        clear c2
        by_cases c3 : 0 ≤ x11_1
        · rw [if_pos c3] at H
          have c3b0 : decide (0 ≤ x11_1) = true := decide_eq_true c3
          clear c3
          by_cases c4 : x11_1 < (l0.length : Int)
          · rw [if_pos c4] at H
            have c4b0 : decide (x11_1 < (l0.length : Int)) = true := decide_eq_true c4
            clear c4
            have HC5 := Aside0.mk H
            clear H
            have p305 : 0 ≤ (x11_1 : Int) := of_decide_eq_true (by first | (with_reducible assumption) | assumption)
            have q305 : x11_1 < (l0.length : Int) := of_decide_eq_true (by first | (with_reducible assumption) | assumption)
            obtain ⟨ad305, e305, hx305_0, hx305_1⟩ := at_T103 HR0.out x11_1 p305 q305
            cases e305
            replace hx305_0 := (HB.out.cell (World.block_lt_of_cell? w _ hx305_0)).trans hx305_0
            replace hx305_1 := (HB.out.cell (World.block_lt_of_cell? w _ hx305_1)).trans hx305_1
            replace p305 := eq_true p305
            replace q305 := eq_true q305
            go_upto_region 6 with (first | ((with_reducible refine gate_dst (N := 7) rfl ?_); refine box_event ?hg (N := 7) ?hd (cs := #[.int .i64 0, .int .i64 0]) (t := 103) ?hr ?_; (case hd => rfl); (case hg => rfl); (case hr => first | (go_simp; done) | (go_simp; rfl)); intro gb306 hg w6 hbox hb; have n0_ := Aside0.mk (below_step (by repeat (first | (with_reducible first | exact HB.out | apply below_alloc | apply pw_below_drewN | apply below_drew1) | exact HB.out)) hb); have n1_ := Aside0.mk (hbox); have n2_ := Aside0.mk ((by rw [hg]; exact (below_size (by repeat (first | (with_reducible first | exact HB.out | apply below_alloc | apply pw_below_drewN | apply below_drew1) | exact HB.out))) : w.heap.size ≤ gb306)); have n3_ := Aside0.mk ((by rw [hg]; exact (below_size (by repeat (first | (with_reducible first | exact HB.out | apply below_alloc | apply pw_below_drewN | apply below_drew1) | exact HB.out))) : w.heap.size ≤ gb306)); clear HB; have HB := n0_; have BK306 := n1_; have GW306 := n2_; have GE306 := n3_; clear n0_ n1_ n2_ n3_; clear hb hbox hg; have hcz7_0 : w6.cell? ⟨gb306, 0, none⟩ = some (.int .i64 0) := (blk_cell BK306.out 0).trans rfl; have hcz7_1 : w6.cell? ⟨gb306, 1, none⟩ = some (.int .i64 0) := (blk_cell BK306.out 1).trans rfl; have hfz7_0 := blk_frozen BK306.out 0; have hfz7_1 := blk_frozen BK306.out 1))
            (try simp only [Act.put, List.setIfInBounds_toArray, List.set_cons_zero, List.set_cons_succ])
            go_cut [22] (fun v22 wc => ∃ (kq : Nat) (x22_4 : Bool), v22 = .bool x22_4 ∧ Aside0 (kissgateref11_last.j1 kq x4_1 x5_1 ((rd_T103 l0 x11_1).f0) l0 (l0.length : Int) x11_1 x22_4 ((rd_T103 l0 x11_1).f0) ((rd_T103 l0 x11_1).f1) = some (r1, r2)) ∧ Aside0 (kq ≤ k1) ∧ Aside0 (wc.heap[gb306]? = some (.cells #[.int .i64 ((rd_T103 l0 x11_1).f0), .int .i64 ((rd_T103 l0 x11_1).f1)] 103 (0, 0))) ∧ Aside0 (Below w.heap.size w wc))
            case first =>
              have H := HC5.out
              clear HC5
              by_cases c8 : ((rd_T103 l0 x11_1).f0) < 0
              · rw [if_pos c8] at H
                have c8b0 : decide (((rd_T103 l0 x11_1).f0) < 0) = true := decide_eq_true c8
                clear c8
                (first | rw [c8b0] | (simp only [i64_w, i32_w]; rw [c8b0]) | skip)
                have H' := Aside0.mk H
                clear H
                go_wp2
                go_meet
                case rel => exact ⟨_, (true), (by first | rfl | (simp; done) | (simp [*]; done)), H', ⟨by have := HK1.out; first | omega | exact Nat.le_refl _⟩, ⟨by (with_reducible repeat (first | refine blk_drewN ?_ _ | refine blk_drew ?_ | refine blk_alloc ?_ _)); refine blk_put (cs := #[.int .i64 ((rd_T103 l0 x11_1).f0), .int .i64 0]) ?_ 1 _ rfl; (with_reducible repeat (first | refine blk_drewN ?_ _ | refine blk_drew ?_ | refine blk_alloc ?_ _)); refine blk_put (cs := #[.int .i64 0, .int .i64 0]) ?_ 0 _ rfl; (with_reducible repeat (first | refine blk_drewN ?_ _ | refine blk_drew ?_ | refine blk_alloc ?_ _)); exact BK306.out⟩, ⟨by repeat (first | (with_reducible first | exact HB.out | apply below_alloc | apply pw_below_drewN | apply below_drew1 | refine below_set ?_ GE306.out) | exact HB.out)⟩⟩
              · rw [if_neg c8] at H
                have c8b0 : decide (((rd_T103 l0 x11_1).f0) < 0) = false := decide_eq_false c8
                clear c8
                (first | rw [c8b0] | (simp only [i64_w, i32_w]; rw [c8b0]) | skip)
                have H' := Aside0.mk H
                clear H
                go_wp2
                go_meet
                case rel => exact ⟨_, (decide (((rd_T103 l0 x11_1).f0) > 3)), (by first | rfl | (simp; done) | (simp [*]; done)), H', ⟨by have := HK1.out; first | omega | exact Nat.le_refl _⟩, ⟨by (with_reducible repeat (first | refine blk_drewN ?_ _ | refine blk_drew ?_ | refine blk_alloc ?_ _)); refine blk_put (cs := #[.int .i64 ((rd_T103 l0 x11_1).f0), .int .i64 0]) ?_ 1 _ rfl; (with_reducible repeat (first | refine blk_drewN ?_ _ | refine blk_drew ?_ | refine blk_alloc ?_ _)); refine blk_put (cs := #[.int .i64 0, .int .i64 0]) ?_ 0 _ rfl; (with_reducible repeat (first | refine blk_drewN ?_ _ | refine blk_drew ?_ | refine blk_alloc ?_ _)); exact BK306.out⟩, ⟨by repeat (first | (with_reducible first | exact HB.out | apply below_alloc | apply pw_below_drewN | apply below_drew1 | refine below_set ?_ GE306.out) | exact HB.out)⟩⟩
            case rest =>
              clear HC5
              try clear c2
              try clear c2b0
              try clear p2
              try clear c3
              try clear c3b0
              try clear p3
              try clear q3
              try clear hx3
              try clear c4
              try clear c4b0
              try clear c5
              try clear c8
              try clear c8b0
              try clear hcz7_0
              try clear hcz7_1
              try clear hfz7_0
              try clear hfz7_1
              try clear hx305_0
              try clear hx305_1
              try clear p305
              try clear q305
              obtain ⟨kq, x22_4, rfl, HA, HJ4, BK306, HB⟩ := hcut
              cases kq with
              | zero => exact absurd HA.out (by simp [kissgateref11_last.j1])
              | succ kj4 =>
                have H := HA.out
                clear HA
                simp only [kissgateref11_last.j1] at H
                by_cases c9 : x22_4 = true
                · subst c9
                  have H1 : (if 0 = x4_1 then (kissgateref11_last.l0 kj4 x4_1 x5_1 l0 (l0.length : Int) (wrap64 (x11_1 + 1))) else (kissgateref11_last.l0 kj4 0 ((rd_T103 l0 x11_1).f1) l0 (l0.length : Int) (wrap64 (x11_1 + 1)))) = some (r1, r2) := by rw [if_pos rfl] at H; exact H
                  clear H
                  have H := H1
                  clear H1
                  by_cases c10 : 0 = x4_1
                  · rw [if_pos c10] at H
                    have c10b0 : (0 == x4_1) = true := beq_iff_eq.mpr c10
                    have c10b1 : (0 != x4_1) = false := bne_eq_false_iff_eq.mpr c10
                    clear c10
                    have H' := Aside0.mk H
                    clear H
                    go_wp2
                    go_roundg kj4
                    case measure => have := HK1.out; have := HJ4.out; omega
                    case rel => exact ⟨(x4_1), (x5_1), (wrap64 (x11_1 + 1)), (by first | rfl | (simp; done) | (simp [*]; done)), (by first | rfl | (simp; done) | (simp [*]; done)), (by first | rfl | (simp; done) | (simp [*]; done)), H', ⟨by have := HK1.out; have := HJ4.out; omega⟩, ⟨by repeat (first | (with_reducible first | exact HB.out | apply below_alloc | apply pw_below_drewN | apply below_drew1 | refine below_set ?_ GE306.out) | exact HB.out)⟩⟩
                  · rw [if_neg c10] at H
                    have c10b0 : (0 == x4_1) = false := beq_eq_false_iff_ne.mpr c10
                    have c10b1 : (0 != x4_1) = true := bne_iff_ne.mpr c10
                    have H' := Aside0.mk H
                    clear H
                    have hcz11_0 : wc.cell? ⟨gb306, 0, none⟩ = some (.int .i64 ((rd_T103 l0 x11_1).f0)) := (blk_cell BK306.out 0).trans rfl
                    have hcz11_1 : wc.cell? ⟨gb306, 1, none⟩ = some (.int .i64 ((rd_T103 l0 x11_1).f1)) := (blk_cell BK306.out 1).trans rfl
                    have hfz11_0 := blk_frozen BK306.out 0
                    have hfz11_1 := blk_frozen BK306.out 1
                    go_wp2
                    go_roundg kj4
                    case measure => have := HK1.out; have := HJ4.out; omega
                    case rel => exact ⟨(0), (((rd_T103 l0 x11_1).f1)), (wrap64 (x11_1 + 1)), (by first | rfl | (simp; done) | (simp [*]; done)), (by first | rfl | (simp; done) | (simp [*]; done)), (by first | rfl | (simp; done) | (simp [*]; done)), H', ⟨by have := HK1.out; have := HJ4.out; omega⟩, ⟨by repeat (first | (with_reducible first | exact HB.out | apply below_alloc | apply pw_below_drewN | apply below_drew1 | refine below_set ?_ GE306.out) | exact HB.out)⟩⟩
                · replace c9 := Bool.eq_false_iff.mpr c9
                  subst c9
                  have H1 : (if ((rd_T103 l0 x11_1).f0) = x4_1 then (kissgateref11_last.l0 kj4 x4_1 x5_1 l0 (l0.length : Int) (wrap64 (x11_1 + 1))) else (kissgateref11_last.l0 kj4 ((rd_T103 l0 x11_1).f0) ((rd_T103 l0 x11_1).f1) l0 (l0.length : Int) (wrap64 (x11_1 + 1)))) = some (r1, r2) := by rw [if_neg (show ¬ (false = true) by decide)] at H; exact H
                  clear H
                  have H := H1
                  clear H1
                  by_cases c12 : ((rd_T103 l0 x11_1).f0) = x4_1
                  · rw [if_pos c12] at H
                    have c12b0 : (((rd_T103 l0 x11_1).f0) == x4_1) = true := beq_iff_eq.mpr c12
                    have c12b1 : (((rd_T103 l0 x11_1).f0) != x4_1) = false := bne_eq_false_iff_eq.mpr c12
                    clear c12
                    have H' := Aside0.mk H
                    clear H
                    go_wp2
                    go_roundg kj4
                    case measure => have := HK1.out; have := HJ4.out; omega
                    case rel => exact ⟨(x4_1), (x5_1), (wrap64 (x11_1 + 1)), (by first | rfl | (simp; done) | (simp [*]; done)), (by first | rfl | (simp; done) | (simp [*]; done)), (by first | rfl | (simp; done) | (simp [*]; done)), H', ⟨by have := HK1.out; have := HJ4.out; omega⟩, ⟨by repeat (first | (with_reducible first | exact HB.out | apply below_alloc | apply pw_below_drewN | apply below_drew1 | refine below_set ?_ GE306.out) | exact HB.out)⟩⟩
                  · rw [if_neg c12] at H
                    have c12b0 : (((rd_T103 l0 x11_1).f0) == x4_1) = false := beq_eq_false_iff_ne.mpr c12
                    have c12b1 : (((rd_T103 l0 x11_1).f0) != x4_1) = true := bne_iff_ne.mpr c12
                    have H' := Aside0.mk H
                    clear H
                    have hcz13_0 : wc.cell? ⟨gb306, 0, none⟩ = some (.int .i64 ((rd_T103 l0 x11_1).f0)) := (blk_cell BK306.out 0).trans rfl
                    have hcz13_1 : wc.cell? ⟨gb306, 1, none⟩ = some (.int .i64 ((rd_T103 l0 x11_1).f1)) := (blk_cell BK306.out 1).trans rfl
                    have hfz13_0 := blk_frozen BK306.out 0
                    have hfz13_1 := blk_frozen BK306.out 1
                    go_wp2
                    go_roundg kj4
                    case measure => have := HK1.out; have := HJ4.out; omega
                    case rel => exact ⟨(((rd_T103 l0 x11_1).f0)), (((rd_T103 l0 x11_1).f1)), (wrap64 (x11_1 + 1)), (by first | rfl | (simp; done) | (simp [*]; done)), (by first | rfl | (simp; done) | (simp [*]; done)), (by first | rfl | (simp; done) | (simp [*]; done)), H', ⟨by have := HK1.out; have := HJ4.out; omega⟩, ⟨by repeat (first | (with_reducible first | exact HB.out | apply below_alloc | apply pw_below_drewN | apply below_drew1 | refine below_set ?_ GE306.out) | exact HB.out)⟩⟩
          · rw [if_neg c4] at H
            exact absurd H (by simp)
        · rw [if_neg c3] at H
          exact absurd H (by simp)
      · rw [if_neg c2] at H
        have c2b0 : decide (x11_1 < (l0.length : Int)) = false := decide_eq_false c2
        clear c2
        simp only [Option.some.injEq, Prod.mk.injEq] at H
        obtain ⟨rfl, rfl⟩ := H
        go_wp2
        go_ret2
        exact ⟨by first | rfl | (simp [errW_none, errW_some] <;> rfl) | (simp [*, errW_none, errW_some] <;> rfl), by repeat (first | (with_reducible first | exact HB.out | apply below_alloc | apply pw_below_drewN | apply below_drew1) | exact HB.out)⟩
def kissgateref11_State.f (k : Nat) (l0 : List (S103)) (a1 : Int) : Option (Int) := (kissgateref11_last.f k l0).bind fun bt307 => (if bt307.1 = 1 then (some (mx 0 (mn 2 (wrap64 (Int.tdiv (wrap64 (a1 - bt307.2)) 4))))) else (if bt307.1 = 2 then (some (mx 0 (mn 2 (wrap64 (Int.tdiv (wrap64 (a1 - bt307.2)) 4))))) else (some 0)))
set_option maxHeartbeats 8000000 in
set_option maxRecDepth 100000 in
theorem kissgateref11_State.calls (k : Nat) (A0 : Option Addr) (c0 : Nat) (l0 : List (S103)) (a1 : Int) (r : Int) (w : World) (hr0 : Kd.C k103 w A0 l0.length l0) (hc0 : l0.length ≤ c0) (h : kissgateref11_State.f k l0 a1 = some r) :
    Calls Tryd.prog 44 #[.slice A0 l0.length c0, .int .i64 a1] w fun e w' => e = .returned (.int .i64 r) ∧ Below w.heap.size w w' := by
  have HR0 := Aside0.mk hr0
  have HC0 := Aside0.mk hc0
  clear hr0 hc0
  have HB := Aside0.mk (Below.refl w.heap.size w)
  have H : ((kissgateref11_last.f k l0).bind fun bt307 => (if bt307.1 = 1 then (some (mx 0 (mn 2 (wrap64 (Int.tdiv (wrap64 (a1 - bt307.2)) 4))))) else (if bt307.1 = 2 then (some (mx 0 (mn 2 (wrap64 (Int.tdiv (wrap64 (a1 - bt307.2)) 4))))) else (some 0)))) = some r := h
  clear h
  replace H := Option.bind_eq_some_iff.mp H
  obtain ⟨⟨t307, t308⟩, A30, H⟩ := H
  replace H : (if t307 = 1 then (some (mx 0 (mn 2 (wrap64 (Int.tdiv (wrap64 (a1 - t308)) 4))))) else (if t307 = 2 then (some (mx 0 (mn 2 (wrap64 (Int.tdiv (wrap64 (a1 - t308)) 4))))) else (some 0))) = some r := H
  have A3 := Aside0.mk A30
  clear A30
  by_cases c4 : t307 = 1
  · rw [if_pos c4] at H
    have c4b0 : (t307 == 1) = true := beq_iff_eq.mpr c4
    have c4b1 : (t307 != 1) = false := bne_eq_false_iff_eq.mpr c4
    clear c4
    obtain ⟨ji5, hji5⟩ : ∃ j_ : Int, (mn 2 (wrap64 (Int.tdiv (wrap64 (a1 - t308)) 4))) = j_ := ⟨_, rfl⟩
    replace H : (some (mx 0 (ji5))) = some r := by first | (rw [hji5] at H; exact H) | (simp only [hji5] at H ⊢; exact H)
    (try rw [hji5] at A3)
    (try (have hji5h : ji5 ≤ 2 := by (rw [← hji5]; unfold mn; (repeat' split) <;> omega)))
    (try (have hji5g : ji5 ≤ 64 := by omega))
    have hji5_ : (if (wrap64 (Int.tdiv (wrap64 (a1 - t308)) 4)) < 2 then (wrap64 (Int.tdiv (wrap64 (a1 - t308)) 4)) else 2) = ji5 := hji5
    obtain ⟨ji6, hji6⟩ : ∃ j_ : Int, (mx 0 (ji5)) = j_ := ⟨_, rfl⟩
    replace H : (some ji6) = some r := by first | (rw [hji6] at H; exact H) | (simp only [hji6] at H ⊢; exact H)
    (try rw [hji6] at A3)
    have hji6_ : (if 0 < (ji5) then (ji5) else 0) = ji6 := hji6
    obtain rfl := Option.some.inj H
    go_enter Tryd.func44, Tryd.ntmps44
    go_wp2_with (first | ((with_reducible refine gate_callee (f := 55) rfl ?_); refine goesL_ (some 9) rfl rfl Tryd.func55 (by kernel_rfl) rfl #[.slice A0 l0.length c0] rfl (by (try simp only [List.map_toArray, List.map_cons, List.map_nil]); first | done | rfl | (simp only [List.length_drop, List.length_take]; rfl)) ?_; (with_reducible refine (kissgateref11_last.calls k _ _ l0 t307 t308 _ ?side1 ?side2 A3.out).mono ?_); (case side1 => repeat (first | exact HR0.out | (with_reducible refine Kd.C_alloc ?_ _) | (with_reducible refine Kd.C_drewN ?_ _) | (with_reducible refine Kd.C_drew ?_))); (case side2 => exact HC0.out); rintro e w7 ⟨rfl, hb⟩; refine ⟨_, rfl, ?_⟩; have n0_ := Aside0.mk (below_step (by repeat (first | (with_reducible first | exact HB.out | apply below_alloc | apply pw_below_drewN | apply below_drew1) | exact HB.out)) hb); clear HB; have HB := n0_; clear n0_; (try clear hb); (try clear hb2); (try clear hk); (try clear hi)))
    go_ret
    exact ⟨by first | rfl | (simp [errW_none, errW_some] <;> rfl) | (simp only [← hji5, ← hji6]; first | rfl | (simp [errW_none, errW_some] <;> rfl)) | (simp [*, errW_none, errW_some] <;> rfl), by repeat (first | (with_reducible first | exact HB.out | apply below_alloc | apply pw_below_drewN | apply below_drew1) | exact HB.out)⟩
  · rw [if_neg c4] at H
    have c4b0 : (t307 == 1) = false := beq_eq_false_iff_ne.mpr c4
    have c4b1 : (t307 != 1) = true := bne_iff_ne.mpr c4
    by_cases c8 : t307 = 2
    · rw [if_pos c8] at H
      have c8b0 : (t307 == 2) = true := beq_iff_eq.mpr c8
      have c8b1 : (t307 != 2) = false := bne_eq_false_iff_eq.mpr c8
      clear c8
      obtain ⟨ji9, hji9⟩ : ∃ j_ : Int, (mn 2 (wrap64 (Int.tdiv (wrap64 (a1 - t308)) 4))) = j_ := ⟨_, rfl⟩
      replace H : (some (mx 0 (ji9))) = some r := by first | (rw [hji9] at H; exact H) | (simp only [hji9] at H ⊢; exact H)
      (try rw [hji9] at A3)
      (try (have hji9h : ji9 ≤ 2 := by (rw [← hji9]; unfold mn; (repeat' split) <;> omega)))
      (try (have hji9g : ji9 ≤ 64 := by omega))
      have hji9_ : (if (wrap64 (Int.tdiv (wrap64 (a1 - t308)) 4)) < 2 then (wrap64 (Int.tdiv (wrap64 (a1 - t308)) 4)) else 2) = ji9 := hji9
      obtain ⟨ji10, hji10⟩ : ∃ j_ : Int, (mx 0 (ji9)) = j_ := ⟨_, rfl⟩
      replace H : (some ji10) = some r := by first | (rw [hji10] at H; exact H) | (simp only [hji10] at H ⊢; exact H)
      (try rw [hji10] at A3)
      have hji10_ : (if 0 < (ji9) then (ji9) else 0) = ji10 := hji10
      obtain rfl := Option.some.inj H
      go_enter Tryd.func44, Tryd.ntmps44
      go_wp2_with (first | ((with_reducible refine gate_callee (f := 55) rfl ?_); refine goesL_ (some 9) rfl rfl Tryd.func55 (by kernel_rfl) rfl #[.slice A0 l0.length c0] rfl (by (try simp only [List.map_toArray, List.map_cons, List.map_nil]); first | done | rfl | (simp only [List.length_drop, List.length_take]; rfl)) ?_; (with_reducible refine (kissgateref11_last.calls k _ _ l0 t307 t308 _ ?side1 ?side2 A3.out).mono ?_); (case side1 => repeat (first | exact HR0.out | (with_reducible refine Kd.C_alloc ?_ _) | (with_reducible refine Kd.C_drewN ?_ _) | (with_reducible refine Kd.C_drew ?_))); (case side2 => exact HC0.out); rintro e w11 ⟨rfl, hb⟩; refine ⟨_, rfl, ?_⟩; have n0_ := Aside0.mk (below_step (by repeat (first | (with_reducible first | exact HB.out | apply below_alloc | apply pw_below_drewN | apply below_drew1) | exact HB.out)) hb); clear HB; have HB := n0_; clear n0_; (try clear hb); (try clear hb2); (try clear hk); (try clear hi)))
      go_ret
      exact ⟨by first | rfl | (simp [errW_none, errW_some] <;> rfl) | (simp only [← hji9, ← hji10]; first | rfl | (simp [errW_none, errW_some] <;> rfl)) | (simp [*, errW_none, errW_some] <;> rfl), by repeat (first | (with_reducible first | exact HB.out | apply below_alloc | apply pw_below_drewN | apply below_drew1) | exact HB.out)⟩
    · rw [if_neg c8] at H
      have c8b0 : (t307 == 2) = false := beq_eq_false_iff_ne.mpr c8
      have c8b1 : (t307 != 2) = true := bne_iff_ne.mpr c8
      obtain rfl := Option.some.inj H
      go_enter Tryd.func44, Tryd.ntmps44
      go_wp2_with (first | ((with_reducible refine gate_callee (f := 55) rfl ?_); refine goesL_ (some 9) rfl rfl Tryd.func55 (by kernel_rfl) rfl #[.slice A0 l0.length c0] rfl (by (try simp only [List.map_toArray, List.map_cons, List.map_nil]); first | done | rfl | (simp only [List.length_drop, List.length_take]; rfl)) ?_; (with_reducible refine (kissgateref11_last.calls k _ _ l0 t307 t308 _ ?side1 ?side2 A3.out).mono ?_); (case side1 => repeat (first | exact HR0.out | (with_reducible refine Kd.C_alloc ?_ _) | (with_reducible refine Kd.C_drewN ?_ _) | (with_reducible refine Kd.C_drew ?_))); (case side2 => exact HC0.out); rintro e w12 ⟨rfl, hb⟩; refine ⟨_, rfl, ?_⟩; have n0_ := Aside0.mk (below_step (by repeat (first | (with_reducible first | exact HB.out | apply below_alloc | apply pw_below_drewN | apply below_drew1) | exact HB.out)) hb); clear HB; have HB := n0_; clear n0_; (try clear hb); (try clear hb2); (try clear hk); (try clear hi)))
      go_ret
      exact ⟨by first | rfl | (simp [errW_none, errW_some] <;> rfl) | (simp [*, errW_none, errW_some] <;> rfl), by repeat (first | (with_reducible first | exact HB.out | apply below_alloc | apply pw_below_drewN | apply below_drew1) | exact HB.out)⟩
def kissgateref11_Role.f (k : Nat) (l0 : List (S103)) : Option (Int) := (kissgateref11_last.f k l0).bind fun bt310 => (some bt310.1)
set_option maxHeartbeats 8000000 in
set_option maxRecDepth 100000 in
theorem kissgateref11_Role.calls (k : Nat) (A0 : Option Addr) (c0 : Nat) (l0 : List (S103)) (r : Int) (w : World) (hr0 : Kd.C k103 w A0 l0.length l0) (hc0 : l0.length ≤ c0) (h : kissgateref11_Role.f k l0 = some r) :
    Calls Tryd.prog 46 #[.slice A0 l0.length c0] w fun e w' => e = .returned (.int .i64 r) ∧ Below w.heap.size w w' := by
  have HR0 := Aside0.mk hr0
  have HC0 := Aside0.mk hc0
  clear hr0 hc0
  have HB := Aside0.mk (Below.refl w.heap.size w)
  have H : ((kissgateref11_last.f k l0).bind fun bt310 => (some bt310.1)) = some r := h
  clear h
  replace H := Option.bind_eq_some_iff.mp H
  obtain ⟨⟨t310, t311⟩, A20, H⟩ := H
  replace H : (some t310) = some r := H
  have A2 := Aside0.mk A20
  clear A20
  obtain rfl := Option.some.inj H
  go_enter Tryd.func46, Tryd.ntmps46
  go_wp2_with (first | ((with_reducible refine gate_callee (f := 55) rfl ?_); refine goesL_ (some 7) rfl rfl Tryd.func55 (by kernel_rfl) rfl #[.slice A0 l0.length c0] rfl (by (try simp only [List.map_toArray, List.map_cons, List.map_nil]); first | done | rfl | (simp only [List.length_drop, List.length_take]; rfl)) ?_; (with_reducible refine (kissgateref11_last.calls k _ _ l0 t310 t311 _ ?side1 ?side2 A2.out).mono ?_); (case side1 => repeat (first | exact HR0.out | (with_reducible refine Kd.C_alloc ?_ _) | (with_reducible refine Kd.C_drewN ?_ _) | (with_reducible refine Kd.C_drew ?_))); (case side2 => exact HC0.out); rintro e w3 ⟨rfl, hb⟩; refine ⟨_, rfl, ?_⟩; have n0_ := Aside0.mk (below_step (by repeat (first | (with_reducible first | exact HB.out | apply below_alloc | apply pw_below_drewN | apply below_drew1) | exact HB.out)) hb); clear HB; have HB := n0_; clear n0_; (try clear hb); (try clear hb2); (try clear hk); (try clear hi)))
  go_ret
  exact ⟨by first | rfl | (simp [errW_none, errW_some] <;> rfl) | (simp [*, errW_none, errW_some] <;> rfl), by repeat (first | (with_reducible first | exact HB.out | apply below_alloc | apply pw_below_drewN | apply below_drew1) | exact HB.out)⟩
end Go.Proofs.YtfimhaodgekkgaaDoor.QTre
namespace Go.Proofs.YtfimhaodgekkgaaDoor.QTre
open Go.RowKit Go.Proofs.YtfimhaodgekkgaaDoorW.PrintWords Go.Proofs.YtfimhaodgekkgaaDoorW.PrintLast Go.Proofs.YtfimhaodgekkgaaDoorW.PrintMore
open Go.Proofs.YtfimhaodgekkgaaDoor.Gen (Own Trn)
open Go.Proofs.YtfimhaodgekkgaaDoor.Pri (FitH roles bestOf role brid conv)
set_option linter.unusedVariables false
set_option linter.unusedSimpArgs false
theorem rd103 {l : List S103} {i : Nat} (h : i < l.length) : rd_T103 l (i : Int) = l[i] := by
  unfold rd_T103
  rw [Int.toNat_natCast, List.getD_eq_getElem?_getD, List.getElem?_eq_getElem h]
  rfl
theorem last_loop (l : List S103) (hm : l.length ≤ 1000000) : ∀ (k i : Nat) (a : Int × Int), 2 * (l.length - i) < k → i ≤ l.length → kissgateref11_last.l0 k a.1 a.2 l (l.length : Int) (i : Int) = some ((l.drop i).foldl stepT a)
  | 0, i, a, h, _ => absurd h (Nat.not_lt_zero _)
  | k + 1, i, a, h, hi => by
    unfold kissgateref11_last.l0
    by_cases hl : i < l.length
    · have hz : (i : Int) < (l.length : Int) := by omega
      have h0 : (0 : Int) ≤ (i : Int) := by omega
      have hw : wrap64 ((i : Int) + 1) = ((i + 1 : Nat) : Int) := by unfold wrap64; omega
      rw [if_pos hz, if_pos h0, if_pos hz, rd103 hl, List.drop_eq_getElem_cons hl, List.foldl_cons]
      obtain ⟨k, rfl⟩ : ∃ k2, k = k2 + 1 := ⟨k - 1, by omega⟩
      have ih := fun b => last_loop l hm k (i + 1) b (by omega) (by omega)
      by_cases h1 : l[i].f0 < 0
      · rw [if_pos h1]
        unfold kissgateref11_last.j1
        rw [if_pos rfl, hw]
        have hs : stepT a l[i] = if (0 : Int) = a.1 then a else (0, l[i].f1) := by unfold stepT clampR; rw [if_pos (Or.inl h1)]
        by_cases h2 : (0 : Int) = a.1
        · rw [if_pos h2] at hs ⊢; rw [hs]; exact ih a
        · rw [if_neg h2] at hs ⊢; rw [hs]; exact ih (0, l[i].f1)
      · rw [if_neg h1]
        unfold kissgateref11_last.j1
        rw [hw]
        by_cases h3 : l[i].f0 > 3
        · rw [if_pos (decide_eq_true h3)]
          have hs : stepT a l[i] = if (0 : Int) = a.1 then a else (0, l[i].f1) := by unfold stepT clampR; rw [if_pos (Or.inr h3)]
          by_cases h2 : (0 : Int) = a.1
          · rw [if_pos h2] at hs ⊢; rw [hs]; exact ih a
          · rw [if_neg h2] at hs ⊢; rw [hs]; exact ih (0, l[i].f1)
        · rw [if_neg (by rw [decide_eq_true_iff]; exact h3)]
          have hs : stepT a l[i] = if l[i].f0 = a.1 then a else (l[i].f0, l[i].f1) := by unfold stepT clampR; rw [if_neg (show ¬ (l[i].f0 < 0 ∨ 3 < l[i].f0) by omega)]
          by_cases h2 : l[i].f0 = a.1
          · rw [if_pos h2] at hs ⊢; rw [hs]; exact ih a
          · rw [if_neg h2] at hs ⊢; rw [hs]; exact ih (l[i].f0, l[i].f1)
    · have e : i = l.length := by omega
      subst e
      rw [if_neg (Int.lt_irrefl _), List.drop_length]
      rfl
theorem last_f (l : List S103) (hm : l.length ≤ 1000000) : kissgateref11_last.f (2 * l.length + 1) l = some (lastTn l) := by
  have := last_loop l hm (2 * l.length + 1) 0 (0, 0) (by omega) (Nat.zero_le _)
  rw [List.drop_zero] at this
  exact this
theorem trole_calls (A : Option Addr) (c n : Nat) (l : List S103) (w : World) (hl : l.length = n) (hr : Kd.C k103 w A n l) (hc : n ≤ c) (hm : l.length ≤ 1000000) :
    Calls Tryd.prog 46 #[.slice A n c] w fun e w' => e = .returned (.int .i64 (lastTn l).1) ∧ Below w.heap.size w w' := by
  subst hl
  refine kissgateref11_Role.calls (2 * l.length + 1) A c l _ w hr hc ?_
  unfold kissgateref11_Role.f
  rw [last_f l hm]; rfl
def stT (a : Int × Int) (now : Int) : Int := if actv a.1 = false ∨ wrap64 (now - a.2) < 4 then 0 else if wrap64 (now - a.2) < 8 then 1 else 2
theorem tstate_calls (A : Option Addr) (c n : Nat) (l : List S103) (now : Int) (w : World) (hl : l.length = n) (hr : Kd.C k103 w A n l) (hc : n ≤ c) (hm : l.length ≤ 1000000) (h0 : 0 ≤ (lastTn l).2) (h1 : (lastTn l).2 ≤ now) (h2 : now ≤ 1000000000) :
    Calls Tryd.prog 44 #[.slice A n c, .int .i64 now] w fun e w' => e = .returned (.int .i64 (stT (lastTn l) now)) ∧ Below w.heap.size w w' := by
  subst hl
  refine kissgateref11_State.calls (2 * l.length + 1) A c l now _ w hr hc ?_
  unfold kissgateref11_State.f
  rw [last_f l hm, Option.bind_some]
  have hx : mx 0 (mn 2 (wrap64 (Int.tdiv (wrap64 (now - (lastTn l).2)) 4))) = if wrap64 (now - (lastTn l).2) < 4 then 0 else if wrap64 (now - (lastTn l).2) < 8 then 1 else 2 := by
    have e1 : wrap64 (now - (lastTn l).2) = now - (lastTn l).2 := by unfold wrap64; omega
    rw [e1, Int.tdiv_eq_ediv_of_nonneg (by omega)]
    have e2 : wrap64 ((now - (lastTn l).2) / 4) = (now - (lastTn l).2) / 4 := by unfold wrap64; omega
    rw [e2]
    unfold mx mn
    repeat' split
    all_goals omega
  unfold stT actv
  by_cases r1 : (lastTn l).1 = 1
  · rw [if_pos r1, hx]
    simp [r1]
  · rw [if_neg r1]
    by_cases r2 : (lastTn l).1 = 2
    · rw [if_pos r2, hx]
      simp [r2]
    · rw [if_neg r2]
      simp [r1, r2]
end Go.Proofs.YtfimhaodgekkgaaDoor.QTre
namespace Go.Proofs.YtfimhaodgekkgaaDoor.QTre
open Go.RowKit Go.Proofs.YtfimhaodgekkgaaDoorW.PrintWords Go.Proofs.YtfimhaodgekkgaaDoorW.PrintLast Go.Proofs.YtfimhaodgekkgaaDoorW.PrintMore
open Go.Proofs.YtfimhaodgekkgaaDoor.Gen (Own Trn)
open Go.Proofs.YtfimhaodgekkgaaDoor.Pri (FitH roles bestOf role brid conv)
set_option linter.unusedVariables false
set_option linter.unusedSimpArgs false
theorem rbest10_calls (id : Int) (L : List S80) (A : Option Addr) (c n : Nat) (w : World) (hln : L.length = n) (hr : Kd.C k59 w A n (L.map conv)) (hc : n ≤ c) (hn : n ≤ 1000) (hf : ∀ h ∈ L, FitH h) :
    Calls Tryd.prog 56 #[.int .i64 id, .slice A n c] w fun e w' => e = .returned (.tuple #[.agg #[.int .i64 (bestOf id L).1.f0, .int .i64 (bestOf id L).1.f1, .int .i64 (bestOf id L).1.f2, .int .i64 (bestOf id L).1.f3], .int .i64 (bestOf id L).2]) ∧ Below w.heap.size w w' := by
  subst hln
  obtain ⟨k, hk⟩ := (Pri.best_ref id L (by omega) hf).rounds
  have hl : (L.map conv).length = L.length := List.length_map _
  have := kissgateref10_Best.calls k id A c (L.map conv) _ _ _ _ _ w (by rw [hl]; exact hr) (by rw [hl]; exact hc) hk
  rw [hl] at this
  exact this
theorem lower59 {w : World} {base base2 : Nat} {v : Value} {xs : List S59} (h : Kd.R k59 59 w base (fun _ => True) v xs) (hl : base2 ≤ base) : Kd.R k59 59 w base2 (fun _ => True) v xs := by
  rcases Gen.Own.ofR (enc := enc59) (k := 7) (fun _ => rfl) rfl (fun w base ok x cs h => k59_openM h) h with ⟨rfl, rfl⟩ | ⟨b, cap, rfl, ho, hb, hm, hO⟩
  · exact Kd.R_nil _ _ _ _ _
  · exact hO.toR (d := k59) (fun _ => rfl) rfl (fun w base ok x => k59_mkM w base ok x) (Nat.le_trans hl hb) ho hm
theorem rbTab : rtab .any (opsOf Tryd.f45 1) = (true, [([], []), ([0], [0]), ([1], [1]), ([2], [2]), ([], []), ([4], [4]), ([3, 5, 5], [3, 5]), ([6], [6]), ([7], [7]), ([7], [7]), ([], []), ([10, 8, 6, 0, 1, 2, 3, 4, 5, 6, 7, 8, 10], [8, 10]), ([9, 11, 0, 1, 2, 3, 4, 5, 6, 7, 8, 9, 10, 11], [9])]) := by kernel_rfl
theorem rbBits : waitsOk ((true, [([], []), ([0], [0]), ([1], [1]), ([2], [2]), ([], []), ([4], [4]), ([3, 5, 5], [3, 5]), ([6], [6]), ([7], [7]), ([7], [7]), ([], []), ([10, 8, 6, 0, 1, 2, 3, 4, 5, 6, 7, 8, 10], [8, 10]), ([9, 11, 0, 1, 2, 3, 4, 5, 6, 7, 8, 9, 10, 11], [9])])).2 [0, 1, 3, 7, 0, 16, 63, 127, 255, 255, 0, 1535, 4095] = true := by kernel_rfl
theorem rb4Tab : rtab .any (opsOf Tryd.f45 4) = (true, [([], []), ([], []), ([], []), ([2], [2]), ([3], [3]), ([4], [4]), ([], []), ([5, 6], [5, 6]), ([7], [7]), ([8], [8]), ([9], [9]), ([10], [10]), ([0, 0], [0]), ([1, 12, 0, 1, 12], [1]), ([11, 13, 0, 1, 2, 3, 4, 5, 6, 7, 8, 9, 10, 11, 12, 13], [11])]) := by kernel_rfl
theorem rb4Bits : waitsOk ((true, [([], []), ([], []), ([], []), ([2], [2]), ([3], [3]), ([4], [4]), ([], []), ([5, 6], [5, 6]), ([7], [7]), ([8], [8]), ([9], [9]), ([10], [10]), ([0, 0], [0]), ([1, 12, 0, 1, 12], [1]), ([11, 13, 0, 1, 2, 3, 4, 5, 6, 7, 8, 9, 10, 11, 12, 13], [11])])).2 [0, 0, 0, 4, 12, 28, 0, 124, 252, 508, 1020, 2044, 1, 4099, 16383] = true := by kernel_rfl
def ageQ (P : List RP) (root : Int) : Int := if root < 0 then 0 else IntKind.i64.wrap ((P.getD root.toNat rp0).q.heard.f1 + 1)
set_option maxHeartbeats 8000000 in
set_option maxRecDepth 100000 in
theorem rbest_calls (base g b cap ob ocap : Nat) (id : Int) (P : List RP) (change : Int) (opens : List Bool) (w : World) (ht : RTre w base g b cap ob ocap id P change opens) (hn : P.length ≤ 100) (hf : ∀ x ∈ P, FitQ x.q) :
    Calls Tryd.prog 45 #[.pointer (some ⟨g, 0, none⟩)] w fun e w' => e = .returned (.tuple #[.agg #[.int .i64 (bestOf id (listQ P)).1.f0, .int .i64 (bestOf id (listQ P)).1.f1, .int .i64 (bestOf id (listQ P)).1.f2, .int .i64 (bestOf id (listQ P)).1.f3], .int .i64 (bestOf id (listQ P)).2, .int .i64 (ageQ P (bestOf id (listQ P)).2)]) ∧ Below w.heap.size w w' := by
  have e52 : ∀ args w, (callFunc 52 args).run Tryd.prog w = .ok (.enter 52 args) w := enters_of Tryd.func52 (by kernel_rfl) rfl
  have e56 : ∀ args w, (callFunc 56 args).run Tryd.prog w = .ok (.enter 56 args) w := enters_of Tryd.func56 (by kernel_rfl) rfl
  have mixed : Tryd.prog.follows .mixedOrders = true := by kernel_rfl
  have hu36 := Tryd.underlying36
  have hg0 : w.cell? ⟨g, 0, none⟩ = some (.int .i64 id) := (blk_cell ht.cell 0).trans rfl
  have HT := Aside0.mk ht
  have HLN := Aside0.mk (show (listQ P).length = P.length from List.length_map _)
  have HF := Aside0.mk (fit_listQ hf)
  have HLS := Aside0.mk (fun (W : World) (hb : Below w.heap.size w W) => rlist_calls base g b cap ob ocap id P change opens W (ht.below hb) hn)
  have HBS := Aside0.mk (fun (W : World) (v : Value) (hr : Kd.R k59 59 W w.heap.size (fun _ => True) v ((listQ P).map conv)) => (by
    obtain ⟨A, c, e, hc, hC⟩ := Gen.R_open hr
    rw [List.length_map, HLN.out] at e hc hC
    exact ⟨A, c, e, fun W2 hb2 => rbest10_calls id (listQ P) A c P.length W2 HLN.out (Kd.C_below hC hb2) hc (by omega) HF.out⟩ : ∃ A c, v = .slice A P.length c ∧ ∀ W2, Below W.heap.size W W2 → Calls Tryd.prog 56 #[.int .i64 id, .slice A P.length c] W2 fun e w' => e = .returned (.tuple #[.agg #[.int .i64 (bestOf id (listQ P)).1.f0, .int .i64 (bestOf id (listQ P)).1.f1, .int .i64 (bestOf id (listQ P)).1.f2, .int .i64 (bestOf id (listQ P)).1.f3], .int .i64 (bestOf id (listQ P)).2]) ∧ Below W2.heap.size W2 w'))
  have hat : (bestOf id (listQ P)).2 < (P.length : Int) := by
    have := best_at id (listQ P) 0 (Pri.own id, -1) (by simp)
    rw [HLN.out, Nat.zero_add] at this
    exact this
  clear ht hf
  generalize bestOf id (listQ P) = B at *
  obtain ⟨⟨b0, b1, b2, b3⟩, br⟩ := B
  dsimp only at HBS hat ⊢
  go_enter Tryd.func45, Tryd.ntmps45
  go_upto_region 1 with ((with_reducible refine gate_dst (N := 2) rfl ?_); refine box_event ?hg (N := 2) ?hd (cs := #[.int .i64 0, .int .i64 0, .int .i64 0, .int .i64 0]) (t := 36) ?hr ?_; (case hd => rfl); (case hg => rfl); (case hr => first | (go_simp; done) | (go_simp; rfl)); intro gb hg w2 hbox hb; have hcz0 : w2.cell? ⟨gb, 0, none⟩ = some (.int .i64 0) := (blk_cell hbox 0).trans rfl; have hfz0 := blk_frozen hbox 0; have hcz1 : w2.cell? ⟨gb, 1, none⟩ = some (.int .i64 0) := (blk_cell hbox 1).trans rfl; have hfz1 := blk_frozen hbox 1; have hcz2 : w2.cell? ⟨gb, 2, none⟩ = some (.int .i64 0) := (blk_cell hbox 2).trans rfl; have hfz2 := blk_frozen hbox 2; have hcz3 : w2.cell? ⟨gb, 3, none⟩ = some (.int .i64 0) := (blk_cell hbox 3).trans rfl; have hfz3 := blk_frozen hbox 3; have BX := Aside0.mk hbox; have KX := Aside0.mk hb; have HGB := Aside0.mk hg; clear hbox hb hg)
  have hgl2 : g < w2.heap.size := Nat.lt_of_lt_of_le (blk_lt HT.out.cell) KX.out.size
  have hg2 : w2.cell? ⟨g, 0, none⟩ = some (.int .i64 id) := pw_cell_below KX.out hg0
  have HG2 := Aside0.mk hg2
  have hgb2 : gb < w2.heap.size := blk_lt BX.out
  clear hg2 hg0
  refine start_ (n := 13) (S := fun w' => w'.cell? ⟨g, 0, none⟩ = some (.int .i64 id)) (ds := []) #[false, false, false, false, false, false, false, false, false, false, false, false, false] mixed rfl rfl (pw_cell_below (below_drew1 (Below.refl _ _)) HG2.out) (fun hHeld => ?_)
  refine with_tabW rbTab rbBits (fun HT_ HW_ => ?_)
  have HB2 := Aside0.mk (below_drew1 (Below.refl w2.heap.size w2))
  generalize w2.drew = wd at HB2 hHeld ⊢
  refine pure_ (i := 0) (N := some 8) (v := ?_) (a' := ?_) #[true, false, false, false, false, false, false, false, false, false, false, false, false] rfl rfl (any_of HT_.out (by kernel_rfl)) (fun _ _ _ h => h) (Or.inl ⟨by rfl, ?_⟩) ?_ ?_
  rotate_left
  · intro w'
    go_simp
    with_reducible rfl
  rotate_left
  · simp only [Act.put, List.setIfInBounds_toArray, List.set_cons_zero, List.set_cons_succ, i64_w, i32_w]
    rfl
  refine pure_ (i := 1) (N := some 9) (v := ?_) (a' := ?_) #[true, true, false, false, false, false, false, false, false, false, false, false, false] rfl rfl (any_of HT_.out (by kernel_rfl)) (fun _ _ _ h => h) (Or.inl ⟨by rfl, ?_⟩) ?_ ?_
  rotate_left
  · intro w'
    go_simp
    with_reducible rfl
  rotate_left
  · simp only [Act.put, List.setIfInBounds_toArray, List.set_cons_zero, List.set_cons_succ, i64_w, i32_w]
    rfl
  refine pure_ (i := 2) (N := some 10) (v := ?_) (a' := ?_) #[true, true, true, false, false, false, false, false, false, false, false, false, false] rfl rfl (any_of HT_.out (by kernel_rfl)) (fun _ _ _ h => h) (Or.inl ⟨by rfl, ?_⟩) ?_ ?_
  rotate_left
  · intro w'
    go_simp
    with_reducible rfl
  rotate_left
  · simp only [Act.put, List.setIfInBounds_toArray, List.set_cons_zero, List.set_cons_succ, i64_w, i32_w]
    rfl
  refine take_ (i := 3) (N := some 11) (v := ?_) (a' := ?_) #[true, true, true, true, false, false, false, false, false, false, false, false, false] rfl rfl (take_ofW HT_.out HW_.out (by kernel_rfl)) (fun _ _ _ h => h) (Or.inl ⟨by rfl, ?_⟩) hHeld ?_ ?_
  rotate_left
  · rintro w' s0
    go_simp
    with_reducible rfl
  rotate_left
  · simp only [Act.put, List.setIfInBounds_toArray, List.set_cons_zero, List.set_cons_succ, i64_w, i32_w]
    rfl
  refine pure_ (i := 4) (N := some 12) (v := ?_) (a' := ?_) #[true, true, true, true, true, false, false, false, false, false, false, false, false] rfl rfl (any_of HT_.out (by kernel_rfl)) (fun _ _ _ h => h) (Or.inl ⟨by rfl, ?_⟩) ?_ ?_
  rotate_left
  · intro w'
    go_simp
    with_reducible rfl
  rotate_left
  · simp only [Act.put, List.setIfInBounds_toArray, List.set_cons_zero, List.set_cons_succ, i64_w, i32_w]
    rfl
  refine join_ (σ := Nat × Value) 2 #[true, true, true, true, true, true, true, true, true, true, true, false, false] (fun s_ => [(13, s_.2), (14, .tuple #[.agg #[.int .i64 b0, .int .i64 b1, .int .i64 b2, .int .i64 b3], .int .i64 br]), (7, .tuple #[.agg #[.int .i64 b0, .int .i64 b1, .int .i64 b2, .int .i64 b3], .int .i64 br]), (15, .agg #[.int .i64 b0, .int .i64 b1, .int .i64 b2, .int .i64 b3]), (16, .int .i64 br), (5, .pointer (some ⟨s_.1, 0, none⟩))]) (fun s_ w' => (w'.cell? ⟨g, 0, none⟩ = some (.int .i64 id)) ∧ (w'.heap[s_.1]? = some (.cells #[.int .i64 0, .int .i64 0, .int .i64 0, .int .i64 0] 36 (0, 0))) ∧ (w2.heap.size ≤ s_.1) ∧ (Below w2.heap.size w2 w')) ?_ ?_
  rotate_left
  · intro hCont
    refine two_ (i := 5) (j := 10) (Ni := some 13) (Nj := some 5) #[true, true, true, true, true, true, false, false, false, false, false, false, false] #[true, true, true, true, true, false, false, false, false, false, true, false, false] rfl rfl rfl rfl (two_of HT_.out (by kernel_rfl)) (by decide) (by decide) (fun K hK => ?_) (fun K hK => ?_)
    · skip
      refine goes_ Tryd.func52 (by kernel_rfl) rfl #[.pointer (some ⟨g, 0, none⟩)] (by rfl) rfl rfl (by (try simp only [List.map_toArray, List.map_cons, List.map_nil]); first | done | rfl | (simp only [List.length_drop, List.length_take]; rfl)) ?_
      with_reducible refine (HLS.out _ (below_step KX.out HB2.out)).mono ?_
      rintro e w3 ⟨v3, rfl, hr3, h3⟩
      obtain ⟨A3, c3, rfl, hC3⟩ := HBS.out w3 v3 (lower59 hr3 (Nat.le_trans KX.out.size HB2.out.size))
      have HC3 := Aside0.mk hC3
      have HB3 := Aside0.mk (below_step HB2.out h3)
      clear hr3 h3 hC3
      refine ⟨_, rfl, ?_⟩
      refine hK.out _ _ (pw_cell_below HB3.out HG2.out) (fun hHeld => ?_)
      clear hK K
      refine norm_ (a' := ?_) ?_ ?_
      rotate_left
      · show Act.put _ (some 13) _ = _
        simp only [Act.put, List.setIfInBounds_toArray, List.set_cons_zero, List.set_cons_succ, i64_w, i32_w]
        rfl
      refine two_ (i := 6) (j := 10) (Ni := some 14) (Nj := some 5) #[true, true, true, true, true, true, true, false, false, false, false, false, false] #[true, true, true, true, true, true, false, false, false, false, true, false, false] rfl rfl rfl rfl (two_of HT_.out (by kernel_rfl)) (by decide) (by decide) (fun K hK => ?_) (fun K hK => ?_)
      · skip
        refine goes_ Tryd.func56 (by kernel_rfl) rfl #[.int .i64 id, .slice A3 P.length c3] (by rfl) rfl rfl (by (try simp only [List.map_toArray, List.map_cons, List.map_nil]); first | done | rfl | (simp only [List.length_drop, List.length_take]; rfl)) ?_
        with_reducible refine (HC3.out _ (Below.refl _ _)).mono ?_
        rintro e w4 ⟨rfl, h4⟩
        have HB4 := Aside0.mk (below_step HB3.out h4)
        clear h4
        refine ⟨_, rfl, ?_⟩
        refine hK.out _ _ (pw_cell_below HB4.out HG2.out) (fun hHeld => ?_)
        clear hK K
        refine norm_ (a' := ?_) ?_ ?_
        rotate_left
        · show Act.put _ (some 14) _ = _
          simp only [Act.put, List.setIfInBounds_toArray, List.set_cons_zero, List.set_cons_succ, i64_w, i32_w]
          rfl
        refine pure_ (i := 7) (N := some 7) (v := ?_) (a' := ?_) #[true, true, true, true, true, true, true, true, false, false, false, false, false] rfl rfl (any_of HT_.out (by kernel_rfl)) (fun _ _ _ h => h) (Or.inl ⟨by rfl, ?_⟩) ?_ ?_
        rotate_left
        · intro w'
          go_simp
          with_reducible rfl
        rotate_left
        · simp only [Act.put, List.setIfInBounds_toArray, List.set_cons_zero, List.set_cons_succ, i64_w, i32_w]
          rfl
        refine pure_ (i := 8) (N := some 15) (v := ?_) (a' := ?_) #[true, true, true, true, true, true, true, true, true, false, false, false, false] rfl rfl (any_of HT_.out (by kernel_rfl)) (fun _ _ _ h => h) (Or.inl ⟨by rfl, ?_⟩) ?_ ?_
        rotate_left
        · intro w'
          go_simp
          with_reducible rfl
        rotate_left
        · simp only [Act.put, List.setIfInBounds_toArray, List.set_cons_zero, List.set_cons_succ, i64_w, i32_w]
          rfl
        refine pure_ (i := 9) (N := some 16) (v := ?_) (a' := ?_) #[true, true, true, true, true, true, true, true, true, true, false, false, false] rfl rfl (any_of HT_.out (by kernel_rfl)) (fun _ _ _ h => h) (Or.inl ⟨by rfl, ?_⟩) ?_ ?_
        rotate_left
        · intro w'
          go_simp
          with_reducible rfl
        rotate_left
        · simp only [Act.put, List.setIfInBounds_toArray, List.set_cons_zero, List.set_cons_succ, i64_w, i32_w]
          rfl
        refine one_ (i := 10) (N := some 5) #[true, true, true, true, true, true, true, true, true, true, true, false, false] rfl rfl (one_of HT_.out (by kernel_rfl)) (by decide) (fun K hK => ?_)
        refine box_step ?hg (N := 5) ?hd (cs := #[.int .i64 0, .int .i64 0, .int .i64 0, .int .i64 0]) (t := 36) ?hr ?_; (case hd => rfl); (case hg => rfl); (case hr => first | (go_simp; done) | (go_simp; rfl))
        intro gv hgv w5 hbox hb
        have HB5 := Aside0.mk (below_step HB4.out hb)
        have HGV : Aside0 (w2.heap.size ≤ gv) := ⟨by rw [hgv]; exact HB4.out.size⟩
        have BV := Aside0.mk hbox
        have KV := Aside0.mk hb
        clear hbox hb hgv
        refine hK.out _ _ (pw_cell_below HB5.out HG2.out) (fun hHeld => ?_)
        clear hK K
        refine norm_ (a' := ?_) ?_ ?_
        rotate_left
        · show Act.put _ (some 5) _ = _
          simp only [Act.put, List.setIfInBounds_toArray, List.set_cons_zero, List.set_cons_succ, i64_w, i32_w]
          rfl
        exact norm_ (by simp only [putAll, Act.put, List.setIfInBounds_toArray, List.set_cons_zero, List.set_cons_succ]) (hCont (gv, .slice A3 P.length c3) _ ⟨hHeld, BV.out, HGV.out, HB5.out⟩)
      · skip
        refine box_step ?hg (N := 5) ?hd (cs := #[.int .i64 0, .int .i64 0, .int .i64 0, .int .i64 0]) (t := 36) ?hr ?_; (case hd => rfl); (case hg => rfl); (case hr => first | (go_simp; done) | (go_simp; rfl))
        intro gv hgv w5 hbox hb
        have HB5 := Aside0.mk (below_step HB3.out hb)
        have HGV : Aside0 (w2.heap.size ≤ gv) := ⟨by rw [hgv]; exact HB3.out.size⟩
        have BV := Aside0.mk hbox
        have KV := Aside0.mk hb
        clear hbox hb hgv
        refine hK.out _ _ (pw_cell_below HB5.out HG2.out) (fun hHeld => ?_)
        clear hK K
        refine norm_ (a' := ?_) ?_ ?_
        rotate_left
        · show Act.put _ (some 5) _ = _
          simp only [Act.put, List.setIfInBounds_toArray, List.set_cons_zero, List.set_cons_succ, i64_w, i32_w]
          rfl
        refine one_ (i := 6) (N := some 14) #[true, true, true, true, true, true, true, false, false, false, true, false, false] rfl rfl (one_of HT_.out (by kernel_rfl)) (by decide) (fun K hK => ?_)
        refine goes_ Tryd.func56 (by kernel_rfl) rfl #[.int .i64 id, .slice A3 P.length c3] (by rfl) rfl rfl (by (try simp only [List.map_toArray, List.map_cons, List.map_nil]); first | done | rfl | (simp only [List.length_drop, List.length_take]; rfl)) ?_
        with_reducible refine (HC3.out _ KV.out).mono ?_
        rintro e w4 ⟨rfl, h4⟩
        have HB4 := Aside0.mk (below_step HB5.out h4)
        have BV4 := Aside0.mk (blk_below BV.out h4)
        clear h4
        refine ⟨_, rfl, ?_⟩
        refine hK.out _ _ (pw_cell_below HB4.out HG2.out) (fun hHeld => ?_)
        clear hK K
        refine norm_ (a' := ?_) ?_ ?_
        rotate_left
        · show Act.put _ (some 14) _ = _
          simp only [Act.put, List.setIfInBounds_toArray, List.set_cons_zero, List.set_cons_succ, i64_w, i32_w]
          rfl
        refine pure_ (i := 7) (N := some 7) (v := ?_) (a' := ?_) #[true, true, true, true, true, true, true, true, false, false, true, false, false] rfl rfl (any_of HT_.out (by kernel_rfl)) (fun _ _ _ h => h) (Or.inl ⟨by rfl, ?_⟩) ?_ ?_
        rotate_left
        · intro w'
          go_simp
          with_reducible rfl
        rotate_left
        · simp only [Act.put, List.setIfInBounds_toArray, List.set_cons_zero, List.set_cons_succ, i64_w, i32_w]
          rfl
        refine pure_ (i := 8) (N := some 15) (v := ?_) (a' := ?_) #[true, true, true, true, true, true, true, true, true, false, true, false, false] rfl rfl (any_of HT_.out (by kernel_rfl)) (fun _ _ _ h => h) (Or.inl ⟨by rfl, ?_⟩) ?_ ?_
        rotate_left
        · intro w'
          go_simp
          with_reducible rfl
        rotate_left
        · simp only [Act.put, List.setIfInBounds_toArray, List.set_cons_zero, List.set_cons_succ, i64_w, i32_w]
          rfl
        refine pure_ (i := 9) (N := some 16) (v := ?_) (a' := ?_) #[true, true, true, true, true, true, true, true, true, true, true, false, false] rfl rfl (any_of HT_.out (by kernel_rfl)) (fun _ _ _ h => h) (Or.inl ⟨by rfl, ?_⟩) ?_ ?_
        rotate_left
        · intro w'
          go_simp
          with_reducible rfl
        rotate_left
        · simp only [Act.put, List.setIfInBounds_toArray, List.set_cons_zero, List.set_cons_succ, i64_w, i32_w]
          rfl
        exact norm_ (by simp only [putAll, Act.put, List.setIfInBounds_toArray, List.set_cons_zero, List.set_cons_succ]) (hCont (gv, .slice A3 P.length c3) _ ⟨hHeld, BV4.out, HGV.out, HB4.out⟩)
    · skip
      refine box_step ?hg (N := 5) ?hd (cs := #[.int .i64 0, .int .i64 0, .int .i64 0, .int .i64 0]) (t := 36) ?hr ?_; (case hd => rfl); (case hg => rfl); (case hr => first | (go_simp; done) | (go_simp; rfl))
      intro gv hgv w5 hbox hb
      have HB5 := Aside0.mk (below_step HB2.out hb)
      have HGV : Aside0 (w2.heap.size ≤ gv) := ⟨by rw [hgv]; exact HB2.out.size⟩
      have BV := Aside0.mk hbox
      have KV := Aside0.mk hb
      clear hbox hb hgv
      refine hK.out _ _ (pw_cell_below HB5.out HG2.out) (fun hHeld => ?_)
      clear hK K
      refine norm_ (a' := ?_) ?_ ?_
      rotate_left
      · show Act.put _ (some 5) _ = _
        simp only [Act.put, List.setIfInBounds_toArray, List.set_cons_zero, List.set_cons_succ, i64_w, i32_w]
        rfl
      clear HB2
      have HB2 := HB5
      refine one_ (i := 5) (N := some 13) #[true, true, true, true, true, true, false, false, false, false, true, false, false] rfl rfl (one_of HT_.out (by kernel_rfl)) (by decide) (fun K hK => ?_)
      refine goes_ Tryd.func52 (by kernel_rfl) rfl #[.pointer (some ⟨g, 0, none⟩)] (by rfl) rfl rfl (by (try simp only [List.map_toArray, List.map_cons, List.map_nil]); first | done | rfl | (simp only [List.length_drop, List.length_take]; rfl)) ?_
      with_reducible refine (HLS.out _ (below_step KX.out HB2.out)).mono ?_
      rintro e w3 ⟨v3, rfl, hr3, h3⟩
      obtain ⟨A3, c3, rfl, hC3⟩ := HBS.out w3 v3 (lower59 hr3 (Nat.le_trans KX.out.size HB2.out.size))
      have HC3 := Aside0.mk hC3
      have HB3 := Aside0.mk (below_step HB2.out h3)
      have BV3 := Aside0.mk (blk_below BV.out h3)
      clear hr3 h3 hC3
      refine ⟨_, rfl, ?_⟩
      refine hK.out _ _ (pw_cell_below HB3.out HG2.out) (fun hHeld => ?_)
      clear hK K
      refine norm_ (a' := ?_) ?_ ?_
      rotate_left
      · show Act.put _ (some 13) _ = _
        simp only [Act.put, List.setIfInBounds_toArray, List.set_cons_zero, List.set_cons_succ, i64_w, i32_w]
        rfl
      refine one_ (i := 6) (N := some 14) #[true, true, true, true, true, true, true, false, false, false, true, false, false] rfl rfl (one_of HT_.out (by kernel_rfl)) (by decide) (fun K hK => ?_)
      refine goes_ Tryd.func56 (by kernel_rfl) rfl #[.int .i64 id, .slice A3 P.length c3] (by rfl) rfl rfl (by (try simp only [List.map_toArray, List.map_cons, List.map_nil]); first | done | rfl | (simp only [List.length_drop, List.length_take]; rfl)) ?_
      with_reducible refine (HC3.out _ (Below.refl _ _)).mono ?_
      rintro e w4 ⟨rfl, h4⟩
      have HB4 := Aside0.mk (below_step HB3.out h4)
      have BV4 := Aside0.mk (blk_below BV3.out h4)
      clear h4
      refine ⟨_, rfl, ?_⟩
      refine hK.out _ _ (pw_cell_below HB4.out HG2.out) (fun hHeld => ?_)
      clear hK K
      refine norm_ (a' := ?_) ?_ ?_
      rotate_left
      · show Act.put _ (some 14) _ = _
        simp only [Act.put, List.setIfInBounds_toArray, List.set_cons_zero, List.set_cons_succ, i64_w, i32_w]
        rfl
      refine pure_ (i := 7) (N := some 7) (v := ?_) (a' := ?_) #[true, true, true, true, true, true, true, true, false, false, true, false, false] rfl rfl (any_of HT_.out (by kernel_rfl)) (fun _ _ _ h => h) (Or.inl ⟨by rfl, ?_⟩) ?_ ?_
      rotate_left
      · intro w'
        go_simp
        with_reducible rfl
      rotate_left
      · simp only [Act.put, List.setIfInBounds_toArray, List.set_cons_zero, List.set_cons_succ, i64_w, i32_w]
        rfl
      refine pure_ (i := 8) (N := some 15) (v := ?_) (a' := ?_) #[true, true, true, true, true, true, true, true, true, false, true, false, false] rfl rfl (any_of HT_.out (by kernel_rfl)) (fun _ _ _ h => h) (Or.inl ⟨by rfl, ?_⟩) ?_ ?_
      rotate_left
      · intro w'
        go_simp
        with_reducible rfl
      rotate_left
      · simp only [Act.put, List.setIfInBounds_toArray, List.set_cons_zero, List.set_cons_succ, i64_w, i32_w]
        rfl
      refine pure_ (i := 9) (N := some 16) (v := ?_) (a' := ?_) #[true, true, true, true, true, true, true, true, true, true, true, false, false] rfl rfl (any_of HT_.out (by kernel_rfl)) (fun _ _ _ h => h) (Or.inl ⟨by rfl, ?_⟩) ?_ ?_
      rotate_left
      · intro w'
        go_simp
        with_reducible rfl
      rotate_left
      · simp only [Act.put, List.setIfInBounds_toArray, List.set_cons_zero, List.set_cons_succ, i64_w, i32_w]
        rfl
      exact norm_ (by simp only [putAll, Act.put, List.setIfInBounds_toArray, List.set_cons_zero, List.set_cons_succ]) (hCont (gv, .slice A3 P.length c3) _ ⟨hHeld, BV4.out, HGV.out, HB4.out⟩)
  rintro ⟨gv, vl⟩ w6 ⟨hS_, h0_, h1_, h2_⟩
  have BV : Aside0 (w6.heap[gv]? = some (.cells #[.int .i64 0, .int .i64 0, .int .i64 0, .int .i64 0] 36 (0, 0))) := ⟨h0_⟩
  have HGV : Aside0 (w2.heap.size ≤ gv) := ⟨h1_⟩
  have HB6 : Aside0 (Below w2.heap.size w2 w6) := ⟨h2_⟩
  have hHeld : w6.cell? ⟨g, 0, none⟩ = some (.int .i64 id) := hS_
  clear h0_ h1_ h2_ hS_
  refine norm_ (a' := ?_) ?_ ?_
  rotate_left
  · simp only [putAll, Act.put, List.setIfInBounds_toArray, List.set_cons_zero, List.set_cons_succ]
    rfl
  refine one_ (i := 11) (N := none) #[true, true, true, true, true, true, true, true, true, true, true, true, false] rfl rfl (one_of HT_.out (by kernel_rfl)) (by decide) (fun K hK => ?_)
  have hs0 : w6.cell? ⟨gv, 0, none⟩ = some (.int .i64 0) := (blk_cell BV.out 0).trans rfl
  have hf0 : w6.frozen? ⟨gv, 0, none⟩ = false := blk_frozen BV.out 0
  have hs1 : w6.cell? ⟨gv, 1, none⟩ = some (.int .i64 0) := (blk_cell BV.out 1).trans rfl
  have hf1 : w6.frozen? ⟨gv, 1, none⟩ = false := blk_frozen BV.out 1
  have hs2 : w6.cell? ⟨gv, 2, none⟩ = some (.int .i64 0) := (blk_cell BV.out 2).trans rfl
  have hf2 : w6.frozen? ⟨gv, 2, none⟩ = false := blk_frozen BV.out 2
  have hs3 : w6.cell? ⟨gv, 3, none⟩ = some (.int .i64 0) := (blk_cell BV.out 3).trans rfl
  have hf3 : w6.frozen? ⟨gv, 3, none⟩ = false := blk_frozen BV.out 3
  have hgv : gv ≠ g := by have := HGV.out; omega
  have hgv2 : g ≠ gv := fun e => hgv e.symm
  refine skip_ (w1 := ?_) (by rfl) rfl ?_ ?_
  rotate_left
  · go_simp
    rfl
  have B_W : Aside0 (((((w6.setCell ⟨gv, 0, none⟩ (.int .i64 b0)).setCell ⟨gv, 1, none⟩ (.int .i64 b1)).setCell ⟨gv, 2, none⟩ (.int .i64 b2)).setCell ⟨gv, 3, none⟩ (.int .i64 b3)).heap[gv]? = some (.cells #[.int .i64 b0, .int .i64 b1, .int .i64 b2, .int .i64 b3] 36 (0, 0))) := ⟨by
    refine blk_put (cs := #[.int .i64 b0, .int .i64 b1, .int .i64 b2, .int .i64 0]) ?_ 3 _ rfl
    refine blk_put (cs := #[.int .i64 b0, .int .i64 b1, .int .i64 0, .int .i64 0]) ?_ 2 _ rfl
    refine blk_put (cs := #[.int .i64 b0, .int .i64 0, .int .i64 0, .int .i64 0]) ?_ 1 _ rfl
    exact blk_put BV.out 0 _ rfl⟩
  have HB7 : Aside0 (Below w2.heap.size w2 ((((w6.setCell ⟨gv, 0, none⟩ (.int .i64 b0)).setCell ⟨gv, 1, none⟩ (.int .i64 b1)).setCell ⟨gv, 2, none⟩ (.int .i64 b2)).setCell ⟨gv, 3, none⟩ (.int .i64 b3))) := ⟨below_set (below_set (below_set (below_set HB6.out HGV.out) HGV.out) HGV.out) HGV.out⟩
  clear hs0 hs1 hs2 hs3 hf0 hf1 hf2 hf3 hHeld
  refine hK.out _ _ ?_ (fun hHeld => ?_)
  · exact pw_cell_below HB7.out HG2.out
  clear hK K
  generalize (((w6.setCell ⟨gv, 0, none⟩ (.int .i64 b0)).setCell ⟨gv, 1, none⟩ (.int .i64 b1)).setCell ⟨gv, 2, none⟩ (.int .i64 b2)).setCell ⟨gv, 3, none⟩ (.int .i64 b3) = w7 at B_W HB7 hHeld ⊢
  refine pure_ (i := 12) (N := some 6) (v := ?_) (a' := ?_) #[true, true, true, true, true, true, true, true, true, true, true, true, true] rfl rfl (any_of HT_.out (by kernel_rfl)) (fun _ _ _ h => h) (Or.inl ⟨by rfl, ?_⟩) ?_ ?_
  rotate_left
  · intro w'
    go_simp
    with_reducible rfl
  rotate_left
  · simp only [Act.put, List.setIfInBounds_toArray, List.set_cons_zero, List.set_cons_succ, i64_w, i32_w]
    rfl
  refine done_ (done_of HT_.out (by kernel_rfl)) ?_
  have hx0 : w7.cell? ⟨gv, 0, none⟩ = some (.int .i64 b0) := (blk_cell B_W.out 0).trans rfl
  have hx1 : w7.cell? ⟨gv, 1, none⟩ = some (.int .i64 b1) := (blk_cell B_W.out 1).trans rfl
  have hx2 : w7.cell? ⟨gv, 2, none⟩ = some (.int .i64 b2) := (blk_cell B_W.out 2).trans rfl
  have hx3 : w7.cell? ⟨gv, 3, none⟩ = some (.int .i64 b3) := (blk_cell B_W.out 3).trans rfl
  have BY := Aside0.mk (blk_below BX.out HB7.out)
  have hy0 : w7.cell? ⟨gb, 0, none⟩ = some (.int .i64 0) := (blk_cell BY.out 0).trans rfl
  have hy1 : w7.cell? ⟨gb, 1, none⟩ = some (.int .i64 0) := (blk_cell BY.out 1).trans rfl
  have hy2 : w7.cell? ⟨gb, 2, none⟩ = some (.int .i64 0) := (blk_cell BY.out 2).trans rfl
  have hy3 : w7.cell? ⟨gb, 3, none⟩ = some (.int .i64 0) := (blk_cell BY.out 3).trans rfl
  have hf0 : w7.frozen? ⟨gb, 0, none⟩ = false := blk_frozen BY.out 0
  have hf1 : w7.frozen? ⟨gb, 1, none⟩ = false := blk_frozen BY.out 1
  have hf2 : w7.frozen? ⟨gb, 2, none⟩ = false := blk_frozen BY.out 2
  have hf3 : w7.frozen? ⟨gb, 3, none⟩ = false := blk_frozen BY.out 3
  have hgn : gb ≠ gv := by have := HGV.out; omega
  have hgn2 : gv ≠ gb := fun e => hgn e.symm
  have HGE : Aside0 (gb = w.heap.size) := ⟨HGB.out⟩
  have HBB := Aside0.mk (below_step KX.out HB7.out)
  have HFIN := Aside0.mk (fun (W : World) (hb : Below w7.heap.size w7 W) => below_set (j := 3) (v := .int .i64 b3) (below_set (j := 2) (v := .int .i64 b2) (below_set (j := 1) (v := .int .i64 b1) (below_set (j := 0) (v := .int .i64 b0) (below_step HBB.out hb) (Nat.le_of_eq HGE.out.symm)) (Nat.le_of_eq HGE.out.symm)) (Nat.le_of_eq HGE.out.symm)) (Nat.le_of_eq HGE.out.symm))
  have HRES := Aside0.mk (fun (W : World) (hb : Below w7.heap.size w7 W) => (by
    refine blk_put (cs := #[.int .i64 b0, .int .i64 b1, .int .i64 b2, .int .i64 0]) ?_ 3 _ rfl
    refine blk_put (cs := #[.int .i64 b0, .int .i64 b1, .int .i64 0, .int .i64 0]) ?_ 2 _ rfl
    refine blk_put (cs := #[.int .i64 b0, .int .i64 0, .int .i64 0, .int .i64 0]) ?_ 1 _ rfl
    exact blk_put (blk_below BY.out hb) 0 _ rfl : ((((W.setCell ⟨gb, 0, none⟩ (.int .i64 b0)).setCell ⟨gb, 1, none⟩ (.int .i64 b1)).setCell ⟨gb, 2, none⟩ (.int .i64 b2)).setCell ⟨gb, 3, none⟩ (.int .i64 b3)).heap[gb]? = some (.cells #[.int .i64 b0, .int .i64 b1, .int .i64 b2, .int .i64 b3] 36 (0, 0))))
  by_cases hbr : br < 0
  · have HAG := Aside0.mk (show ageQ P br = 0 from if_pos hbr)
    go_wp2_with fail
    (try simp only [Exit.inBlock, Exit.then])
    refine bodyPost_ret (results_ctt rfl _ _ gb 36 #[.int .i64 b0, .int .i64 b1, .int .i64 b2, .int .i64 b3] (0, 0) _ rfl (HRES.out _ (by repeat (with_reducible first | exact Below.refl _ _ | apply below_alloc | apply pw_below_drewN | apply below_drew1))) Tryd.underlying36 rfl (by kernel_rfl)) rfl ?_
    exact ⟨by rw [HAG.out]; rfl, HFIN.out _ (by repeat (with_reducible first | exact Below.refl _ _ | apply below_alloc | apply pw_below_drewN | apply below_drew1))⟩
  · obtain ⟨k, rfl⟩ := Int.eq_ofNat_of_zero_le (show 0 ≤ br by omega)
    have hkl : k < P.length := by omega
    have hkz : (k : Int) < (P.length : Int) := hat
    have ht7 := HT.out.below HBB.out
    have hg1 : w7.cell? ⟨g, 1, none⟩ = some (.slice (some ⟨b, 0, none⟩) P.length cap) := (blk_cell ht7.cell 1).trans rfl
    obtain ⟨_, _, _, _, _, _, hz6, _, _, _, _⟩ := rcells ht7.row k hkl
    have HAG := Aside0.mk (show ageQ P (k : Int) = wrap64 (P[k].q.heard.f1 + 1) by
      unfold ageQ
      rw [if_neg (by omega), Int.toNat_natCast, List.getD_eq_getElem?_getD, List.getElem?_eq_getElem hkl]
      simp only [Option.getD_some, i64_w])
    have hgl0 := blk_lt HT.out.cell
    have hgg : gb ≠ g := by have := HGE.out; omega
    have hgbb : gb ≠ b := by have := HT.out.row.lt; have := HGE.out; omega
    have hgg2 : g ≠ gb := fun e => hgg e.symm
    have hgbb2 : b ≠ gb := fun e => hgbb e.symm
    generalize P[k].q.heard.f1 = a at hz6 HAG
    clear ht7 hbr
    go_upto_region 4 with fail
    refine start_ (n := 15) (S := fun w' => w'.cell? ⟨gv, 0, none⟩ = some (.int .i64 b0) ∧ w'.cell? ⟨gv, 1, none⟩ = some (.int .i64 b1) ∧ w'.cell? ⟨gv, 2, none⟩ = some (.int .i64 b2) ∧ w'.cell? ⟨gv, 3, none⟩ = some (.int .i64 b3) ∧ w'.cell? ⟨g, 1, none⟩ = some (.slice (some ⟨b, 0, none⟩) P.length cap) ∧ w'.cell? ⟨b, k * 11 + 2 + 4, none⟩ = some (.int .i64 a)) (ds := []) #[false, false, false, false, false, false, false, false, false, false, false, false, false, false, false] mixed rfl rfl ⟨hx0, hx1, hx2, hx3, hg1, hz6⟩ (fun hHeld => ?_)
    refine with_tabW rb4Tab rb4Bits (fun HT_ HW_ => ?_)
    obtain ⟨hx0, hx1, hx2, hx3, hg1, hz6⟩ := hHeld
    have hHeld : w7.drew.cell? ⟨gv, 0, none⟩ = some (.int .i64 b0) ∧ w7.drew.cell? ⟨gv, 1, none⟩ = some (.int .i64 b1) ∧ w7.drew.cell? ⟨gv, 2, none⟩ = some (.int .i64 b2) ∧ w7.drew.cell? ⟨gv, 3, none⟩ = some (.int .i64 b3) ∧ w7.drew.cell? ⟨g, 1, none⟩ = some (.slice (some ⟨b, 0, none⟩) P.length cap) ∧ w7.drew.cell? ⟨b, k * 11 + 2 + 4, none⟩ = some (.int .i64 a) := ⟨hx0, hx1, hx2, hx3, hg1, hz6⟩
    have hy0 : w7.drew.cell? ⟨gb, 0, none⟩ = some (.int .i64 0) := hy0
    have hy1 : w7.drew.cell? ⟨gb, 1, none⟩ = some (.int .i64 0) := hy1
    have hy2 : w7.drew.cell? ⟨gb, 2, none⟩ = some (.int .i64 0) := hy2
    have hy3 : w7.drew.cell? ⟨gb, 3, none⟩ = some (.int .i64 0) := hy3
    have hf0 : w7.drew.frozen? ⟨gb, 0, none⟩ = false := hf0
    have hf1 : w7.drew.frozen? ⟨gb, 1, none⟩ = false := hf1
    have hf2 : w7.drew.frozen? ⟨gb, 2, none⟩ = false := hf2
    have hf3 : w7.drew.frozen? ⟨gb, 3, none⟩ = false := hf3
    have HB8 := Aside0.mk (below_drew1 (Below.refl w7.heap.size w7))
    generalize w7.drew = w8 at hx0 hx1 hx2 hx3 hg1 hz6 hHeld hy0 hy1 hy2 hy3 hf0 hf1 hf2 hf3 HB8 ⊢
    refine take_ (i := 0) (N := some 21) (v := ?_) (a' := ?_) #[true, false, false, false, false, false, false, false, false, false, false, false, false, false, false] rfl rfl (take_ofW HT_.out HW_.out (by kernel_rfl)) (fun _ _ _ h => h) (Or.inl ⟨by rfl, ?_⟩) hHeld ?_ ?_
    rotate_left
    · rintro w' ⟨s0, s1, s2, s3, s4, s5⟩
      go_simp
      with_reducible rfl
    rotate_left
    · simp only [Act.put, List.setIfInBounds_toArray, List.set_cons_zero, List.set_cons_succ, i64_w, i32_w]
      rfl
    refine pure_ (i := 1) (N := some 22) (v := ?_) (a' := ?_) #[true, true, false, false, false, false, false, false, false, false, false, false, false, false, false] rfl rfl (any_of HT_.out (by kernel_rfl)) (fun _ _ _ h => h) (Or.inl ⟨by rfl, ?_⟩) ?_ ?_
    rotate_left
    · intro w'
      go_simp
      with_reducible rfl
    rotate_left
    · simp only [Act.put, List.setIfInBounds_toArray, List.set_cons_zero, List.set_cons_succ, i64_w, i32_w]
      rfl
    refine pure_ (i := 2) (N := some 23) (v := ?_) (a' := ?_) #[true, true, true, false, false, false, false, false, false, false, false, false, false, false, false] rfl rfl (any_of HT_.out (by kernel_rfl)) (fun _ _ _ h => h) (Or.inl ⟨by rfl, ?_⟩) ?_ ?_
    rotate_left
    · intro w'
      go_simp
      with_reducible rfl
    rotate_left
    · simp only [Act.put, List.setIfInBounds_toArray, List.set_cons_zero, List.set_cons_succ, i64_w, i32_w]
      rfl
    refine pure_ (i := 3) (N := some 24) (v := ?_) (a' := ?_) #[true, true, true, true, false, false, false, false, false, false, false, false, false, false, false] rfl rfl (any_of HT_.out (by kernel_rfl)) (fun _ _ _ h => h) (Or.inl ⟨by rfl, ?_⟩) ?_ ?_
    rotate_left
    · intro w'
      go_simp
      with_reducible rfl
    rotate_left
    · simp only [Act.put, List.setIfInBounds_toArray, List.set_cons_zero, List.set_cons_succ, i64_w, i32_w]
      rfl
    refine pure_ (i := 4) (N := some 25) (v := ?_) (a' := ?_) #[true, true, true, true, true, false, false, false, false, false, false, false, false, false, false] rfl rfl (any_of HT_.out (by kernel_rfl)) (fun _ _ _ h => h) (Or.inl ⟨by rfl, ?_⟩) ?_ ?_
    rotate_left
    · intro w'
      go_simp
      with_reducible rfl
    rotate_left
    · simp only [Act.put, List.setIfInBounds_toArray, List.set_cons_zero, List.set_cons_succ, i64_w, i32_w]
      rfl
    refine take_ (i := 5) (N := some 26) (v := ?_) (a' := ?_) #[true, true, true, true, true, true, false, false, false, false, false, false, false, false, false] rfl rfl (take_ofW HT_.out HW_.out (by kernel_rfl)) (fun _ _ _ h => h) (Or.inl ⟨by rfl, ?_⟩) hHeld ?_ ?_
    rotate_left
    · rintro w' ⟨s0, s1, s2, s3, s4, s5⟩
      go_simp
      with_reducible rfl
    rotate_left
    · simp only [Act.put, List.setIfInBounds_toArray, List.set_cons_zero, List.set_cons_succ, i64_w, i32_w]
      rfl
    refine pure_ (i := 6) (N := some 27) (v := ?_) (a' := ?_) #[true, true, true, true, true, true, true, false, false, false, false, false, false, false, false] rfl rfl (any_of HT_.out (by kernel_rfl)) (fun _ _ _ h => h) (Or.inl ⟨by rfl, ?_⟩) ?_ ?_
    rotate_left
    · intro w'
      go_simp
      with_reducible rfl
    rotate_left
    · simp only [Act.put, List.setIfInBounds_toArray, List.set_cons_zero, List.set_cons_succ, i64_w, i32_w]
      rfl
    refine pure_ (i := 7) (N := some 28) (v := ?_) (a' := ?_) #[true, true, true, true, true, true, true, true, false, false, false, false, false, false, false] rfl rfl (any_of HT_.out (by kernel_rfl)) (fun _ _ _ h => h) (Or.inl ⟨by rfl, ?_⟩) ?_ ?_
    rotate_left
    · intro w'
      go_simp
      with_reducible rfl
    rotate_left
    · simp only [Act.put, List.setIfInBounds_toArray, List.set_cons_zero, List.set_cons_succ, i64_w, i32_w]
      rfl
    refine pure_ (i := 8) (N := some 29) (v := ?_) (a' := ?_) #[true, true, true, true, true, true, true, true, true, false, false, false, false, false, false] rfl rfl (any_of HT_.out (by kernel_rfl)) (fun _ _ _ h => h) (Or.inl ⟨by rfl, ?_⟩) ?_ ?_
    rotate_left
    · intro w'
      go_simp
      with_reducible rfl
    rotate_left
    · simp only [Act.put, List.setIfInBounds_toArray, List.set_cons_zero, List.set_cons_succ, i64_w, i32_w]
      rfl
    refine pure_ (i := 9) (N := some 30) (v := ?_) (a' := ?_) #[true, true, true, true, true, true, true, true, true, true, false, false, false, false, false] rfl rfl (any_of HT_.out (by kernel_rfl)) (fun _ _ _ h => h) (Or.inl ⟨by rfl, ?_⟩) ?_ ?_
    rotate_left
    · intro w'
      go_simp
      with_reducible rfl
    rotate_left
    · simp only [Act.put, List.setIfInBounds_toArray, List.set_cons_zero, List.set_cons_succ, i64_w, i32_w]
      rfl
    refine take_ (i := 10) (N := some 31) (v := ?_) (a' := ?_) #[true, true, true, true, true, true, true, true, true, true, true, false, false, false, false] rfl rfl (take_ofW HT_.out HW_.out (by kernel_rfl)) (fun _ _ _ h => h) (Or.inl ⟨by rfl, ?_⟩) hHeld ?_ ?_
    rotate_left
    · rintro w' ⟨s0, s1, s2, s3, s4, s5⟩
      go_simp
      with_reducible rfl
    rotate_left
    · simp only [Act.put, List.setIfInBounds_toArray, List.set_cons_zero, List.set_cons_succ, i64_w, i32_w]
      rfl
    refine pure_ (i := 11) (N := some 32) (v := ?_) (a' := ?_) #[true, true, true, true, true, true, true, true, true, true, true, true, false, false, false] rfl rfl (any_of HT_.out (by kernel_rfl)) (fun _ _ _ h => h) (Or.inl ⟨by rfl, ?_⟩) ?_ ?_
    rotate_left
    · intro w'
      go_simp
      with_reducible rfl
    rotate_left
    · simp only [Act.put, List.setIfInBounds_toArray, List.set_cons_zero, List.set_cons_succ, i64_w, i32_w]
      rfl
    refine one_ (i := 12) (N := none) #[true, true, true, true, true, true, true, true, true, true, true, true, true, false, false] rfl rfl (one_of HT_.out (by kernel_rfl)) (by decide) (fun K hK => ?_)
    refine skip_ (w1 := ?_) (by rfl) rfl ?_ ?_
    rotate_left
    · go_simp
      rfl
    refine hK.out _ _ ⟨cellFar (cellFar (cellFar (cellFar hx0 hgn2) hgn2) hgn2) hgn2, cellFar (cellFar (cellFar (cellFar hx1 hgn2) hgn2) hgn2) hgn2, cellFar (cellFar (cellFar (cellFar hx2 hgn2) hgn2) hgn2) hgn2, cellFar (cellFar (cellFar (cellFar hx3 hgn2) hgn2) hgn2) hgn2, cellFar (cellFar (cellFar (cellFar hg1 hgg2) hgg2) hgg2) hgg2, cellFar (cellFar (cellFar (cellFar hz6 hgbb2) hgbb2) hgbb2) hgbb2⟩ (fun hHeld => ?_)
    clear hK K
    refine pure_ (i := 13) (N := some 3) (v := ?_) (a' := ?_) #[true, true, true, true, true, true, true, true, true, true, true, true, true, true, false] rfl rfl (any_of HT_.out (by kernel_rfl)) (fun _ _ _ h => h) (Or.inl ⟨by rfl, ?_⟩) ?_ ?_
    rotate_left
    · intro w'
      go_simp
      with_reducible rfl
    rotate_left
    · simp only [Act.put, List.setIfInBounds_toArray, List.set_cons_zero, List.set_cons_succ, i64_w, i32_w]
      rfl
    refine pure_ (i := 14) (N := some 4) (v := ?_) (a' := ?_) #[true, true, true, true, true, true, true, true, true, true, true, true, true, true, true] rfl rfl (any_of HT_.out (by kernel_rfl)) (fun _ _ _ h => h) (Or.inl ⟨by rfl, ?_⟩) ?_ ?_
    rotate_left
    · intro w'
      go_simp
      with_reducible rfl
    rotate_left
    · simp only [Act.put, List.setIfInBounds_toArray, List.set_cons_zero, List.set_cons_succ, i64_w, i32_w]
      rfl
    refine done_ (done_of HT_.out (by kernel_rfl)) ?_
    go_wp2_with fail
    (try simp only [Exit.inBlock, Exit.then])
    refine bodyPost_ret (results_ctt rfl _ _ gb 36 #[.int .i64 b0, .int .i64 b1, .int .i64 b2, .int .i64 b3] (0, 0) _ rfl (HRES.out _ HB8.out) Tryd.underlying36 rfl (by kernel_rfl)) rfl ?_
    exact ⟨by rw [HAG.out]; rfl, HFIN.out _ HB8.out⟩
end Go.Proofs.YtfimhaodgekkgaaDoor.QTre
namespace Go.Proofs.YtfimhaodgekkgaaDoor.QTre
open Go.RowKit Go.Proofs.YtfimhaodgekkgaaDoorW.PrintWords Go.Proofs.YtfimhaodgekkgaaDoorW.PrintLast Go.Proofs.YtfimhaodgekkgaaDoorW.PrintMore
open Go.Proofs.YtfimhaodgekkgaaDoor.Gen (Own Trn)
open Go.Proofs.YtfimhaodgekkgaaDoor.Pri (FitH roles bestOf role brid conv)
set_option linter.unusedVariables false
set_option linter.unusedSimpArgs false
def fgtQ (now : Int) (x : RQ) : RQ := if 14 < wrap64 (now - x.at_) then ⟨x.up, x.cost, none80, x.at_, x.turns⟩ else x
def fgtR (now : Int) (x : RP) : RP := ⟨fgtQ now x.q, x.v⟩
abbrev tkQ1 (now : Int) (Q : List RQ) : List RQ := Q.map (fgtQ now)
abbrev tkQ (id now : Int) (Q : List RQ) : List RQ := updQ id now ((tkQ1 now Q).map heardQ) (tkQ1 now Q) Q.length
abbrev opnQ (now : Int) (x : RQ) : Bool := stT (lastTn x.turns) now == 2
def chgF (now change : Int) (S O : List Bool) : Nat → Int
  | 0 => change
  | j + 1 => if S.getD j false != O.getD j false then now + 4 else chgF now change S O j
def rsayF (v : S36) (id age : Int) (c : Bool) : Nat → List RQ → List S47
  | _, [] => []
  | j, x :: t => if (lastTn x.turns).1 = 2 then sayOf v id age c j :: rsayF v id age c (j + 1) t else rsayF v id age c (j + 1) t
theorem rsayF_append (v : S36) (id age : Int) (c : Bool) (b : List RQ) : ∀ (a : List RQ) (j : Nat), rsayF v id age c j (a ++ b) = rsayF v id age c j a ++ rsayF v id age c (j + a.length) b
  | [], j => by simp [rsayF]
  | x :: t, j => by
    have := rsayF_append v id age c b t (j + 1)
    rw [List.cons_append]
    simp only [rsayF]
    rw [this, show j + 1 + t.length = j + (x :: t).length by rw [List.length_cons]; omega]
    split
    · rw [List.cons_append]
    · rfl
theorem rsayF_step (v : S36) (id age : Int) (c : Bool) (Q : List RQ) (j : Nat) (hj : j < Q.length) : rsayF v id age c 0 (Q.take (j + 1)) = rsayF v id age c 0 (Q.take j) ++ (if (lastTn Q[j].turns).1 = 2 then [sayOf v id age c j] else []) := by
  rw [List.take_succ_eq_append_getElem hj, rsayF_append, List.length_take, Nat.zero_add, Nat.min_eq_left (Nat.le_of_lt hj)]
  rfl
theorem rsayF_len (v : S36) (id age : Int) (c : Bool) : ∀ (Q : List RQ) (j : Nat), (rsayF v id age c j Q).length ≤ Q.length
  | [], j => Nat.le_refl _
  | x :: t, j => by
    have := rsayF_len v id age c t (j + 1)
    simp only [rsayF]
    split
    · rw [List.length_cons, List.length_cons]; omega
    · rw [List.length_cons]; omega
def mixB (S O : List Bool) (j : Nat) : List Bool := S.take j ++ O.drop j
theorem mixB_len (S O : List Bool) (j : Nat) (h : S.length = O.length) (hj : j ≤ O.length) : (mixB S O j).length = O.length := by
  unfold mixB
  rw [List.length_append, List.length_take, List.length_drop]
  omega
theorem mixB_at (S O : List Bool) (j : Nat) (h : S.length = O.length) (hj : j < O.length) : (mixB S O j).getD j false = O.getD j false := by
  unfold mixB
  rw [List.getD_eq_getElem?_getD, List.getD_eq_getElem?_getD, List.getElem?_append_right (by rw [List.length_take]; omega), List.length_take, List.getElem?_drop, show j + (j - min j S.length) = j by omega]
theorem mixB_step (S O : List Bool) (j : Nat) (h : S.length = O.length) (hj : j < O.length) : (mixB S O j).set j (S.getD j false) = mixB S O (j + 1) := by
  have hS : j < S.length := by omega
  unfold mixB
  rw [List.set_append_right _ _ (by rw [List.length_take]; omega), List.length_take, show j - min j S.length = 0 by omega, List.drop_eq_getElem_cons hj, List.set_cons_zero, List.take_succ_eq_append_getElem hS, List.append_assoc, List.getD_eq_getElem?_getD, List.getElem?_eq_getElem hS]
  rfl
theorem RF_mono {g b ob : Nat} {P P2 : List RP} (hl : P2.length = P.length) (h : ∀ (k : Nat) (h : k < P2.length), P2[k].v = (P[k]'(by omega)).v) : ∀ q, RF g b ob P2 q → RF g b ob P q := by
  rintro q (e | e | e | ⟨k, hk, e⟩)
  · exact .inl e
  · exact .inr (.inl e)
  · exact .inr (.inr (.inl e))
  · exact .inr (.inr (.inr ⟨k, by omega, by rw [← h k hk]; exact e⟩))
theorem fgtQ_fit {x : RQ} {now : Int} (h : FitQ x) : FitQ (fgtQ now x) := by
  unfold fgtQ
  split
  · exact ⟨fit0, fit0, h.2.2⟩
  · exact h
theorem InvQ.fgt {n i : Nat} {Q : List RQ} (h : InvQ n i Q) (now : Int) : InvQ n i (tkQ1 now Q) := by
  refine ⟨by rw [List.length_map]; exact h.len, fun x hx => ?_, fun x hx => ?_⟩
  all_goals obtain ⟨y, hy, rfl⟩ := List.mem_map.1 hx
  · exact fgtQ_fit (h.fit y hy)
  · unfold fgtQ
    split
    · exact h.turns y hy
    · exact h.turns y hy
theorem InvQ.tick {n i : Nat} {Q : List RQ} (h : InvQ n i Q) (id now : Int) : InvQ n (i + 1) (tkQ id now Q) := by
  have := (h.fgt now).upd id now ((tkQ1 now Q).map heardQ)
  rw [List.length_map] at this
  exact this
def AtQ (now : Int) (Q : List RQ) : Prop := ∀ x ∈ Q, 0 ≤ (lastTn x.turns).2 ∧ (lastTn x.turns).2 ≤ now
theorem step_at {a : Int × Int} {t : S103} {now : Int} (h : 0 ≤ a.2 ∧ a.2 ≤ now) (ht : t.f1 = now) (h0 : 0 ≤ now) : 0 ≤ (stepT a t).2 ∧ (stepT a t).2 ≤ now := by
  unfold stepT
  split
  · exact h
  · show 0 ≤ t.f1 ∧ t.f1 ≤ now
    omega
theorem AtQ.upd {now : Int} {Q : List RQ} (h : AtQ now Q) (h0 : 0 ≤ now) (id : Int) (L : List S80) (j : Nat) : AtQ now (updQ id now L Q j) := by
  intro x hx
  obtain ⟨k, hk, rfl⟩ := List.mem_iff_getElem.1 hx
  rw [updQ_at]
  have hk2 : k < Q.length := by rw [updQ_len] at hk; exact hk
  have hq := h _ (List.getElem_mem hk2)
  split
  · show 0 ≤ (lastTn (Q[k].turns ++ [_])).2 ∧ _
    unfold turnQ
    dsimp only
    rw [lastTn_snoc]
    exact step_at hq rfl h0
  · exact hq
theorem AtQ.fgt {now : Int} {Q : List RQ} (h : AtQ now Q) (n2 : Int) : AtQ now (tkQ1 n2 Q) := by
  intro x hx
  obtain ⟨y, hy, rfl⟩ := List.mem_map.1 hx
  unfold fgtQ
  split
  · exact h y hy
  · exact h y hy
theorem AtQ.tick {now : Int} {Q : List RQ} (h : AtQ now Q) (h0 : 0 ≤ now) (id : Int) : AtQ now (tkQ id now Q) := (h.fgt now).upd h0 id _ _
end Go.Proofs.YtfimhaodgekkgaaDoor.QTre
namespace Go.Proofs.YtfimhaodgekkgaaDoor.QTre
open Go.RowKit Go.Proofs.YtfimhaodgekkgaaDoorW.PrintWords Go.Proofs.YtfimhaodgekkgaaDoorW.PrintLast Go.Proofs.YtfimhaodgekkgaaDoorW.PrintMore
open Go.Proofs.YtfimhaodgekkgaaDoor.Gen (Own Trn)
open Go.Proofs.YtfimhaodgekkgaaDoor.Pri (FitH roles bestOf role brid conv)
set_option linter.unusedVariables false
set_option linter.unusedSimpArgs false
def enc38 (x : S38) : List Value := [.int .i64 x.f0.f0, .int .i64 x.f0.f1, .int .i64 x.f0.f2, .int .i64 x.f0.f3, .int .i64 x.f1, .int .i64 x.f2, .bool x.f3]
theorem info38 : (Tryd.prog.info? 38).map (fun i => (i.zero, i.size, i.bytes)) = some (some (.agg #[(.int .i64 0), (.int .i64 0), (.int .i64 0), (.int .i64 0), (.int .i64 0), (.int .i64 0), (.bool false)]), 7, 56) := by kernel_rfl
theorem info3d : (Tryd.prog.info? 3).map (fun i => (i.zero, i.size, i.bytes)) = some (some (.int .i64 0), 1, 8) := by kernel_rfl
theorem C_one38 (x : S38) {w : World} {b : Nat} (h : w.heap[b]? = some (.cells (enc38 x).toArray 38 (0, 0))) : Kd.C k38 w (some ⟨b, 0, none⟩) 1 [x] := by
  have o : Own enc38 7 38 w b 1 [x] := ⟨⟨_, h, rfl, by simp [Gen.flat]; rfl⟩, Nat.le_refl _⟩
  have r := o.toR (d := k38) (base := 0) (ok := fun _ => True) (fun _ => rfl) rfl (fun w base ok x => k38_mkM w base ok x) (Nat.zero_le _) trivial (by decide)
  obtain ⟨A, c, e, _, hC⟩ := Gen.R_open r
  injection e with e1
  subst e1
  exact hC
theorem kept_grown {W W2 : World} {row : Option Nat} (h : W.grownBy W2 row) : Kept W W2 (fun q => row = some q) := ⟨h.size, fun k hk hn => h.block k hk (fun e => hn e.symm)⟩
def Apt2 (u v : Value) : Prop := ∀ q, u.ownBlock = some q → v.ownBlock ≠ some q
theorem apt_left {u v u2 : Value} {n : Nat} (h : Apt2 u v) (hat : u2.ownBlock = u.ownBlock ∨ ∃ b, u2.ownBlock = some b ∧ n ≤ b) (hlt : ∀ k, v.ownBlock = some k → k < n) : Apt2 u2 v := by
  intro q hq e
  rcases hat with h1 | ⟨b, h1, h2⟩
  · exact h q (by rw [← h1]; exact hq) e
  · rw [h1] at hq
    injection hq with hq
    have := hlt q e
    omega
theorem apt_right {u v v2 : Value} {n : Nat} (h : Apt2 u v) (hat : v2.ownBlock = v.ownBlock ∨ ∃ b, v2.ownBlock = some b ∧ n ≤ b) (hlt : ∀ k, u.ownBlock = some k → k < n) : Apt2 u v2 := by
  intro q hq e
  rcases hat with h1 | ⟨b, h1, h2⟩
  · exact h q hq (by rw [← h1]; exact e)
  · rw [h1] at e
    injection e with e
    have := hlt q hq
    omega
theorem RF_map {g b ob : Nat} (now : Int) (P : List RP) : ∀ q, RF g b ob (P.map (fgtR now)) q → RF g b ob P q := RF_mono (List.length_map _) (fun k h => by rw [List.getElem_map]; rfl)
theorem tk_of {P P2 : List RP} {id now : Int} (h : P2.map (·.q) = updQ id now (listQ (P.map (fgtR now))) ((P.map (fgtR now)).map (·.q)) (P.map (fgtR now)).length) : QS P2 = tkQ id now (QS P) := by
  have e1 : (P.map (fgtR now)).map (·.q) = tkQ1 now (QS P) := by unfold tkQ1 QS; rw [List.map_map, List.map_map]; rfl
  have e2 : listQ (P.map (fgtR now)) = (tkQ1 now (QS P)).map heardQ := by rw [← e1, listQ_QS]
  show P2.map (·.q) = updQ id now ((tkQ1 now (QS P)).map heardQ) (tkQ1 now (QS P)) (QS P).length
  rw [h, e2, e1, List.length_map, List.length_map]
theorem len_tk {P P2 : List RP} {id now : Int} (h : QS P2 = tkQ id now (QS P)) : P2.length = P.length := by
  have := congrArg List.length h
  rw [List.length_map, updQ_len, List.length_map, List.length_map] at this
  exact this
theorem fgtR_fit {P : List RP} {now : Int} (h : ∀ x ∈ P, FitQ x.q) : ∀ x ∈ P.map (fgtR now), FitQ x.q := by
  intro x hx
  obtain ⟨y, hy, rfl⟩ := List.mem_map.1 hx
  exact fgtQ_fit (h y hy)
theorem fgtR_turns {P : List RP} {now : Int} {m : Nat} (h : ∀ (k : Nat) (hk : k < P.length), P[k].q.turns.length ≤ m) : ∀ (k : Nat) (hk : k < (P.map (fgtR now)).length), (P.map (fgtR now))[k].q.turns.length ≤ m := by
  intro k hk
  rw [List.getElem_map]
  have hk2 : k < P.length := by rw [List.length_map] at hk; exact hk
  have := h k hk2
  show (fgtQ now P[k].q).turns.length ≤ m
  unfold fgtQ
  split <;> exact this
abbrev rtS (id now : Int) (Q : List RQ) : List Bool := (tkQ id now Q).map (opnQ now)
abbrev rtC (id now change : Int) (Q : List RQ) (opens : List Bool) : Int := chgF now change (rtS id now Q) opens Q.length
abbrev rtL (id now change : Int) (Q : List RQ) (opens : List Bool) (P2 : List RP) : List S47 :=
  if now % 2 = 0 then rsayF (bestOf id (listQ P2)).1 id (ageQ P2 (bestOf id (listQ P2)).2) (decide (now ≤ rtC id now change Q opens)) 0 (QS P2) else []
theorem mixB_zero (S O : List Bool) : mixB S O 0 = O := by simp [mixB]
theorem mixB_full (S O : List Bool) (h : S.length = O.length) : mixB S O O.length = S := by simp [mixB, ← h]
set_option maxHeartbeats 8000000 in
set_option maxRecDepth 100000 in
theorem rtick_calls (base g b cap ob ocap : Nat) (id : Int) (P : List RP) (change now : Int) (opens : List Bool) (w0 w : World) (hB : Below base w0 w) (hs : base ≤ w.heap.size) (ht : RTre w base g b cap ob ocap id P change opens) (hn : P.length ≤ 100) (hop : opens.length = P.length) (hf : ∀ x ∈ P, FitQ x.q) (hT : ∀ (k : Nat) (h : k < P.length), P[k].q.turns.length ≤ 999) (h0 : 0 ≤ now) (h1 : now ≤ 1000000000) (hat : AtQ now (QS P)) :
    Calls Tryd.prog 28 #[.pointer (some ⟨g, 0, none⟩), .int .i64 now] w fun e w' => ∃ (vp vs : Value), e = .returned (.tuple #[vp, vs]) ∧ ∃ P2 : List RP, Kd.R (Kd.int .i64) 3 w' w.heap.size (fun _ => True) vp ((rtL id now change (QS P) opens P2).map (·.f0)) ∧ Kd.R k38 38 w' w.heap.size (fun _ => True) vs ((rtL id now change (QS P) opens P2).map (·.f1)) ∧ RTre w' base g b cap ob ocap id P2 (rtC id now change (QS P) opens) (rtS id now (QS P)) ∧ QS P2 = tkQ id now (QS P) ∧ Trn base w0 w (RF g b ob P) (RF g b ob P2) w' := by
  have e42 : ∀ args w, (callFunc 42 args).run Tryd.prog w = .ok (.enter 42 args) w := enters_of Tryd.func42 (by kernel_rfl) rfl
  have e44 : ∀ args w, (callFunc 44 args).run Tryd.prog w = .ok (.enter 44 args) w := enters_of Tryd.func44 (by kernel_rfl) rfl
  have e45 : ∀ args w, (callFunc 45 args).run Tryd.prog w = .ok (.enter 45 args) w := enters_of Tryd.func45 (by kernel_rfl) rfl
  have e46 : ∀ args w, (callFunc 46 args).run Tryd.prog w = .ok (.enter 46 args) w := enters_of Tryd.func46 (by kernel_rfl) rfl
  have mixed : Tryd.prog.follows .mixedOrders = true := by kernel_rfl
  have hu57 := Tryd.underlying57
  have hu62 := Tryd.underlying62
  have hu59 := Tryd.underlying59
  have hu36 := Tryd.underlying36
  have hg1 : w.cell? ⟨g, 1, none⟩ = some (.slice (some ⟨b, 0, none⟩) P.length cap) := (blk_cell ht.cell 1).trans rfl
  have HT := Aside0.mk ht
  have HF := Aside0.mk hf
  have HTN := Aside0.mk hT
  have HW := Aside0.mk hB
  have HSZ := Aside0.mk hs
  have HOP := Aside0.mk hop
  have HAT := Aside0.mk hat
  clear ht hf hT hB hs hop hat
  go_enter Tryd.func28, Tryd.ntmps28
  go_wp2
  go_loopg [20] P.length (fun gk s20 wr => ∃ i : Nat, s20 = .int .i64 i ∧ i ≤ P.length ∧ P.length - i ≤ gk ∧ Aside0 (RTre wr base g b cap ob ocap id (preN (fgtR now) P i) change opens) ∧ Aside0 (Trn base w0 w (RF g b ob P) (RF g b ob P) wr))
  case atStart => exact ⟨0, rfl, Nat.zero_le _, by omega, ⟨by rw [preN_zero]; exact HT.out⟩, ⟨Trn.refl HW.out⟩⟩
  case round =>
    obtain ⟨i, rfl, hil, hgk, HL, HR⟩ := hrel
    by_cases hlt : i < P.length
    · have hlz : (i : Int) < (P.length : Int) := by omega
      have hpl : i < (preN (fgtR now) P i).length := by rw [preN_len]; exact hlt
      have hgr : wr.cell? ⟨g, 1, none⟩ = some (.slice (some ⟨b, 0, none⟩) P.length cap) := by
        have := HL.out.cell
        rw [preN_len] at this
        exact (blk_cell this 1).trans rfl
      obtain ⟨hx0, hx1, hx2, hx3, hx4, hx5, hx6, hx7, hx8, hx9, hx10⟩ := rcells HL.out.row i hpl
      have hz := HL.out.row.fz
      rw [preN_get _ _ _ hlt] at hx0 hx1 hx2 hx3 hx4 hx5 hx6 hx7 hx8 hx9 hx10
      have key : (14 < wrap64 (now - P[i].q.at_) ∧ fgtR now P[i] = ⟨⟨P[i].q.up, P[i].q.cost, none80, P[i].q.at_, P[i].q.turns⟩, P[i].v⟩) ∨ (¬ 14 < wrap64 (now - P[i].q.at_) ∧ fgtR now P[i] = P[i]) := by
        unfold fgtR fgtQ
        by_cases h : 14 < wrap64 (now - P[i].q.at_)
        · rw [if_pos h]; exact .inl ⟨h, rfl⟩
        · rw [if_neg h]; exact .inr ⟨h, rfl⟩
      rcases key with ⟨k, e⟩ | ⟨k, e⟩
      · have HE := Aside0.mk e
        clear e
        go_wp2
        go_roundg (P.length - (i + 1))
        case measure => omega
        case rel =>
          have ht2 := (HL.out.same i hpl).forget hpl
          rw [preN_get _ _ _ hlt, ← HE.out, preN_step _ _ _ hlt] at ht2
          exact ⟨i + 1, by go_num, by omega, Nat.le_refl _, ⟨ht2⟩, ⟨trn_rforget HR.out HSZ.out (.inr (.inl rfl)) HT.out.lowb i⟩⟩
      · have HE := Aside0.mk e
        clear e
        go_wp2
        go_roundg (P.length - (i + 1))
        case measure => omega
        case rel =>
          have ht2 := HL.out
          rw [preN_skip _ _ _ hlt HE.out] at ht2
          exact ⟨i + 1, by go_num, by omega, Nat.le_refl _, ⟨ht2⟩, HR⟩
    · have e : i = P.length := by omega
      subst e
      have ht1 := HL.out
      rw [preN_full] at ht1
      have HU := Aside0.mk (rupd_calls base g b cap ob ocap id (P.map (fgtR now)) change now opens w0 wr HR.out.bel (Nat.le_trans HSZ.out HR.out.size) ht1 (by rw [List.length_map]; exact hn) (fit_listQ (fgtR_fit HF.out)) (fgtR_turns (fun k hk => Nat.le_trans (HTN.out k hk) (by decide))))
      clear ht1 HL hgk
      go_wp2_with (go_at_fn 42; refine HU.out.mono ?_; rintro e w9 ⟨rfl, P2, h9, m9, t9⟩; have H9 := Aside0.mk h9; have T9 := Aside0.mk ((Trn.weak HR.out (RF_map now P)).trans t9); have HQ2 := Aside0.mk (tk_of m9); have hg9 : w9.cell? ⟨g, 1, none⟩ = some (.slice (some ⟨b, 0, none⟩) P2.length cap) := (blk_cell h9.cell 1).trans rfl; have HL2 := Aside0.mk (len_tk HQ2.out); rw [HL2.out] at hg9; clear h9 t9 m9)
      obtain ⟨S, HSE⟩ : ∃ S, Aside0 (S = rtS id now (QS P)) := ⟨_, ⟨rfl⟩⟩
      obtain ⟨C, HCE0⟩ : ∃ C, Aside0 (C = rtC id now change (QS P) opens) := ⟨_, ⟨rfl⟩⟩
      have HSL : Aside0 (S.length = opens.length) := ⟨by rw [HSE.out, List.length_map, updQ_len, List.length_map, List.length_map, HOP.out]⟩
      have HS2 : Aside0 ((QS P2).map (opnQ now) = S) := ⟨by rw [HQ2.out, HSE.out]⟩
      have HA2 := Aside0.mk (HAT.out.tick h0 id)
      rw [← HQ2.out] at HA2
      have HT2 : Aside0 (∀ (k : Nat) (h : k < P2.length), P2[k].q.turns.length ≤ 1000) := ⟨fun k hk => by
        have hi : InvQ P.length 999 (QS P) := ⟨List.length_map _, fun x hx => by obtain ⟨y, hy, rfl⟩ := List.mem_map.1 hx; exact HF.out y hy, fun x hx => by obtain ⟨y, hy, rfl⟩ := List.mem_map.1 hx; obtain ⟨j, hj, rfl⟩ := List.mem_iff_getElem.1 hy; exact HTN.out j hj⟩
        have := hi.tick id now
        rw [← HQ2.out] at this
        exact this.of.2.2 k hk⟩
      have HF2 : Aside0 (∀ x ∈ P2, FitQ x.q) := ⟨by
        have hi : InvQ P.length 999 (QS P) := ⟨List.length_map _, fun x hx => by obtain ⟨y, hy, rfl⟩ := List.mem_map.1 hx; exact HF.out y hy, fun x hx => by obtain ⟨y, hy, rfl⟩ := List.mem_map.1 hx; obtain ⟨j, hj, rfl⟩ := List.mem_iff_getElem.1 hy; exact HTN.out j hj⟩
        have := hi.tick id now
        rw [← HQ2.out] at this
        exact this.of.2.1⟩
      have HCE : Aside0 (chgF now change S opens P.length = C) := ⟨by rw [HCE0.out, HSE.out]; unfold rtC QS; rw [List.length_map]⟩
      clear HU
      go_loopg [51] P.length (fun gk s51 wr => ∃ j : Nat, s51 = .int .i64 j ∧ j ≤ P.length ∧ P.length - j ≤ gk ∧ Aside0 (RTre wr base g b cap ob ocap id P2 (chgF now change S opens j) (mixB S opens j)) ∧ Aside0 (Trn base w0 w (RF g b ob P) (RF g b ob P2) wr))
      case atStart => exact ⟨0, rfl, Nat.zero_le _, by omega, ⟨by rw [mixB_zero]; exact H9.out⟩, T9⟩
      case round =>
        clear hg9 H9 T9
        obtain ⟨j, rfl, hjl, hgk2, HL, HR2⟩ := hrel
        by_cases hlt2 : j < P.length
        · have hlz2 : (j : Int) < (P.length : Int) := by omega
          have hpl : j < P2.length := by rw [HL2.out]; exact hlt2
          have hjo : j < opens.length := by rw [HOP.out]; exact hlt2
          have hmo : (mixB S opens j).length = P.length := by rw [mixB_len _ _ _ HSL.out (by omega), HOP.out]
          obtain ⟨A3, c3, ev, hc3, hC3⟩ := Gen.R_open (HL.out.turns j hpl)
          have HST := Aside0.mk (fun (W : World) (hb : Below wr.heap.size wr W) => tstate_calls A3 c3 P2[j].q.turns.length P2[j].q.turns now W rfl (Kd.C_below hC3 hb) hc3 (Nat.le_trans (HT2.out j hpl) (by decide)) (HA2.out _ (List.mem_map.2 ⟨_, List.getElem_mem hpl, rfl⟩)).1 (HA2.out _ (List.mem_map.2 ⟨_, List.getElem_mem hpl, rfl⟩)).2 h1)
          have hgr : wr.cell? ⟨g, 1, none⟩ = some (.slice (some ⟨b, 0, none⟩) P.length cap) := by
            have := HL.out.cell
            rw [HL2.out] at this
            exact (blk_cell this 1).trans rfl
          obtain ⟨_, _, _, _, _, _, _, _, _, _, hx10⟩ := rcells HL.out.row j hpl
          rw [ev] at hx10
          have HSJ := Aside0.mk (show S.getD j false = (stT (lastTn P2[j].q.turns) now == 2) by
            rw [← HS2.out, List.getD_eq_getElem?_getD, List.getElem?_eq_getElem (by rw [List.length_map, List.length_map]; exact hpl)]
            simp [QS, opnQ])
          have HCJ := Aside0.mk (show chgF now change S opens (j + 1) = if S.getD j false != opens.getD j false then now + 4 else chgF now change S opens j from rfl)
          have HMS := Aside0.mk (mixB_step S opens j HSL.out hjo)
          have HB3 := Aside0.mk (fun (W : World) (hb : Below wr.heap.size wr W) => HL.out.below hb)
          have HRB := Aside0.mk (fun (W : World) (hb : Below wr.heap.size wr W) => HR2.out.trans (Trn.of_below HR2.out.bel (Nat.le_trans HSZ.out HR2.out.size) hb))
          have HOC := Aside0.mk (fun (W : World) (hb : Below wr.heap.size wr W) => (by
            have h := HL.out.below hb
            have h3 := h.cell
            rw [hmo] at h3
            have h4 := h.opn.at_ (fun _ => rfl) j 0 (by rw [hmo]; exact hlt2) (by decide)
            rw [Nat.mul_one, Nat.add_zero] at h4
            have h5 := mixB_at S opens j HSL.out hjo
            rw [List.getD_eq_getElem?_getD, List.getElem?_eq_getElem (by rw [hmo]; exact hlt2)] at h5
            have h6 : (mixB S opens j)[j]'(by rw [hmo]; exact hlt2) = opens.getD j false := h5
            refine ⟨(blk_cell h3 3).trans rfl, ?_, blk_frozen h.cell 2, h.opn.fz j, (blk_cell h.cell 2).trans rfl⟩
            rw [h4, h6]; rfl : W.cell? ⟨g, 3, none⟩ = some (.slice (some ⟨ob, 0, none⟩) P.length ocap) ∧ W.cell? ⟨ob, j, none⟩ = some (.bool (opens.getD j false)) ∧ W.frozen? ⟨g, 2, none⟩ = false ∧ W.frozen? ⟨ob, j, none⟩ = false ∧ W.cell? ⟨g, 2, none⟩ = some (.int .i64 (chgF now change S opens j))))
          have hgo : g ≠ ob := HT.out.ne2
          have hog : ob ≠ g := fun e => hgo e.symm
          rw [HSJ.out] at HCJ HMS
          generalize stT (lastTn P2[j].q.turns) now = sv at *
          generalize P2[j].q.turns.length = tl at *
          generalize opens.getD j false = ov at *
          clear hC3 hc3 ev HSJ
          rcases Bool.eq_false_or_eq_true (sv == 2) with hsv | hsv <;> cases ov
          · rw [hsv] at HCJ HMS
            rw [if_pos (by decide)] at HCJ
            go_wp2_with (go_at_fn 44; refine (HST.out _ (by repeat (with_reducible first | assumption | exact Below.refl _ _ | apply below_alloc | apply pw_below_drewN | apply below_drew1))).mono ?_; rintro e w10 ⟨rfl, h10⟩; have HB10 := Aside0.mk (HB3.out _ h10); have HR10 := Aside0.mk (HRB.out _ h10); obtain ⟨hy1, hy2, hy3, hy4, hy5⟩ := HOC.out _ h10; clear h10)
            go_roundg (P.length - (j + 1))
            case measure => omega
            case rel =>
              have ht2 := (HB10.out.chg (now + 4)).open_ j (by rw [hmo]; exact hlt2) true
              rw [HMS.out] at ht2
              exact ⟨j + 1, by go_num, by omega, Nat.le_refl _, ⟨by rw [HCJ.out]; exact ht2⟩, ⟨(HR10.out.set HSZ.out (.inl rfl) HT.out.low 2 _).set HSZ.out (.inr (.inr (.inl rfl))) HT.out.lowo j _⟩⟩
          · rw [hsv] at HCJ HMS
            simp only [bne_self_eq_false, Bool.false_eq_true, if_false] at HCJ
            go_wp2_with (go_at_fn 44; refine (HST.out _ (by repeat (with_reducible first | assumption | exact Below.refl _ _ | apply below_alloc | apply pw_below_drewN | apply below_drew1))).mono ?_; rintro e w10 ⟨rfl, h10⟩; have HB10 := Aside0.mk (HB3.out _ h10); have HR10 := Aside0.mk (HRB.out _ h10); obtain ⟨hy1, hy2, hy3, hy4, hy5⟩ := HOC.out _ h10; clear h10)
            go_roundg (P.length - (j + 1))
            case measure => omega
            case rel =>
              have ht2 := HB10.out.open_ j (by rw [hmo]; exact hlt2) true
              rw [HMS.out] at ht2
              exact ⟨j + 1, by go_num, by omega, Nat.le_refl _, ⟨by rw [HCJ.out]; exact ht2⟩, ⟨HR10.out.set HSZ.out (.inr (.inr (.inl rfl))) HT.out.lowo j _⟩⟩
          · rw [hsv] at HCJ HMS
            simp only [bne_self_eq_false, Bool.false_eq_true, if_false] at HCJ
            go_wp2_with (go_at_fn 44; refine (HST.out _ (by repeat (with_reducible first | assumption | exact Below.refl _ _ | apply below_alloc | apply pw_below_drewN | apply below_drew1))).mono ?_; rintro e w10 ⟨rfl, h10⟩; have HB10 := Aside0.mk (HB3.out _ h10); have HR10 := Aside0.mk (HRB.out _ h10); obtain ⟨hy1, hy2, hy3, hy4, hy5⟩ := HOC.out _ h10; clear h10)
            go_roundg (P.length - (j + 1))
            case measure => omega
            case rel =>
              have ht2 := HB10.out.open_ j (by rw [hmo]; exact hlt2) false
              rw [HMS.out] at ht2
              exact ⟨j + 1, by go_num, by omega, Nat.le_refl _, ⟨by rw [HCJ.out]; exact ht2⟩, ⟨HR10.out.set HSZ.out (.inr (.inr (.inl rfl))) HT.out.lowo j _⟩⟩
          · rw [hsv] at HCJ HMS
            rw [if_pos (by decide)] at HCJ
            go_wp2_with (go_at_fn 44; refine (HST.out _ (by repeat (with_reducible first | assumption | exact Below.refl _ _ | apply below_alloc | apply pw_below_drewN | apply below_drew1))).mono ?_; rintro e w10 ⟨rfl, h10⟩; have HB10 := Aside0.mk (HB3.out _ h10); have HR10 := Aside0.mk (HRB.out _ h10); obtain ⟨hy1, hy2, hy3, hy4, hy5⟩ := HOC.out _ h10; clear h10)
            go_roundg (P.length - (j + 1))
            case measure => omega
            case rel =>
              have ht2 := (HB10.out.chg (now + 4)).open_ j (by rw [hmo]; exact hlt2) false
              rw [HMS.out] at ht2
              exact ⟨j + 1, by go_num, by omega, Nat.le_refl _, ⟨by rw [HCJ.out]; exact ht2⟩, ⟨(HR10.out.set HSZ.out (.inl rfl) HT.out.low 2 _).set HSZ.out (.inr (.inr (.inl rfl))) HT.out.lowo j _⟩⟩
        · have e : j = P.length := by omega
          subst e
          have HT3 : Aside0 (RTre wr base g b cap ob ocap id P2 C S) := ⟨by
            have h3 := HL.out
            have e2 := mixB_full S opens HSL.out
            rw [HOP.out] at e2
            rw [HCE.out, e2] at h3
            exact h3⟩
          have HBE := Aside0.mk (rbest_calls base g b cap ob ocap id P2 C S wr HT3.out (by rw [HL2.out]; exact hn) HF2.out)
          clear HL
          obtain ⟨ag, HAG⟩ : ∃ ag, Aside0 (ag = ageQ P2 (bestOf id (listQ P2)).2) := ⟨_, ⟨rfl⟩⟩
          obtain ⟨B, HBQ⟩ : ∃ B, Aside0 (B = bestOf id (listQ P2)) := ⟨_, ⟨rfl⟩⟩
          rw [← HAG.out, ← HBQ.out] at HBE
          obtain ⟨⟨b0, b1, b2, b3⟩, br⟩ := B
          dsimp only at HBE
          go_upto_region 19 with (first
            | (go_at_fn 45; refine HBE.out.mono ?_; rintro e w11 ⟨rfl, h11⟩; have HB11 := Aside0.mk h11; clear h11)
            | (((with_reducible refine gate_dst (N := 11) rfl ?_); refine box_event ?hg (N := 11) ?hd (cs := #[.int .i64 0, .int .i64 0, .int .i64 0, .int .i64 0]) (t := 36) ?hr ?_; (case hd => rfl); (case hg => rfl); (case hr => first | (go_simp; done) | (go_simp; rfl)); intro vb hg w12 hbox hb; have hcz0 : w12.cell? ⟨vb, 0, none⟩ = some (.int .i64 0) := (blk_cell hbox 0).trans rfl; have hfz0 := blk_frozen hbox 0; have hcz1 : w12.cell? ⟨vb, 1, none⟩ = some (.int .i64 0) := (blk_cell hbox 1).trans rfl; have hfz1 := blk_frozen hbox 1; have hcz2 : w12.cell? ⟨vb, 2, none⟩ = some (.int .i64 0) := (blk_cell hbox 2).trans rfl; have hfz2 := blk_frozen hbox 2; have hcz3 : w12.cell? ⟨vb, 3, none⟩ = some (.int .i64 0) := (blk_cell hbox 3).trans rfl; have hfz3 := blk_frozen hbox 3; have BX := Aside0.mk hbox; have KX := Aside0.mk hb; have HGB := Aside0.mk hg; clear hbox hb hg)))
          have B14 : Below wr.heap.size wr ((((w12.setCell ⟨vb, 0, none⟩ (.int .i64 b0)).setCell ⟨vb, 1, none⟩ (.int .i64 b1)).setCell ⟨vb, 2, none⟩ (.int .i64 b2)).setCell ⟨vb, 3, none⟩ (.int .i64 b3)) := below_set (below_set (below_set (below_set (below_step HB11.out KX.out) (by rw [HGB.out]; exact HB11.out.size)) (by rw [HGB.out]; exact HB11.out.size)) (by rw [HGB.out]; exact HB11.out.size)) (by rw [HGB.out]; exact HB11.out.size)
          have X14 : ((((w12.setCell ⟨vb, 0, none⟩ (.int .i64 b0)).setCell ⟨vb, 1, none⟩ (.int .i64 b1)).setCell ⟨vb, 2, none⟩ (.int .i64 b2)).setCell ⟨vb, 3, none⟩ (.int .i64 b3)).heap[vb]? = some (.cells #[.int .i64 b0, .int .i64 b1, .int .i64 b2, .int .i64 b3] 36 (0, 0)) := by
            refine blk_put (cs := #[.int .i64 b0, .int .i64 b1, .int .i64 b2, .int .i64 0]) ?_ 3 _ rfl
            refine blk_put (cs := #[.int .i64 b0, .int .i64 b1, .int .i64 0, .int .i64 0]) ?_ 2 _ rfl
            refine blk_put (cs := #[.int .i64 b0, .int .i64 0, .int .i64 0, .int .i64 0]) ?_ 1 _ rfl
            exact blk_put BX.out 0 _ rfl
          generalize (((w12.setCell ⟨vb, 0, none⟩ (.int .i64 b0)).setCell ⟨vb, 1, none⟩ (.int .i64 b1)).setCell ⟨vb, 2, none⟩ (.int .i64 b2)).setCell ⟨vb, 3, none⟩ (.int .i64 b3) = w14 at B14 X14 ⊢
          clear hcz0 hfz0 hcz1 hfz1 hcz2 hfz2 hcz3 hfz3 BX KX HGB HB11 HBE
          have HT4 := Aside0.mk (HT3.out.below B14)
          have HR4 := Aside0.mk (HR2.out.trans (Trn.of_below HR2.out.bel (Nat.le_trans HSZ.out HR2.out.size) B14))
          have HX4 := Aside0.mk X14
          have hg14 : w14.cell? ⟨g, 1, none⟩ = some (.slice (some ⟨b, 0, none⟩) P.length cap) := by
            have := HT4.out.cell
            rw [HL2.out] at this
            exact (blk_cell this 1).trans rfl
          clear B14 X14
          have HWL : Aside0 (w.heap.size ≤ w14.heap.size) := ⟨HR4.out.size⟩
          have HGS := Aside0.mk (fun (W : World) (hb : Below w14.heap.size w14 W) => have h := (HT4.out.below hb).cell; have hv := blk_below HX4.out hb; (⟨(blk_cell hv 0).trans rfl, (blk_cell hv 1).trans rfl, (blk_cell h 0).trans rfl, (blk_cell h 2).trans rfl⟩ : W.cell? ⟨vb, 0, none⟩ = some (.int .i64 b0) ∧ W.cell? ⟨vb, 1, none⟩ = some (.int .i64 b1) ∧ W.cell? ⟨g, 0, none⟩ = some (.int .i64 id) ∧ W.cell? ⟨g, 2, none⟩ = some (.int .i64 C)))
          by_cases hr2 : now % 2 = 0
          · have HRT : Aside0 (rtL id now change (QS P) opens P2 = rsayF ⟨b0, b1, b2, b3⟩ id ag (decide (now ≤ C)) 0 (QS P2)) := ⟨by
              show (if now % 2 = 0 then _ else _) = _
              rw [if_pos hr2, ← HCE0.out, ← HAG.out, ← HBQ.out]⟩
            go_wp2
            go_loopg [9, 10, 98] P.length (fun gk s9 s10 s98 wr => ∃ j : Nat, s98 = .int .i64 j ∧ j ≤ P.length ∧ P.length - j ≤ gk ∧ Aside0 (Kd.R (Kd.int .i64) 3 wr w14.heap.size (fun _ => True) s9 ((rsayF ⟨b0, b1, b2, b3⟩ id ag (decide (now ≤ C)) 0 ((QS P2).take j)).map (·.f0))) ∧ Aside0 (Kd.R k38 38 wr w14.heap.size (fun _ => True) s10 ((rsayF ⟨b0, b1, b2, b3⟩ id ag (decide (now ≤ C)) 0 ((QS P2).take j)).map (·.f1))) ∧ Aside0 (Apt2 s9 s10) ∧ Aside0 (Below w14.heap.size w14 wr))
            case atStart => exact ⟨0, rfl, Nat.zero_le _, by omega, ⟨by rw [List.take_zero]; exact Kd.R_nil _ _ _ _ _⟩, ⟨by rw [List.take_zero]; exact Kd.R_nil _ _ _ _ _⟩, ⟨fun q hq => by cases hq⟩, ⟨Below.refl _ _⟩⟩
            case round =>
              clear hg14
              obtain ⟨j, rfl, hjl3, hgk3, HO9, HO10, HAP, HB⟩ := hrel
              by_cases hlt3 : j < P.length
              · have hlz3 : (j : Int) < (P.length : Int) := by omega
                have hpl : j < P2.length := by rw [HL2.out]; exact hlt3
                have htw := HT4.out.below HB.out
                have hgr : wr.cell? ⟨g, 1, none⟩ = some (.slice (some ⟨b, 0, none⟩) P.length cap) := by
                  have := htw.cell
                  rw [HL2.out] at this
                  exact (blk_cell this 1).trans rfl
                obtain ⟨A3, c3, ev, hc3, hC3⟩ := Gen.R_open (htw.turns j hpl)
                obtain ⟨_, _, _, _, _, _, _, _, _, _, hx10⟩ := rcells htw.row j hpl
                rw [ev] at hx10
                have HRO := Aside0.mk (fun (W : World) (hb : Below wr.heap.size wr W) => trole_calls A3 c3 P2[j].q.turns.length P2[j].q.turns W rfl (Kd.C_below hC3 hb) hc3 (Nat.le_trans (HT2.out j hpl) (by decide)))
                have hqs : j < (QS P2).length := by rw [List.length_map]; exact hpl
                have HST : Aside0 (rsayF ⟨b0, b1, b2, b3⟩ id ag (decide (now ≤ C)) 0 ((QS P2).take (j + 1)) = rsayF ⟨b0, b1, b2, b3⟩ id ag (decide (now ≤ C)) 0 ((QS P2).take j) ++ (if (lastTn P2[j].q.turns).1 = 2 then [sayOf ⟨b0, b1, b2, b3⟩ id ag (decide (now ≤ C)) j] else [])) := ⟨by
                  have h5 := rsayF_step ⟨b0, b1, b2, b3⟩ id ag (decide (now ≤ C)) (QS P2) j hqs
                  rw [show (QS P2)[j].turns = P2[j].q.turns by simp [QS]] at h5
                  exact h5⟩
                have HLL : Aside0 ((rsayF ⟨b0, b1, b2, b3⟩ id ag (decide (now ≤ C)) 0 ((QS P2).take j)).length ≤ 100) := ⟨by
                  have h1 := rsayF_len ⟨b0, b1, b2, b3⟩ id ag (decide (now ≤ C)) ((QS P2).take j) 0
                  rw [List.length_take] at h1
                  omega⟩
                generalize (lastTn P2[j].q.turns).1 = rl at *
                generalize P2[j].q.turns.length = tl at *
                generalize rsayF ⟨b0, b1, b2, b3⟩ id ag (decide (now ≤ C)) 0 ((QS P2).take j) = Q at *
                clear htw hC3 hc3 ev hqs
                by_cases h2 : rl = 2
                · subst h2
                  rw [if_pos rfl] at HST
                  go_wp2_with (first
                    | (go_at_fn 46; refine (HRO.out _ (by repeat (with_reducible first | assumption | exact Below.refl _ _ | apply below_alloc | apply pw_below_drewN | apply below_drew1))).mono ?_; rintro e w15 ⟨rfl, h15⟩; have HB15 := Aside0.mk (below_step HB.out h15); have HO9b := Aside0.mk (Gen.R_kept rfl HO9.out (Kept.of_below h15 (fun _ => False)) (fun _ _ h => h)); have HO10b := Aside0.mk (Gen.R_kept rfl HO10.out (Kept.of_below h15 (fun _ => False)) (fun _ _ h => h)); clear h15)
                    | ((with_reducible refine gate_builtin (b := .append) (xs := #[.tmp 116, .tmp 118]) rfl ?_); at_builtin; refine Kd.R_append (Kd.int .i64) (w0 := w14) w14.heap.size rfl (.tmp 116) (.tmp 118) 22 3 (.int .i64 0) 8 rfl Tryd.underlying22 info3d rfl (by decide) (by decide) u9 (Q.map (·.f0)) (j : Int) [.int .i64 (j : Int)] (fun _ => True) (fun _ => False) rfl rfl ?aP (fun _ hk => hk.elim) ?aF ?aO ?aB ?aS ?aL ?_; (case aP => exact rfl); (case aB => exact HB15.out); (case aF => exact (fun _ _ => trivial)); (case aO => exact HO9b.out); (case aS => exact HB15.out.size); (case aL => rw [List.length_map]; have := HLL.out; omega); intro v2 w16 ho hb hg hat; have HO9c := Aside0.mk ho; have HB16 := Aside0.mk hb; have HO10c := Aside0.mk (Gen.R_kept rfl HO10b.out (kept_grown hg) (fun q hq e => HAP.out q e hq)); have HAPc : Aside0 (Apt2 v2 u10) := ⟨apt_left HAP.out hat (Kd.R_lt HO10b.out)⟩; clear ho hb hg hat))
                  have HRB9 := Aside0.mk (fun (W : World) (hb : Below w16.heap.size w16 W) => Gen.R_kept rfl HO9c.out (Kept.of_below hb (fun _ => False)) (fun _ _ h => h))
                  have HRB10 := Aside0.mk (fun (W : World) (hb : Below w16.heap.size w16 W) => Gen.R_kept rfl HO10c.out (Kept.of_below hb (fun _ => False)) (fun _ _ h => h))
                  have HGB := Aside0.mk (fun (W : World) (hb : Below w16.heap.size w16 W) => HGS.out W (below_step HB16.out hb))
                  obtain ⟨hv0, hv1, hi0, hi2⟩ := HGB.out _ (Below.refl _ _)
                  go_region_held3 (fun W => W.cell? ⟨vb, 0, none⟩ = some (.int .i64 b0) ∧ W.cell? ⟨vb, 1, none⟩ = some (.int .i64 b1) ∧ W.cell? ⟨g, 0, none⟩ = some (.int .i64 id) ∧ W.cell? ⟨g, 2, none⟩ = some (.int .i64 C)) (first | exact HGS.out _ HB19.out | exact HGB.out _ (by repeat (with_reducible first | assumption | exact Below.refl _ _ | apply below_alloc | apply pw_below_drewN | apply below_drew1))) (first
                    | (refine Kd.R_append_rows_step k38 (w0 := w14) w14.heap.size (by rfl) (.tmp 120) (.tmp 139) 65 38 (.agg #[(.int .i64 0), (.int .i64 0), (.int .i64 0), (.int .i64 0), (.int .i64 0), (.int .i64 0), (.bool false)]) 56 rfl Tryd.underlying65 info38 rfl (by decide) (by decide) u10 (Q.map (·.f1)) [(sayOf ⟨b0, b1, b2, b3⟩ id ag (decide (now ≤ C)) j).f1] _ 1 1 (fun _ => True) (fun _ => False) rfl rfl ?aO ?aR (fun _ _ h => h) (fun _ h => h.elim) ?aF ?aB ?aS ?aL ?_; (case aR => exact C_one38 (sayOf ⟨b0, b1, b2, b3⟩ id ag (decide (now ≤ C)) j).f1 (by first | exact blk_new _ _ | exact blk_drew (blk_new _ _))); (case aB => exact below_step HB16.out (by repeat (with_reducible first | assumption | exact Below.refl _ _ | apply below_alloc | apply pw_below_drewN | apply below_drew1))); (case aF => exact fun _ _ => trivial); (case aO => exact HRB10.out _ (by repeat (with_reducible first | assumption | exact Below.refl _ _ | apply below_alloc | apply pw_below_drewN | apply below_drew1))); (case aS => exact (below_step HB16.out (by repeat (with_reducible first | assumption | exact Below.refl _ _ | apply below_alloc | apply pw_below_drewN | apply below_drew1))).size); (case aL => rw [List.length_map]; have := HLL.out; omega); intro v9 w19 ho9 hb9 hg9 hat9; have HO10d := Aside0.mk ho9; have HB19 := Aside0.mk hb9; have HO9d := Aside0.mk (Gen.R_kept rfl (HRB9.out _ (by repeat (with_reducible first | assumption | exact Below.refl _ _ | apply below_alloc | apply pw_below_drewN | apply below_drew1))) (kept_grown hg9) (fun q hq e => HAPc.out q hq e)); have HAPd : Aside0 (Apt2 v2 v9) := ⟨apt_right HAPc.out hat9 (Kd.R_lt (HRB9.out _ (by repeat (with_reducible first | assumption | exact Below.refl _ _ | apply below_alloc | apply pw_below_drewN | apply below_drew1))))⟩; clear ho9 hb9 hg9 hat9))
                  go_wp2
                  go_roundg (P.length - (j + 1))
                  case measure => omega
                  case rel => exact ⟨j + 1, by go_num, by omega, Nat.le_refl _, ⟨by rw [HST.out, List.map_append]; exact HO9d.out⟩, ⟨by rw [HST.out, List.map_append]; exact HO10d.out⟩, HAPd, HB19⟩
                · rw [if_neg h2, List.append_nil] at HST
                  have d2 : (rl == 2) = false := by simpa using h2
                  clear h2
                  go_wp2_with (go_at_fn 46; refine (HRO.out _ (by repeat (with_reducible first | assumption | exact Below.refl _ _ | apply below_alloc | apply pw_below_drewN | apply below_drew1))).mono ?_; rintro e w15 ⟨rfl, h15⟩; have HB15 := Aside0.mk (below_step HB.out h15); have HO9b := Aside0.mk (Gen.R_kept rfl HO9.out (Kept.of_below h15 (fun _ => False)) (fun _ _ h => h)); have HO10b := Aside0.mk (Gen.R_kept rfl HO10.out (Kept.of_below h15 (fun _ => False)) (fun _ _ h => h)); clear h15)
                  go_roundg (P.length - (j + 1))
                  case measure => omega
                  case rel => exact ⟨j + 1, by go_num, by omega, Nat.le_refl _, ⟨by rw [HST.out]; exact HO9b.out⟩, ⟨by rw [HST.out]; exact HO10b.out⟩, HAP, HB15⟩
              · have e : j = P.length := by omega
                subst e
                rw [List.take_of_length_le (by rw [List.length_map, HL2.out]; exact Nat.le_refl _)] at HO9 HO10
                have ht5 := HT4.out.below HB.out
                have htn := HR4.out.trans (Trn.of_below HR4.out.bel (Nat.le_trans HSZ.out HR4.out.size) HB.out)
                go_wp2
                (try simp only [Exit.inBlock, Exit.then])
                refine bodyPost_ret (results_tmp2 rfl _ _ _) rfl ?_
                exact ⟨_, _, rfl, P2, by rw [HRT.out]; exact Kd.R_lower HO9.out HWL.out, by rw [HRT.out]; exact Kd.R_lower HO10.out HWL.out, by rw [← HCE0.out, ← HSE.out]; exact ht5, HQ2.out, htn⟩
          · have HRT : Aside0 (rtL id now change (QS P) opens P2 = []) := ⟨if_neg hr2⟩
            have d3 : (now % 2 == 0) = false := by simpa using hr2
            go_wp2
            go_loopg [9, 10, 98] P.length (fun gk s9 s10 s98 wr => ∃ j : Nat, s98 = .int .i64 j ∧ s9 = .slice none 0 0 ∧ s10 = .slice none 0 0 ∧ j ≤ P.length ∧ P.length - j ≤ gk ∧ Aside0 (wr = w14))
            case atStart => exact ⟨0, rfl, rfl, rfl, Nat.zero_le _, by omega, ⟨rfl⟩⟩
            case round =>
              obtain ⟨j, rfl, rfl, rfl, hjl3, hgk3, HWE⟩ := hrel
              have hwe := HWE.out
              subst hwe
              by_cases hlt3 : j < P.length
              · have hlz3 : (j : Int) < (P.length : Int) := by omega
                go_wp2
                go_roundg (P.length - (j + 1))
                case measure => omega
                case rel => exact ⟨j + 1, by go_num, rfl, rfl, by omega, Nat.le_refl _, ⟨rfl⟩⟩
              · have e : j = P.length := by omega
                subst e
                go_wp2
                (try simp only [Exit.inBlock, Exit.then])
                refine bodyPost_ret (results_tmp2 rfl _ _ _) rfl ?_
                exact ⟨_, _, rfl, P2, by rw [HRT.out]; exact Kd.R_nil _ _ _ _ _, by rw [HRT.out]; exact Kd.R_nil _ _ _ _ _, by rw [← HCE0.out, ← HSE.out]; exact HT4.out, HQ2.out, HR4.out⟩
end Go.Proofs.YtfimhaodgekkgaaDoor.QTre
namespace Go.Proofs.YtfimhaodgekkgaaDoor.QTre
open Go.RowKit Go.Proofs.YtfimhaodgekkgaaDoorW.PrintWords Go.Proofs.YtfimhaodgekkgaaDoorW.PrintLast Go.Proofs.YtfimhaodgekkgaaDoorW.PrintMore
open Go.Proofs.YtfimhaodgekkgaaDoor.Gen (Own Trn)
open Go.Proofs.YtfimhaodgekkgaaDoor.Pri (FitH roles bestOf role brid conv)
set_option linter.unusedVariables false
set_option linter.unusedSimpArgs false
set_option maxHeartbeats 4000000 in
set_option maxRecDepth 100000 in
theorem rhear_bad (base g b cap ob ocap : Nat) (id : Int) (P : List RP) (change now : Int) (opens : List Bool) (w : World) (ht : RTre w base g b cap ob ocap id P change opens) (i : Int) (m : S38) (hm : FitB m) (hbad : ¬ (0 ≤ i ∧ i < (P.length : Int)) ∨ goodB m = false ∨ m.f2 ≠ 2) :
    Calls Tryd.prog 27 #[.pointer (some ⟨g, 0, none⟩), .int .i64 i, val38 m, .int .i64 now] w fun e w' => e = .returned (.int .i64 1) ∧ Below w.heap.size w w' := by
  have hu38 := Tryd.underlying38
  have hu36 := Tryd.underlying36
  have hu59 := Tryd.underlying59
  have e18 : ∀ args w, (callFunc 18 args).run Tryd.prog w = .ok (.enter 18 args) w := enters_of Tryd.func18 (by kernel_rfl) rfl
  have e42 : ∀ args w, (callFunc 42 args).run Tryd.prog w = .ok (.enter 42 args) w := enters_of Tryd.func42 (by kernel_rfl) rfl
  have hg1 : w.cell? ⟨g, 1, none⟩ = some (.slice (some ⟨b, 0, none⟩) P.length cap) := (blk_cell ht.cell 1).trans rfl
  have hgl := blk_lt ht.cell
  have HG := Aside0.mk (fun W => rgood_calls m hm W)
  clear ht hm
  have key : i < 0 ∨ (¬ i < 0 ∧ (P.length : Int) ≤ i) ∨ (¬ i < 0 ∧ ¬ (P.length : Int) ≤ i ∧ goodB m = false) ∨ (¬ i < 0 ∧ ¬ (P.length : Int) ≤ i ∧ goodB m = true ∧ (m.f2 != 2) = true) := by
    by_cases h1 : i < 0
    · exact .inl h1
    · by_cases h2 : (P.length : Int) ≤ i
      · exact .inr (.inl ⟨h1, h2⟩)
      · rcases Bool.eq_false_or_eq_true (goodB m) with h3 | h3
        · refine .inr (.inr (.inr ⟨h1, h2, h3, ?_⟩))
          rcases hbad with h | h | h
          · omega
          · rw [h3] at h; cases h
          · exact bne_iff_ne.2 h
        · exact .inr (.inr (.inl ⟨h1, h2, h3⟩))
  clear hbad
  rcases key with d1 | ⟨d1, d2⟩ | ⟨d1, d2, k⟩ | ⟨d1, d2, k, k2⟩
  · have q1 : decide (i < 0) = true := decide_eq_true d1
    go_enter Tryd.func27, Tryd.ntmps27
    go_wp2_with ((with_reducible refine gate_dst (N := 6) rfl ?_); refine box_event ?hg (N := 6) ?hd (cs := #[.int .i64 m.f0.f0, .int .i64 m.f0.f1, .int .i64 m.f0.f2, .int .i64 m.f0.f3, .int .i64 m.f1, .int .i64 m.f2, .bool m.f3]) (t := 38) ?hr ?_; (case hd => rfl); (case hg => rfl); (case hr => first | (go_simp; done) | (go_simp; rfl)); intro gb hg w5 hbox hb; have HB5 := Aside0.mk hb; have BK := Aside0.mk hbox; have hgb : w.heap.size ≤ gb := Nat.le_of_eq hg.symm; have hz0 : w5.cell? ⟨gb, 0, none⟩ = some (.int .i64 m.f0.f0) := (blk_cell BK.out 0).trans rfl; have hz1 : w5.cell? ⟨gb, 1, none⟩ = some (.int .i64 m.f0.f1) := (blk_cell BK.out 1).trans rfl; have hz2 : w5.cell? ⟨gb, 2, none⟩ = some (.int .i64 m.f0.f2) := (blk_cell BK.out 2).trans rfl; have hz3 : w5.cell? ⟨gb, 3, none⟩ = some (.int .i64 m.f0.f3) := (blk_cell BK.out 3).trans rfl; have hz4 : w5.cell? ⟨gb, 4, none⟩ = some (.int .i64 m.f1) := (blk_cell BK.out 4).trans rfl; have hz5 : w5.cell? ⟨gb, 5, none⟩ = some (.int .i64 m.f2) := (blk_cell BK.out 5).trans rfl; have hz6 : w5.cell? ⟨gb, 6, none⟩ = some (.bool m.f3) := (blk_cell BK.out 6).trans rfl; have hg5 := pw_cell_below hb hg1; clear hb hbox hg)
    go_ret
    exact ⟨rfl, HB5.out⟩
  · have q1 : decide (i < 0) = false := decide_eq_false d1
    have q2 : decide ((P.length : Int) ≤ i) = true := decide_eq_true d2
    go_enter Tryd.func27, Tryd.ntmps27
    go_wp2_with ((with_reducible refine gate_dst (N := 6) rfl ?_); refine box_event ?hg (N := 6) ?hd (cs := #[.int .i64 m.f0.f0, .int .i64 m.f0.f1, .int .i64 m.f0.f2, .int .i64 m.f0.f3, .int .i64 m.f1, .int .i64 m.f2, .bool m.f3]) (t := 38) ?hr ?_; (case hd => rfl); (case hg => rfl); (case hr => first | (go_simp; done) | (go_simp; rfl)); intro gb hg w5 hbox hb; have HB5 := Aside0.mk hb; have BK := Aside0.mk hbox; have hgb : w.heap.size ≤ gb := Nat.le_of_eq hg.symm; have hz0 : w5.cell? ⟨gb, 0, none⟩ = some (.int .i64 m.f0.f0) := (blk_cell BK.out 0).trans rfl; have hz1 : w5.cell? ⟨gb, 1, none⟩ = some (.int .i64 m.f0.f1) := (blk_cell BK.out 1).trans rfl; have hz2 : w5.cell? ⟨gb, 2, none⟩ = some (.int .i64 m.f0.f2) := (blk_cell BK.out 2).trans rfl; have hz3 : w5.cell? ⟨gb, 3, none⟩ = some (.int .i64 m.f0.f3) := (blk_cell BK.out 3).trans rfl; have hz4 : w5.cell? ⟨gb, 4, none⟩ = some (.int .i64 m.f1) := (blk_cell BK.out 4).trans rfl; have hz5 : w5.cell? ⟨gb, 5, none⟩ = some (.int .i64 m.f2) := (blk_cell BK.out 5).trans rfl; have hz6 : w5.cell? ⟨gb, 6, none⟩ = some (.bool m.f3) := (blk_cell BK.out 6).trans rfl; have hg5 := pw_cell_below hb hg1; clear hb hbox hg)
    go_ret
    exact ⟨rfl, HB5.out⟩
  · have q1 : decide (i < 0) = false := decide_eq_false d1
    have q2 : decide ((P.length : Int) ≤ i) = false := decide_eq_false d2
    rw [k] at HG
    clear k
    go_enter Tryd.func27, Tryd.ntmps27
    go_wp2_with (first | ((with_reducible refine gate_dst (N := 6) rfl ?_); refine box_event ?hg (N := 6) ?hd (cs := #[.int .i64 m.f0.f0, .int .i64 m.f0.f1, .int .i64 m.f0.f2, .int .i64 m.f0.f3, .int .i64 m.f1, .int .i64 m.f2, .bool m.f3]) (t := 38) ?hr ?_; (case hd => rfl); (case hg => rfl); (case hr => first | (go_simp; done) | (go_simp; rfl)); intro gb hg w5 hbox hb; have HB5 := Aside0.mk hb; have BK := Aside0.mk hbox; have hgb : w.heap.size ≤ gb := Nat.le_of_eq hg.symm; have hz0 : w5.cell? ⟨gb, 0, none⟩ = some (.int .i64 m.f0.f0) := (blk_cell BK.out 0).trans rfl; have hz1 : w5.cell? ⟨gb, 1, none⟩ = some (.int .i64 m.f0.f1) := (blk_cell BK.out 1).trans rfl; have hz2 : w5.cell? ⟨gb, 2, none⟩ = some (.int .i64 m.f0.f2) := (blk_cell BK.out 2).trans rfl; have hz3 : w5.cell? ⟨gb, 3, none⟩ = some (.int .i64 m.f0.f3) := (blk_cell BK.out 3).trans rfl; have hz4 : w5.cell? ⟨gb, 4, none⟩ = some (.int .i64 m.f1) := (blk_cell BK.out 4).trans rfl; have hz5 : w5.cell? ⟨gb, 5, none⟩ = some (.int .i64 m.f2) := (blk_cell BK.out 5).trans rfl; have hz6 : w5.cell? ⟨gb, 6, none⟩ = some (.bool m.f3) := (blk_cell BK.out 6).trans rfl; have hg5 := pw_cell_below hb hg1; clear hb hbox hg) | (go_at_fn 18; refine (HG.out _).mono ?_; rintro e w6 ⟨rfl, h6⟩; have HB6 := Aside0.mk (below_step HB5.out h6); have hg6 := pw_cell_below HB6.out hg1; have hy0 : w6.cell? ⟨gb, 0, none⟩ = some (.int .i64 m.f0.f0) := pw_cell_below h6 hz0; have hy1 : w6.cell? ⟨gb, 1, none⟩ = some (.int .i64 m.f0.f1) := pw_cell_below h6 hz1; have hy2 : w6.cell? ⟨gb, 2, none⟩ = some (.int .i64 m.f0.f2) := pw_cell_below h6 hz2; have hy3 : w6.cell? ⟨gb, 3, none⟩ = some (.int .i64 m.f0.f3) := pw_cell_below h6 hz3; have hy4 : w6.cell? ⟨gb, 4, none⟩ = some (.int .i64 m.f1) := pw_cell_below h6 hz4; have hy5 : w6.cell? ⟨gb, 5, none⟩ = some (.int .i64 m.f2) := pw_cell_below h6 hz5; have hy6 : w6.cell? ⟨gb, 6, none⟩ = some (.bool m.f3) := pw_cell_below h6 hz6; clear h6))
    go_ret
    exact ⟨rfl, HB6.out⟩
  · have q1 : decide (i < 0) = false := decide_eq_false d1
    have q2 : decide ((P.length : Int) ≤ i) = false := decide_eq_false d2
    rw [k] at HG
    clear k
    go_enter Tryd.func27, Tryd.ntmps27
    go_wp2_with (first | ((with_reducible refine gate_dst (N := 6) rfl ?_); refine box_event ?hg (N := 6) ?hd (cs := #[.int .i64 m.f0.f0, .int .i64 m.f0.f1, .int .i64 m.f0.f2, .int .i64 m.f0.f3, .int .i64 m.f1, .int .i64 m.f2, .bool m.f3]) (t := 38) ?hr ?_; (case hd => rfl); (case hg => rfl); (case hr => first | (go_simp; done) | (go_simp; rfl)); intro gb hg w5 hbox hb; have HB5 := Aside0.mk hb; have BK := Aside0.mk hbox; have hgb : w.heap.size ≤ gb := Nat.le_of_eq hg.symm; have hz0 : w5.cell? ⟨gb, 0, none⟩ = some (.int .i64 m.f0.f0) := (blk_cell BK.out 0).trans rfl; have hz1 : w5.cell? ⟨gb, 1, none⟩ = some (.int .i64 m.f0.f1) := (blk_cell BK.out 1).trans rfl; have hz2 : w5.cell? ⟨gb, 2, none⟩ = some (.int .i64 m.f0.f2) := (blk_cell BK.out 2).trans rfl; have hz3 : w5.cell? ⟨gb, 3, none⟩ = some (.int .i64 m.f0.f3) := (blk_cell BK.out 3).trans rfl; have hz4 : w5.cell? ⟨gb, 4, none⟩ = some (.int .i64 m.f1) := (blk_cell BK.out 4).trans rfl; have hz5 : w5.cell? ⟨gb, 5, none⟩ = some (.int .i64 m.f2) := (blk_cell BK.out 5).trans rfl; have hz6 : w5.cell? ⟨gb, 6, none⟩ = some (.bool m.f3) := (blk_cell BK.out 6).trans rfl; have hg5 := pw_cell_below hb hg1; clear hb hbox hg) | (go_at_fn 18; refine (HG.out _).mono ?_; rintro e w6 ⟨rfl, h6⟩; have HB6 := Aside0.mk (below_step HB5.out h6); have hg6 := pw_cell_below HB6.out hg1; have hy0 : w6.cell? ⟨gb, 0, none⟩ = some (.int .i64 m.f0.f0) := pw_cell_below h6 hz0; have hy1 : w6.cell? ⟨gb, 1, none⟩ = some (.int .i64 m.f0.f1) := pw_cell_below h6 hz1; have hy2 : w6.cell? ⟨gb, 2, none⟩ = some (.int .i64 m.f0.f2) := pw_cell_below h6 hz2; have hy3 : w6.cell? ⟨gb, 3, none⟩ = some (.int .i64 m.f0.f3) := pw_cell_below h6 hz3; have hy4 : w6.cell? ⟨gb, 4, none⟩ = some (.int .i64 m.f1) := pw_cell_below h6 hz4; have hy5 : w6.cell? ⟨gb, 5, none⟩ = some (.int .i64 m.f2) := pw_cell_below h6 hz5; have hy6 : w6.cell? ⟨gb, 6, none⟩ = some (.bool m.f3) := pw_cell_below h6 hz6; clear h6))
    go_ret
    exact ⟨rfl, HB6.out⟩
set_option maxHeartbeats 4000000 in
set_option maxRecDepth 100000 in
theorem rhear_down (base g b cap ob ocap : Nat) (id : Int) (P : List RP) (change now : Int) (opens : List Bool) (w : World) (ht : RTre w base g b cap ob ocap id P change opens) (k : Nat) (hk : k < P.length) (m : S38) (hm : FitB m) (hgd : goodB m = true) (hr : m.f2 = 2) (hdn : P[k].q.up = false) :
    Calls Tryd.prog 27 #[.pointer (some ⟨g, 0, none⟩), .int .i64 k, val38 m, .int .i64 now] w fun e w' => e = .returned (.int .i64 7) ∧ Below w.heap.size w w' := by
  have hu38 := Tryd.underlying38
  have hu36 := Tryd.underlying36
  have hu59 := Tryd.underlying59
  have e18 : ∀ args w, (callFunc 18 args).run Tryd.prog w = .ok (.enter 18 args) w := enters_of Tryd.func18 (by kernel_rfl) rfl
  have e42 : ∀ args w, (callFunc 42 args).run Tryd.prog w = .ok (.enter 42 args) w := enters_of Tryd.func42 (by kernel_rfl) rfl
  have hg1 : w.cell? ⟨g, 1, none⟩ = some (.slice (some ⟨b, 0, none⟩) P.length cap) := (blk_cell ht.cell 1).trans rfl
  have hgl := blk_lt ht.cell
  have HG := Aside0.mk (fun W => rgood_calls m hm W)
  rw [hgd] at HG
  have hlz : (k : Int) < (P.length : Int) := by omega
  have hx0 := (rcells ht.row k hk).c0
  rw [hdn] at hx0
  have q1 : decide ((k : Int) < 0) = false := decide_eq_false (by omega)
  have q2 : decide ((P.length : Int) ≤ (k : Int)) = false := decide_eq_false (by omega)
  have k2 : (m.f2 != 2) = false := by rw [hr]; rfl
  clear ht hm hgd hr hdn
  go_enter Tryd.func27, Tryd.ntmps27
  go_wp2_with (first | ((with_reducible refine gate_dst (N := 6) rfl ?_); refine box_event ?hg (N := 6) ?hd (cs := #[.int .i64 m.f0.f0, .int .i64 m.f0.f1, .int .i64 m.f0.f2, .int .i64 m.f0.f3, .int .i64 m.f1, .int .i64 m.f2, .bool m.f3]) (t := 38) ?hr ?_; (case hd => rfl); (case hg => rfl); (case hr => first | (go_simp; done) | (go_simp; rfl)); intro gb hg w5 hbox hb; have HB5 := Aside0.mk hb; have BK := Aside0.mk hbox; have hgb : w.heap.size ≤ gb := Nat.le_of_eq hg.symm; have hz0 : w5.cell? ⟨gb, 0, none⟩ = some (.int .i64 m.f0.f0) := (blk_cell BK.out 0).trans rfl; have hz1 : w5.cell? ⟨gb, 1, none⟩ = some (.int .i64 m.f0.f1) := (blk_cell BK.out 1).trans rfl; have hz2 : w5.cell? ⟨gb, 2, none⟩ = some (.int .i64 m.f0.f2) := (blk_cell BK.out 2).trans rfl; have hz3 : w5.cell? ⟨gb, 3, none⟩ = some (.int .i64 m.f0.f3) := (blk_cell BK.out 3).trans rfl; have hz4 : w5.cell? ⟨gb, 4, none⟩ = some (.int .i64 m.f1) := (blk_cell BK.out 4).trans rfl; have hz5 : w5.cell? ⟨gb, 5, none⟩ = some (.int .i64 m.f2) := (blk_cell BK.out 5).trans rfl; have hz6 : w5.cell? ⟨gb, 6, none⟩ = some (.bool m.f3) := (blk_cell BK.out 6).trans rfl; have hg5 := pw_cell_below hb hg1; clear hb hbox hg) | (go_at_fn 18; refine (HG.out _).mono ?_; rintro e w6 ⟨rfl, h6⟩; have HB6 := Aside0.mk (below_step HB5.out h6); have hx6 := pw_cell_below HB6.out hx0; have hg6 := pw_cell_below HB6.out hg1; have hy0 : w6.cell? ⟨gb, 0, none⟩ = some (.int .i64 m.f0.f0) := pw_cell_below h6 hz0; have hy1 : w6.cell? ⟨gb, 1, none⟩ = some (.int .i64 m.f0.f1) := pw_cell_below h6 hz1; have hy2 : w6.cell? ⟨gb, 2, none⟩ = some (.int .i64 m.f0.f2) := pw_cell_below h6 hz2; have hy3 : w6.cell? ⟨gb, 3, none⟩ = some (.int .i64 m.f0.f3) := pw_cell_below h6 hz3; have hy4 : w6.cell? ⟨gb, 4, none⟩ = some (.int .i64 m.f1) := pw_cell_below h6 hz4; have hy5 : w6.cell? ⟨gb, 5, none⟩ = some (.int .i64 m.f2) := pw_cell_below h6 hz5; have hy6 : w6.cell? ⟨gb, 6, none⟩ = some (.bool m.f3) := pw_cell_below h6 hz6; clear h6))
  go_ret
  exact ⟨rfl, HB6.out⟩
abbrev rsetHeard (w : World) (b k : Nat) (m : S38) : World := ((((((w.setCell ⟨b, k * 11 + 2, none⟩ (.int .i64 m.f0.f0)).setCell ⟨b, k * 11 + 2 + 1, none⟩ (.int .i64 m.f0.f1)).setCell ⟨b, k * 11 + 2 + 2, none⟩ (.int .i64 m.f0.f2)).setCell ⟨b, k * 11 + 2 + 3, none⟩ (.int .i64 m.f0.f3)).setCell ⟨b, k * 11 + 2 + 4, none⟩ (.int .i64 m.f1)).setCell ⟨b, k * 11 + 2 + 5, none⟩ (.int .i64 0)).setCell ⟨b, k * 11 + 2 + 6, none⟩ (.bool false)
def hearQ (x : RQ) (m : S38) (now : Int) : RQ := ⟨x.up, x.cost, ⟨m.f0, m.f1, 0, false⟩, now, x.turns⟩
section
variable {w W : World} {base g b cap ob ocap : Nat} {id change : Int} {P : List RP} {opens : List Bool} {k : Nat} {x : RP}
theorem RTre.heard (h : RTre w base g b cap ob ocap id (P.set k x) change opens) (hk : k < P.length) (m : S38) : RTre (rsetHeard w b k m) base g b cap ob ocap id (P.set k ⟨⟨x.q.up, x.q.cost, ⟨m.f0, m.f1, 0, false⟩, x.q.at_, x.q.turns⟩, x.v⟩) change opens :=
  ((((((h.put2 hk 2 (by decide) ⟨⟨x.q.up, x.q.cost, ⟨⟨m.f0.f0, x.q.heard.f0.f1, x.q.heard.f0.f2, x.q.heard.f0.f3⟩, x.q.heard.f1, x.q.heard.f2, x.q.heard.f3⟩, x.q.at_, x.q.turns⟩, x.v⟩ _ rfl rfl rfl).put2 hk 3 (by decide) ⟨⟨x.q.up, x.q.cost, ⟨⟨m.f0.f0, m.f0.f1, x.q.heard.f0.f2, x.q.heard.f0.f3⟩, x.q.heard.f1, x.q.heard.f2, x.q.heard.f3⟩, x.q.at_, x.q.turns⟩, x.v⟩ _ rfl rfl rfl).put2 hk 4 (by decide) ⟨⟨x.q.up, x.q.cost, ⟨⟨m.f0.f0, m.f0.f1, m.f0.f2, x.q.heard.f0.f3⟩, x.q.heard.f1, x.q.heard.f2, x.q.heard.f3⟩, x.q.at_, x.q.turns⟩, x.v⟩ _ rfl rfl rfl).put2 hk 5 (by decide) ⟨⟨x.q.up, x.q.cost, ⟨m.f0, x.q.heard.f1, x.q.heard.f2, x.q.heard.f3⟩, x.q.at_, x.q.turns⟩, x.v⟩ _ rfl rfl rfl).put2 hk 6 (by decide) ⟨⟨x.q.up, x.q.cost, ⟨m.f0, m.f1, x.q.heard.f2, x.q.heard.f3⟩, x.q.at_, x.q.turns⟩, x.v⟩ _ rfl rfl rfl).put2 hk 7 (by decide) ⟨⟨x.q.up, x.q.cost, ⟨m.f0, m.f1, 0, x.q.heard.f3⟩, x.q.at_, x.q.turns⟩, x.v⟩ _ rfl rfl rfl).put2 hk 8 (by decide) ⟨⟨x.q.up, x.q.cost, ⟨m.f0, m.f1, 0, false⟩, x.q.at_, x.q.turns⟩, x.v⟩ _ rfl rfl rfl
theorem RTre.hat (h : RTre w base g b cap ob ocap id (P.set k x) change opens) (hk : k < P.length) (now : Int) : RTre (w.setCell ⟨b, k * 11 + 9, none⟩ (.int .i64 now)) base g b cap ob ocap id (P.set k ⟨⟨x.q.up, x.q.cost, x.q.heard, now, x.q.turns⟩, x.v⟩) change opens :=
  h.put2 hk 9 (by decide) ⟨⟨x.q.up, x.q.cost, x.q.heard, now, x.q.turns⟩, x.v⟩ _ rfl rfl rfl
theorem trn_rheard {w0 : World} {F F' : Nat → Prop} (a : Trn base w0 w F F' W) (hs : base ≤ w.heap.size) (hF : F' b) (hb : base ≤ b) (k : Nat) (m : S38) : Trn base w0 w F F' (rsetHeard W b k m) :=
  ((((((a.set hs hF hb _ _).set hs hF hb _ _).set hs hF hb _ _).set hs hF hb _ _).set hs hF hb _ _).set hs hF hb _ _).set hs hF hb _ _
end
set_option maxHeartbeats 4000000 in
set_option maxRecDepth 100000 in
theorem rhear_ok (base g b cap ob ocap : Nat) (id : Int) (P : List RP) (change now : Int) (opens : List Bool) (w0 w : World) (hB : Below base w0 w) (hs : base ≤ w.heap.size) (ht : RTre w base g b cap ob ocap id P change opens) (hn : P.length ≤ 100) (hf : ∀ x ∈ P, FitQ x.q) (hT : ∀ (k : Nat) (h : k < P.length), P[k].q.turns.length ≤ 1000) (k : Nat) (hk : k < P.length) (m : S38) (hm : FitB m) (hgd : goodB m = true) (hr : m.f2 = 2) (hup : P[k].q.up = true) :
    Calls Tryd.prog 27 #[.pointer (some ⟨g, 0, none⟩), .int .i64 k, val38 m, .int .i64 now] w fun e w' => e = .returned (.int .i64 0) ∧ ∃ P2 : List RP, RTre w' base g b cap ob ocap id P2 change opens ∧ P2.map (·.q) = updQ id now (listQ (P.set k ⟨hearQ P[k].q m now, P[k].v⟩)) ((P.set k ⟨hearQ P[k].q m now, P[k].v⟩).map (·.q)) P.length ∧ Trn base w0 w (RF g b ob P) (RF g b ob P2) w' := by
  have hu38 := Tryd.underlying38
  have hu36 := Tryd.underlying36
  have hu59 := Tryd.underlying59
  have e18 : ∀ args w, (callFunc 18 args).run Tryd.prog w = .ok (.enter 18 args) w := enters_of Tryd.func18 (by kernel_rfl) rfl
  have e42 : ∀ args w, (callFunc 42 args).run Tryd.prog w = .ok (.enter 42 args) w := enters_of Tryd.func42 (by kernel_rfl) rfl
  have hg1 : w.cell? ⟨g, 1, none⟩ = some (.slice (some ⟨b, 0, none⟩) P.length cap) := (blk_cell ht.cell 1).trans rfl
  have hgl := blk_lt ht.cell
  have HG := Aside0.mk (fun W => rgood_calls m hm W)
  rw [hgd] at HG
  have hlz : (k : Int) < (P.length : Int) := by omega
  have hx0 := (rcells ht.row k hk).c0
  rw [hup] at hx0
  have q1 : decide ((k : Int) < 0) = false := decide_eq_false (by omega)
  have q2 : decide ((P.length : Int) ≤ (k : Int)) = false := decide_eq_false (by omega)
  have k2 : (m.f2 != 2) = false := by rw [hr]; rfl
  have hbl := ht.row.lt
  have HT := Aside0.mk ht
  have hfx := hf _ (List.getElem_mem hk)
  have HFS := Aside0.mk (fit_listQ (fitq_set hf k ⟨hearQ P[k].q m now, P[k].v⟩ ⟨hm.1, hm.2.1, hfx.2.2⟩))
  have HTS := Aside0.mk (turns_set hT k hk ⟨hearQ P[k].q m now, P[k].v⟩ rfl)
  have HTT := Aside0.mk (fun (W : World) (hb : Below w.heap.size w W) => (((((ht.below hb).same k hk).heard hk m).hat hk now).below (below_drew1 (Below.refl _ _))))
  have HTN := Aside0.mk (fun (W : World) (hb : Below w.heap.size w W) => Trn.weak (Trn.below ((trn_rheard (Trn.of_below (F := RF g b ob P) hB hs hb) hs (.inr (.inl rfl)) ht.lowb k m).set hs (.inr (.inl rfl)) ht.lowb (k * 11 + 9) (.int .i64 now)) hs (below_drew1 (Below.refl _ _))) (F2 := RF g b ob (P.set k ⟨hearQ P[k].q m now, P[k].v⟩)) (RF_put hk rfl))
  have HU := Aside0.mk (fun (W : World) (hb : Below w.heap.size w W) => rupd_calls base g b cap ob ocap id (P.set k ⟨hearQ P[k].q m now, P[k].v⟩) change now opens w0 ((rsetHeard W b k m).setCell ⟨b, k * 11 + 9, none⟩ (.int .i64 now)).drew (HTN.out W hb).bel (Nat.le_trans hs (HTN.out W hb).size) (HTT.out W hb) (by rw [List.length_set]; exact hn) HFS.out HTS.out)
  rw [List.length_set] at HU
  clear ht hm hgd hr hup hs hB hf hT hfx HFS HTS HTT
  generalize P.set k ⟨hearQ P[k].q m now, P[k].v⟩ = PS at *
  go_enter Tryd.func27, Tryd.ntmps27
  go_wp2_with (first | ((with_reducible refine gate_dst (N := 6) rfl ?_); refine box_event ?hg (N := 6) ?hd (cs := #[.int .i64 m.f0.f0, .int .i64 m.f0.f1, .int .i64 m.f0.f2, .int .i64 m.f0.f3, .int .i64 m.f1, .int .i64 m.f2, .bool m.f3]) (t := 38) ?hr ?_; (case hd => rfl); (case hg => rfl); (case hr => first | (go_simp; done) | (go_simp; rfl)); intro gb hg w5 hbox hb; have HB5 := Aside0.mk hb; have BK := Aside0.mk hbox; have hgb : w.heap.size ≤ gb := Nat.le_of_eq hg.symm; have hz0 : w5.cell? ⟨gb, 0, none⟩ = some (.int .i64 m.f0.f0) := (blk_cell BK.out 0).trans rfl; have hz1 : w5.cell? ⟨gb, 1, none⟩ = some (.int .i64 m.f0.f1) := (blk_cell BK.out 1).trans rfl; have hz2 : w5.cell? ⟨gb, 2, none⟩ = some (.int .i64 m.f0.f2) := (blk_cell BK.out 2).trans rfl; have hz3 : w5.cell? ⟨gb, 3, none⟩ = some (.int .i64 m.f0.f3) := (blk_cell BK.out 3).trans rfl; have hz4 : w5.cell? ⟨gb, 4, none⟩ = some (.int .i64 m.f1) := (blk_cell BK.out 4).trans rfl; have hz5 : w5.cell? ⟨gb, 5, none⟩ = some (.int .i64 m.f2) := (blk_cell BK.out 5).trans rfl; have hz6 : w5.cell? ⟨gb, 6, none⟩ = some (.bool m.f3) := (blk_cell BK.out 6).trans rfl; have hg5 := pw_cell_below hb hg1; clear hb hbox hg) | (go_at_fn 18; refine (HG.out _).mono ?_; rintro e w6 ⟨rfl, h6⟩; have HB6 := Aside0.mk (below_step HB5.out h6); have hx6 := pw_cell_below HB6.out hx0; have hg6 := pw_cell_below HB6.out hg1; have hy0 : w6.cell? ⟨gb, 0, none⟩ = some (.int .i64 m.f0.f0) := pw_cell_below h6 hz0; have hy1 : w6.cell? ⟨gb, 1, none⟩ = some (.int .i64 m.f0.f1) := pw_cell_below h6 hz1; have hy2 : w6.cell? ⟨gb, 2, none⟩ = some (.int .i64 m.f0.f2) := pw_cell_below h6 hz2; have hy3 : w6.cell? ⟨gb, 3, none⟩ = some (.int .i64 m.f0.f3) := pw_cell_below h6 hz3; have hy4 : w6.cell? ⟨gb, 4, none⟩ = some (.int .i64 m.f1) := pw_cell_below h6 hz4; have hy5 : w6.cell? ⟨gb, 5, none⟩ = some (.int .i64 m.f2) := pw_cell_below h6 hz5; have hy6 : w6.cell? ⟨gb, 6, none⟩ = some (.bool m.f3) := pw_cell_below h6 hz6; clear h6))
  have hgbg : gb ≠ g := by omega
  have hgbb : gb ≠ b := by omega
  have hgne := HT.out.ne1
  have hz6 := fun q => (HT.out.below HB6.out).row.fz q
  clear hx6 HG hx0
  obtain ⟨hx0, hx1, hx2, hx3, hx4, hx5, hx6, hx7, hx8, hx9, hx10⟩ := rcells (HT.out.below HB6.out).row k hk
  go_region_held3 (fun W => W.cell? ⟨g, 1, none⟩ = some (.slice (some ⟨b, 0, none⟩) P.length cap) ∧ W.cell? ⟨gb, 0, none⟩ = some (.int .i64 m.f0.f0) ∧ W.cell? ⟨gb, 1, none⟩ = some (.int .i64 m.f0.f1) ∧ W.cell? ⟨gb, 2, none⟩ = some (.int .i64 m.f0.f2) ∧ W.cell? ⟨gb, 3, none⟩ = some (.int .i64 m.f0.f3) ∧ W.cell? ⟨gb, 4, none⟩ = some (.int .i64 m.f1)) (refine ⟨?_, ?_, ?_, ?_, ?_, ?_⟩ <;> (repeat (with_reducible first | assumption | refine cellFar ?_ (by assumption) | refine cell_drew ?_))) (fail)
  rename_i hS
  clear hS hx0 hx1 hx2 hx3 hx4 hx5 hx6 hx7 hx8 hx10
  go_wp2_with (go_at_fn 42; refine (HU.out _ HB6.out).mono ?_; rintro e w9 ⟨rfl, P2, h9, m9, t9⟩; have H9 := Aside0.mk h9; have M9 := Aside0.mk m9; have T9 := Aside0.mk t9; clear h9 m9 t9)
  go_ret
  exact ⟨rfl, P2, H9.out, M9.out, (HTN.out _ HB6.out).trans T9.out⟩
end Go.Proofs.YtfimhaodgekkgaaDoor.QTre
namespace Go.Proofs.YtfimhaodgekkgaaDoor.QTre
open Go.RowKit Go.Proofs.YtfimhaodgekkgaaDoorW.PrintWords Go.Proofs.YtfimhaodgekkgaaDoorW.PrintLast Go.Proofs.YtfimhaodgekkgaaDoorW.PrintMore
open Go.Proofs.YtfimhaodgekkgaaDoor.Gen (Own Trn)
open Go.Proofs.YtfimhaodgekkgaaDoor.Pri (FitH roles bestOf role brid conv)
set_option linter.unusedVariables false
set_option linter.unusedSimpArgs false
def rhearF (id now : Int) (Q : List RQ) (i : Int) (m : S38) : Int × List RQ :=
  if (0 ≤ i ∧ i < (Q.length : Int)) ∧ goodB m = true ∧ m.f2 = 2 then
    if (Q.getD i.toNat rq0).up = true then (0, updQ id now ((Q.set i.toNat (hearQ (Q.getD i.toNat rq0) m now)).map heardQ) (Q.set i.toNat (hearQ (Q.getD i.toNat rq0) m now)) Q.length)
    else (7, Q)
  else (1, Q)
theorem dhear_calls (base g b cap ob ocap : Nat) (id : Int) (D : List RP) (change now : Int) (opens : List Bool) (w0 w : World) (hB : Below base w0 w) (hs : base ≤ w.heap.size) (ht : RTre w base g b cap ob ocap id D change opens) (hn : D.length ≤ 100) (hf : ∀ x ∈ D, FitQ x.q) (hT : ∀ (k : Nat) (h : k < D.length), D[k].q.turns.length ≤ 1000) (i : Int) (m : S38) (hm : FitB m) :
    Calls Tryd.prog 27 #[.pointer (some ⟨g, 0, none⟩), .int .i64 i, val38 m, .int .i64 now] w fun e w' => e = .returned (.int .i64 (rhearF id now (QS D) i m).1) ∧ ∃ D2 : List RP, RTre w' base g b cap ob ocap id D2 change opens ∧ QS D2 = (rhearF id now (QS D) i m).2 ∧ Trn base w0 w (RF g b ob D) (RF g b ob D2) w' := by
  have hl : (QS D).length = D.length := List.length_map _
  unfold rhearF
  rw [hl]
  by_cases h : (0 ≤ i ∧ i < (D.length : Int)) ∧ goodB m = true ∧ m.f2 = 2
  · rw [if_pos h]
    obtain ⟨k, rfl⟩ : ∃ k : Nat, i = k := ⟨i.toNat, by omega⟩
    have hk : k < D.length := by omega
    have hk2 : k < (QS D).length := by rw [hl]; exact hk
    rw [Int.toNat_natCast]
    have hg : (QS D).getD k rq0 = D[k].q := by
      rw [List.getD_eq_getElem?_getD, List.getElem?_eq_getElem hk2]
      simp only [Option.getD_some, QS, List.getElem_map]
    rw [hg]
    by_cases hu : D[k].q.up = true
    · rw [if_pos hu]
      refine (rhear_ok base g b cap ob ocap id D change now opens w0 w hB hs ht hn hf hT k hk m hm h.2.1 h.2.2 hu).mono ?_
      rintro e w' ⟨rfl, D2, h1, h2, h3⟩
      refine ⟨rfl, D2, h1, ?_, h3⟩
      rw [listQ_QS] at h2
      have hs2 : QS (D.set k ⟨hearQ D[k].q m now, D[k].v⟩) = (QS D).set k (hearQ D[k].q m now) := by unfold QS; rw [List.map_set]
      rw [hs2] at h2
      have h4 : (D.set k ⟨hearQ D[k].q m now, D[k].v⟩).map (·.q) = (QS D).set k (hearQ D[k].q m now) := hs2
      rw [h4] at h2
      exact h2
    · rw [if_neg hu]
      refine (rhear_down base g b cap ob ocap id D change now opens w ht k hk m hm h.2.1 h.2.2 (by simpa using hu)).mono ?_
      rintro e w' ⟨rfl, hb⟩
      exact ⟨rfl, D, ht.below hb, rfl, Trn.of_below hB hs hb⟩
  · rw [if_neg h]
    refine (rhear_bad base g b cap ob ocap id D change now opens w ht i m hm ?_).mono ?_
    · by_cases h1 : 0 ≤ i ∧ i < (D.length : Int)
      · rcases Bool.eq_false_or_eq_true (goodB m) with h2 | h2
        · exact .inr (.inr fun e => h ⟨h1, h2, e⟩)
        · exact .inr (.inl h2)
      · exact .inl h1
    · rintro e w' ⟨rfl, hb⟩
      exact ⟨rfl, D, ht.below hb, rfl, Trn.of_below hB hs hb⟩
section
variable {P : List S84} {Q : List RQ}
theorem smP_hear {p : S84} {q : RQ} (h : SmP p q) (m : S38) (now : Int) : SmP (hearP p m now) (hearQ q m now) := by
  obtain ⟨e0, e1, e2, e3, e4⟩ := h
  exact ⟨e0, e1, rfl, rfl, e4⟩
theorem Sm.hearF (h : Sm P Q) (id now : Int) (best : S36) (root i : Int) (m : S38) : (QTre.hearF id now P best root i m).code = (rhearF id now Q i m).1 ∧ Sm (QTre.hearF id now P best root i m).ports (rhearF id now Q i m).2 := by
  unfold QTre.hearF rhearF
  rw [← h.len]
  by_cases hv : (0 ≤ i ∧ i < (P.length : Int)) ∧ goodB m = true ∧ m.f2 = 2
  · rw [if_pos hv, if_pos hv]
    have h0 := h.getD i.toNat (by omega)
    rw [h0.1]
    by_cases hu : (Q.getD i.toNat rq0).up = true
    · rw [if_pos hu, if_pos hu]
      have h2 := h.set i.toNat _ _ (smP_hear h0 m now)
      have h3 := h2.upd id now
      rw [List.length_set, ← h.len] at h3
      exact ⟨rfl, h3⟩
    · rw [if_neg hu, if_neg hu]
      exact ⟨rfl, h⟩
  · rw [if_neg hv, if_neg hv]
    exact ⟨rfl, h⟩
theorem InvQ.hear {n i : Nat} (h : InvQ n i Q) (id now p : Int) (m : S38) (hm : FitB m) : InvQ n (i + 1) (rhearF id now Q p m).2 := by
  unfold rhearF
  by_cases hv : (0 ≤ p ∧ p < (Q.length : Int)) ∧ goodB m = true ∧ m.f2 = 2
  · rw [if_pos hv]
    by_cases hu : (Q.getD p.toNat rq0).up = true
    · rw [if_pos hu]
      have hmm := getDQ_mem (Q := Q) (k := p.toNat) (by omega)
      have h2 := (h.put p.toNat (hearQ (Q.getD p.toNat rq0) m now) ⟨hm.1, hm.2.1, (h.fit _ hmm).2.2⟩ (show (Q.getD p.toNat rq0).turns.length ≤ i from h.turns _ hmm)).upd id now ((Q.set p.toNat (hearQ (Q.getD p.toNat rq0) m now)).map heardQ)
      rw [List.length_set] at h2
      exact h2
    · rw [if_neg hu]; exact h.more (by omega)
  · rw [if_neg hv]; exact h.more (by omega)
theorem bst_setF {id root : Int} {best : S36} (h : bst id P = (best, root)) (now i : Int) (up : Bool) (cost : Int) : bst id (setF id now P best root i up cost).ports = ((setF id now P best root i up cost).best, (setF id now P best root i up cost).root) := by
  unfold setF
  split
  · dsimp only
    rw [bst_upd]
  · exact h
theorem bst_hearF {id root : Int} {best : S36} (h : bst id P = (best, root)) (now i : Int) (m : S38) : bst id (hearF id now P best root i m).ports = ((hearF id now P best root i m).best, (hearF id now P best root i m).root) := by
  unfold hearF
  split
  · split
    · dsimp only
      rw [bst_upd]
    · exact h
  · exact h
abbrev opn (P : List S84) : List Bool := P.map (·.f4.f2)
theorem setR_opn (p : S82) (r now : Int) : (setR p r now).2.f2 = p.f2 := by
  unfold setR
  repeat' split
  all_goals rfl
theorem opn_upd (id now : Int) (P : List S84) : opn (upd id now P) = opn P := by
  apply List.ext_getElem
  · rw [List.length_map, List.length_map, updN_len]
  · intro k h1 h2
    rw [List.getElem_map, List.getElem_map, updN_at]
    split
    · exact setR_opn _ _ _
    · rfl
theorem opn_put (P : List S84) (k : Nat) (x : S84) (hk : k < P.length) (hx : x.f4.f2 = (P.getD k port0).f4.f2) : opn (P.set k x) = opn P := by
  unfold opn
  rw [List.map_set, hx, getD_lt hk]
  apply List.ext_getElem
  · rw [List.length_set]
  · intro i h1 h2
    rw [List.getElem_set]
    split
    · rename_i e; subst e; rw [List.getElem_map]
    · rfl
theorem opn_setF (id now : Int) (P : List S84) (best : S36) (root i : Int) (up : Bool) (cost : Int) : opn (setF id now P best root i up cost).ports = opn P := by
  unfold setF
  split
  · rename_i h
    dsimp only
    rw [opn_upd, opn_put _ _ _ (by omega) (by unfold setP; rfl)]
  · rfl
theorem opn_hearF (id now : Int) (P : List S84) (best : S36) (root i : Int) (m : S38) : opn (hearF id now P best root i m).ports = opn P := by
  unfold hearF
  split
  · rename_i h
    split
    · dsimp only
      rw [opn_upd]
      exact opn_put P i.toNat _ (by omega) rfl
    · rfl
  · rfl
theorem opn_fgt (now : Int) (P : List S84) : opn (tk1 now P) = opn P := by
  unfold opn tk1
  rw [List.map_map]
  apply List.map_congr_left
  intro p _
  show (fgtP now p).f4.f2 = p.f4.f2
  unfold fgtP
  split <;> rfl
theorem smP_fgt {p : S84} {q : RQ} (h : SmP p q) (now : Int) : SmP (fgtP now p) (fgtQ now q) := by
  obtain ⟨e0, e1, e2, e3, e4⟩ := h
  unfold fgtP fgtQ
  rw [e3]
  split
  · exact ⟨e0, e1, rfl, rfl, e4⟩
  · exact ⟨e0, e1, e2, e3, e4⟩
theorem Sm.fgt (h : Sm P Q) (now : Int) : Sm (tk1 now P) (tkQ1 now Q) := by
  refine ⟨by rw [List.length_map, List.length_map]; exact h.len, fun k h1 h2 => ?_⟩
  rw [List.length_map] at h1 h2
  rw [List.getElem_map, List.getElem_map]
  exact smP_fgt (h.each k h1 h2) now
theorem Sm.tk (h : Sm P Q) (id now : Int) : Sm (QTre.upd id now (tk1 now P)) (tkQ id now Q) := by
  have := (h.fgt now).upd id now
  rw [List.length_map (f := fgtQ now)] at this
  exact this
theorem Sm.tick (h : Sm P Q) (id now : Int) : Sm (tickP id now P) (tkQ id now Q) := by
  have h2 := h.tk id now
  refine ⟨by rw [List.length_map]; exact h2.len, fun k h1 h3 => ?_⟩
  rw [List.length_map] at h1
  rw [List.getElem_map]
  exact h2.each k h1 h3
theorem Sm.st (h : Sm P Q) (now : Int) (k : Nat) (h1 : k < P.length) (h2 : k < Q.length) : stateR P[k].f4 now = stT (lastTn Q[k].turns) now := by
  rw [← (h.each k h1 h2).2.2.2.2]
  rfl
theorem opn_tick (h : Sm P Q) (id now : Int) : opn (tickP id now P) = rtS id now Q := by
  have h2 := h.tk id now
  apply List.ext_getElem
  · rw [List.length_map, List.length_map, List.length_map]; exact h2.len
  · intro k h1 h3
    rw [List.length_map, List.length_map] at h1
    rw [List.length_map] at h3
    rw [List.getElem_map, List.getElem_map, List.getElem_map]
    show (stateR _ now == 2) = (stT _ now == 2)
    rw [h2.st now k h1 h3]
theorem chg_any (now change : Int) (S O : List Bool) : ∀ j, chgF now change S O j = if ((List.range j).any fun k => S.getD k false != O.getD k false) = true then now + 4 else change
  | 0 => rfl
  | j + 1 => by
    rw [List.range_succ, List.any_append]
    unfold chgF
    rw [chg_any now change S O j]
    have e : ([j].any fun k => S.getD k false != O.getD k false) = (S.getD j false != O.getD j false) := by
      rw [List.any_cons, List.any_nil, Bool.or_false]
    rw [e]
    generalize (S.getD j false != O.getD j false) = x
    generalize ((List.range j).any fun k => S.getD k false != O.getD k false) = y
    cases x <;> cases y <;> rfl
theorem tickC_eq (h : Sm P Q) (id now change : Int) : tickC id now P change = rtC id now change Q (opn P) := by
  have h2 := h.tk id now
  unfold tickC rtC
  rw [chg_any]
  have e : (upd id now (tk1 now P)).any (opnB now) = (List.range Q.length).any fun k => (rtS id now Q).getD k false != (opn P).getD k false := by
    have hl : (upd id now (tk1 now P)).length = Q.length := by rw [updN_len, List.length_map]; exact h.len
    have ho : opn (upd id now (tk1 now P)) = opn P := by rw [opn_upd, opn_fgt]
    have key : ∀ (k : Nat) (hk : k < (upd id now (tk1 now P)).length), opnB now (upd id now (tk1 now P))[k] = ((rtS id now Q).getD k false != (opn P).getD k false) := by
      intro k hk
      have hk2 : k < (tkQ id now Q).length := by rw [← h2.len]; exact hk
      have e1 : (rtS id now Q).getD k false = (stateR (upd id now (tk1 now P))[k].f4 now == 2) := by
        rw [List.getD_eq_getElem?_getD, List.getElem?_eq_getElem (by rw [List.length_map]; exact hk2), Option.getD_some, List.getElem_map, h2.st now k hk hk2]
      have e2 : (opn P).getD k false = (upd id now (tk1 now P))[k].f4.f2 := by
        rw [← ho, List.getD_eq_getElem?_getD, List.getElem?_eq_getElem (by rw [List.length_map]; exact hk), Option.getD_some, List.getElem_map]
      rw [e1, e2]
      rfl
    rw [Bool.eq_iff_iff, List.any_eq_true, List.any_eq_true]
    constructor
    · rintro ⟨x, hx, hb⟩
      obtain ⟨k, hk, rfl⟩ := List.mem_iff_getElem.1 hx
      exact ⟨k, List.mem_range.2 (by rw [← hl]; exact hk), by rw [← key k hk]; exact hb⟩
    · rintro ⟨k, hk, hb⟩
      have hk := List.mem_range.1 hk
      have hk2 : k < (upd id now (tk1 now P)).length := by rw [hl]; exact hk
      exact ⟨_, List.getElem_mem hk2, by rw [key k hk2]; exact hb⟩
  rw [e]
theorem Sm.tail {p : S84} {q : RQ} (h : Sm (p :: P) (q :: Q)) : SmP p q ∧ Sm P Q := by
  refine ⟨h.each 0 (by simp) (by simp), ⟨by have := h.len; simpa using this, fun k h1 h2 => ?_⟩⟩
  have := h.each (k + 1) (by simpa using h1) (by simpa using h2)
  simpa using this
end
theorem say_eq (v : S36) (id age : Int) (c : Bool) : ∀ (P : List S84) (Q : List RQ) (j : Nat), Sm P Q → saidFrom v id age c j P = rsayF v id age c j Q
  | [], [], j, h => rfl
  | [], q :: Q, j, h => by have := h.len; simp at this
  | p :: P, [], j, h => by have := h.len; simp at this
  | p :: P, q :: Q, j, h => by
    obtain ⟨h1, h2⟩ := h.tail
    have e : p.f4.f0 = (lastTn q.turns).1 := by rw [← h1.2.2.2.2]
    rw [saidFrom_cons]
    simp only [rsayF]
    rw [e, say_eq v id age c P Q (j + 1) h2]
theorem age_eq {P : List S84} {D : List RP} (h : Sm P (QS D)) (root : Int) : ageR P root = ageQ D root := by
  unfold ageR ageQ
  by_cases hr : root < 0
  · rw [if_pos hr, if_pos hr]
  · rw [if_neg hr, if_neg hr]
    have hl := h.len
    rw [List.length_map] at hl
    by_cases hk : root.toNat < P.length
    · have h2 := h.each root.toNat hk (by rw [List.length_map]; omega)
      rw [getD_lt hk, List.getD_eq_getElem?_getD, List.getElem?_eq_getElem (by omega : root.toNat < D.length), Option.getD_some, h2.2.2.1]
      simp [QS]
    · rw [getD_ge hk, List.getD_eq_getElem?_getD, List.getElem?_eq_none (by omega)]
      rfl
theorem bst_eq {P : List S84} {D : List RP} (h : Sm P (QS D)) (id : Int) : bst id P = bestOf id (listQ D) := by
  unfold bst
  rw [h.list, listQ_QS]
theorem tickL_eq {P : List S84} {Q : List RQ} {P2 : List RP} (h : Sm P Q) (id now change : Int) (h2 : QS P2 = tkQ id now Q) : tickL id now P change = rtL id now change Q (opn P) P2 := by
  have ht : Sm (tickP id now P) (QS P2) := by rw [h2]; exact h.tick id now
  have eb : tickB id now P = bestOf id (listQ P2) := by rw [← bst_eq ht, bst_tick]
  unfold tickL rtL
  rw [eb, age_eq ht, tickC_eq h, say_eq _ _ _ _ _ _ 0 ht]
structure Sim (id : Int) (n i : Nat) (now : Int) (P : List S84) (best : S36) (root : Int) (D : List RP) : Prop where
  invF : InvF id n now P best root
  invQ : InvQ n i (QS D)
  sm : Sm P (QS D)
  bst : bst id P = (best, root)
theorem Sim.dlen {id : Int} {n i : Nat} {now : Int} {P : List S84} {best : S36} {root : Int} {D : List RP} (h : Sim id n i now P best root D) : D.length = P.length := by
  have := h.sm.len
  rw [List.length_map] at this
  exact this.symm
theorem Sim.at_ {id : Int} {n i : Nat} {now : Int} {P : List S84} {best : S36} {root : Int} {D : List RP} (h : Sim id n i now P best root D) : AtQ now (QS D) := by
  intro x hx
  obtain ⟨k, hk, rfl⟩ := List.mem_iff_getElem.1 hx
  have hk2 : k < P.length := by rw [h.sm.len]; exact hk
  rw [← (h.sm.each k hk2 hk).2.2.2.2]
  have := h.invF.at_ _ (List.getElem_mem hk2)
  exact ⟨this.2.2.1, this.2.2.2⟩
theorem Sim.role {id : Int} {n i : Nat} {now : Int} {P : List S84} {best : S36} {root : Int} {D : List RP} (h : Sim id n i now P best root D) (k : Nat) (hk : k < D.length) : roleAt P (k : Int) = (lastTn D[k].q.turns).1 := by
  have hk2 : k < P.length := by rw [← h.dlen]; exact hk
  have h2 := h.sm.each k hk2 (by rw [List.length_map]; exact hk)
  unfold roleAt
  rw [if_pos (by omega), Int.toNat_natCast, getD_lt hk2]
  have := congrArg (·.1) h2.2.2.2.2
  simpa [QS] using this
theorem Sim.state {id : Int} {n i : Nat} {now : Int} {P : List S84} {best : S36} {root : Int} {D : List RP} (h : Sim id n i now P best root D) (k : Nat) (hk : k < D.length) (t : Int) : stateAt P (k : Int) t = stT (lastTn D[k].q.turns) t := by
  have hk2 : k < P.length := by rw [← h.dlen]; exact hk
  have h2 := h.sm.st t k hk2 (by rw [List.length_map]; exact hk)
  unfold stateAt
  rw [if_pos (by omega), Int.toNat_natCast, getD_lt hk2, h2]
  simp [QS]
theorem Sim.new (id : Int) (n : Nat) : Sim id n 0 0 (List.replicate n port0) ⟨id, 0, id, 0⟩ (-1) (List.replicate n rp0) := by
  refine ⟨InvF.new, InvQ.new n, ⟨by simp [QS], fun k h1 h2 => ?_⟩, ?_⟩
  · rw [List.getElem_replicate]
    have e : (QS (List.replicate n rp0))[k] = rq0 := by simp [QS]; rfl
    rw [e]
    exact ⟨rfl, rfl, rfl, rfl, rfl⟩
  · exact none_bst (fun p hp => by rw [List.eq_of_mem_replicate hp]; rfl) id
end Go.Proofs.YtfimhaodgekkgaaDoor.QTre
