/- Functions of the program as plain Lean functions, what their calls do, and what follows of it. Conditions: each theorem's own. -/
import Derived.Test.YtfimhaodgekkgaaDoorCTreeForgets4
import Derived.Test.YtfimhaodgekkgaaDoorCards
import Derived.Test.YtfimhaodgekkgaaDoorProg
import Derived.Test.YtfimhaodgekkgaaDoorRows
import Derived.Test.YtfimhaodgekkgaaDoorTie
namespace Go.Proofs.YtfimhaodgekkgaaDoor.QTre
open Go.RowKit Go.Proofs.YtfimhaodgekkgaaDoorW.PrintWords Go.Proofs.YtfimhaodgekkgaaDoorW.PrintLast Go.Proofs.YtfimhaodgekkgaaDoorW.PrintMore
open Go.Proofs.YtfimhaodgekkgaaDoor.Gen (Own Trn)
open Go.Proofs.YtfimhaodgekkgaaDoor.Pri (FitH roles bestOf role brid)
set_option linter.unusedVariables false
set_option linter.unusedSimpArgs false
def FitSt (s : S40) : Prop := Pri.Fit s.f1 ∧ Pri.Fit s.f3 ∧ FitB s.f4
abbrev Dj (g b g2 b2 ob2 : Nat) (D : List RP) : Prop := ∀ q, RF g2 b2 ob2 D q → ¬ TF g b q
theorem RTre.over {w W : World} {base base' g b g2 b2 cap2 ob2 ocap2 : Nat} {w0 : World} {id change : Int} {D : List RP} {opens : List Bool} (h : RTre w base g2 b2 cap2 ob2 ocap2 id D change opens) (a : Trn base' w0 w (TF g b) (TF g b) W) (hd : Dj g b g2 b2 ob2 D) : RTre W base g2 b2 cap2 ob2 ocap2 id D change opens := h.kept a.kept hd
theorem Tre.over {w W : World} {base base' g b cap g2 b2 ob2 : Nat} {w0 : World} {id root change : Int} {P : List S84} {best : S36} {D D2 : List RP} (h : Tre w base g b cap id P best root change) (a : Trn base' w0 w (RF g2 b2 ob2 D) (RF g2 b2 ob2 D2) W) (hd : Dj g b g2 b2 ob2 D) : Tre W base g b cap id P best root change :=
  h.kept a.kept (fun e => hd g e (.inl rfl)) (fun e => hd b e (.inr rfl))
theorem Dj.over {w W : World} {base base' g b cap g2 b2 ob2 : Nat} {w0 : World} {id root change : Int} {P : List S84} {best : S36} {D D2 : List RP} (hd : Dj g b g2 b2 ob2 D) (h : Tre w base g b cap id P best root change) (a : Trn base' w0 w (RF g2 b2 ob2 D) (RF g2 b2 ob2 D2) W) : Dj g b g2 b2 ob2 D2 := by
  intro q hq ht
  rcases a.own q hq with e | e
  · exact hd q e ht
  · have h1 := h.lt
    have h2 := h.row.lt
    rcases ht with rfl | rfl <;> omega
set_option maxHeartbeats 8000000 in
set_option maxRecDepth 100000 in
theorem forg_true (A : Option Addr) (c : Nat) (l : List S40) (id n : Int) (w : World) (hng : NG w) (h0 : 0 < w.heap.size) (hr : Kd.C k40 w A l.length l) (hc : l.length ≤ c) (hm : l.length ≤ maxLen) (hid : Pri.Fit id) (h : greatB l = true ∨ brid id = false ∨ n < 1 ∨ 6 < n) :
    Calls Tryd.prog 5 #[.int .i64 id, .int .i64 n, .slice A l.length c] w fun e w' => e = .returned (.bool true) ∧ Below w.heap.size w w' := by
  have e7 : ∀ args w, (callFunc 7 args).run Tryd.prog w = .ok (.enter 7 args) w := enters_of Tryd.func7 (by kernel_rfl) rfl
  have e12 : ∀ args w, (callFunc 12 args).run Tryd.prog w = .ok (.enter 12 args) w := enters_of Tryd.func12 (by kernel_rfl) rfl
  have e13 : ∀ args w, (callFunc 13 args).run Tryd.prog w = .ok (.enter 13 args) w := enters_of Tryd.func13 (by kernel_rfl) rfl
  have HAL := Aside0.mk (alive_calls w hng h0)
  have HGR := Aside0.mk (fun (W : World) (hb : Below w.heap.size w W) => great_calls A c l W (Kd.C_below hr hb) hc hm)
  have HBR := Aside0.mk (fun W => rbridge_calls id hid W)
  have key : greatB l = true ∨ (greatB l = false ∧ brid id = false) ∨ (greatB l = false ∧ brid id = true ∧ n < 1) ∨ (greatB l = false ∧ brid id = true ∧ ¬ n < 1 ∧ 6 < n) := by
    rcases Bool.eq_false_or_eq_true (greatB l) with h1 | h1
    · exact .inl h1
    · rcases Bool.eq_false_or_eq_true (brid id) with h2 | h2
      · rw [h1, h2] at h
        by_cases h3 : n < 1
        · exact .inr (.inr (.inl ⟨h1, h2, h3⟩))
        · refine .inr (.inr (.inr ⟨h1, h2, h3, ?_⟩))
          rcases h with h | h | h | h
          · cases h
          · cases h
          · exact absurd h h3
          · exact h
      · exact .inr (.inl ⟨h1, h2⟩)
  clear h hr hid hng h0
  rcases key with h1 | ⟨h1, h2⟩ | ⟨h1, h2, h3⟩ | ⟨h1, h2, h3, h4⟩
  · rw [h1] at HGR
    clear h1
    go_enter Tryd.func5, Tryd.ntmps5
    go_wp2_with (first
      | (go_at_fn 7; refine HAL.out.mono ?_; rintro e w1 ⟨rfl, hb1⟩; have HB1 := Aside0.mk hb1; clear hb1)
      | (go_at_fn 12; refine (HGR.out w1 HB1.out).mono ?_; rintro e w2 ⟨rfl, hb2⟩; have HB2 := Aside0.mk (below_step HB1.out hb2); clear hb2))
    go_ret
    exact ⟨rfl, HB2.out⟩
  all_goals
    rw [h1] at HGR
    rw [h2] at HBR
    clear h1 h2
    go_enter Tryd.func5, Tryd.ntmps5
    go_wp2_with (first
      | (go_at_fn 7; refine HAL.out.mono ?_; rintro e w1 ⟨rfl, hb1⟩; have HB1 := Aside0.mk hb1; clear hb1)
      | (go_at_fn 12; refine (HGR.out w1 HB1.out).mono ?_; rintro e w2 ⟨rfl, hb2⟩; have HB2 := Aside0.mk (below_step HB1.out hb2); clear hb2)
      | (go_at_fn 13; refine (HBR.out _).mono ?_; rintro e w3 ⟨rfl, hb3⟩; have HB3 := Aside0.mk (below_step HB2.out hb3); clear hb3))
    go_ret
    exact ⟨rfl, HB3.out⟩
set_option maxHeartbeats 16000000 in
set_option maxRecDepth 100000 in
theorem forg_walk (A : Option Addr) (c : Nat) (l : List S40) (id : Int) (n : Nat) (w : World) (hng : NG w) (h0 : 0 < w.heap.size) (hr : Kd.C k40 w A l.length l) (hc : l.length ≤ c) (hid : Pri.Fit id) (hfs : ∀ s ∈ l, FitSt s) (hg : greatB l = false) (hb : brid id = true) (hn1 : 1 ≤ n) (hn6 : n ≤ 6) :
    Calls Tryd.prog 5 #[.int .i64 id, .int .i64 n, .slice A l.length c] w fun e w' => e = .returned (.bool true) ∧ Below w.heap.size w w' := by
  have e7 : ∀ args w, (callFunc 7 args).run Tryd.prog w = .ok (.enter 7 args) w := enters_of Tryd.func7 (by kernel_rfl) rfl
  have e12 : ∀ args w, (callFunc 12 args).run Tryd.prog w = .ok (.enter 12 args) w := enters_of Tryd.func12 (by kernel_rfl) rfl
  have e13 : ∀ args w, (callFunc 13 args).run Tryd.prog w = .ok (.enter 13 args) w := enters_of Tryd.func13 (by kernel_rfl) rfl
  have e14 : ∀ args w, (callFunc 14 args).run Tryd.prog w = .ok (.enter 14 args) w := enters_of Tryd.func14 (by kernel_rfl) rfl
  have e15 : ∀ args w, (callFunc 15 args).run Tryd.prog w = .ok (.enter 15 args) w := enters_of Tryd.func15 (by kernel_rfl) rfl
  have e16 : ∀ args w, (callFunc 16 args).run Tryd.prog w = .ok (.enter 16 args) w := enters_of Tryd.func16 (by kernel_rfl) rfl
  have e17 : ∀ args w, (callFunc 17 args).run Tryd.prog w = .ok (.enter 17 args) w := enters_of Tryd.func17 (by kernel_rfl) rfl
  have e19 : ∀ args w, (callFunc 19 args).run Tryd.prog w = .ok (.enter 19 args) w := enters_of Tryd.func19 (by kernel_rfl) rfl
  have e20 : ∀ args w, (callFunc 20 args).run Tryd.prog w = .ok (.enter 20 args) w := enters_of Tryd.func20 (by kernel_rfl) rfl
  have e21 : ∀ args w, (callFunc 21 args).run Tryd.prog w = .ok (.enter 21 args) w := enters_of Tryd.func21 (by kernel_rfl) rfl
  have e22 : ∀ args w, (callFunc 22 args).run Tryd.prog w = .ok (.enter 22 args) w := enters_of Tryd.func22 (by kernel_rfl) rfl
  have e23 : ∀ args w, (callFunc 23 args).run Tryd.prog w = .ok (.enter 23 args) w := enters_of Tryd.func23 (by kernel_rfl) rfl
  have e24 : ∀ args w, (callFunc 24 args).run Tryd.prog w = .ok (.enter 24 args) w := enters_of Tryd.func24 (by kernel_rfl) rfl
  have hu36 := Tryd.underlying36
  have hu38 := Tryd.underlying38
  have hu40 := Tryd.underlying40
  have hu62 := Tryd.underlying62
  obtain ⟨hl1, hwt⟩ := great_no hg
  have HAL := Aside0.mk (alive_calls w hng h0)
  have HGR := Aside0.mk (fun (W : World) (hb : Below w.heap.size w W) => great_calls A c l W (Kd.C_below hr hb) hc (by unfold maxLen; omega))
  have HBR := Aside0.mk (fun W => rbridge_calls id hid W)
  rw [hg] at HGR
  rw [hb] at HBR
  have HNG := Aside0.mk hng
  have HZ := Aside0.mk h0
  have HNW := Aside0.mk (fun (W : World) (hb' : Below w.heap.size w W) => new_ok id n hid hb hn1 hn6 W (hng.below hb' h0) (Nat.lt_of_lt_of_le h0 hb'.size))
  have HRN := Aside0.mk (fun W => rnew_calls id n hn1 hn6 W)
  have hz1 : ¬ (n : Int) < 1 := by omega
  have hz6 : ¬ 6 < (n : Int) := by omega
  have HR := Aside0.mk hr
  have HFS := Aside0.mk hfs
  have HWT := Aside0.mk hwt
  have HN6 := Aside0.mk hn6
  have HN1 := Aside0.mk hn1
  clear hr hng h0 hg hb hid hfs hwt hn1 hn6
  go_enter Tryd.func5, Tryd.ntmps5
  go_wp2_with (first
    | (go_at_fn 7; refine HAL.out.mono ?_; rintro e w1 ⟨rfl, hb1⟩; have HB1 := Aside0.mk hb1; clear hb1)
    | (go_at_fn 12; refine (HGR.out w1 HB1.out).mono ?_; rintro e w2 ⟨rfl, hb2⟩; have HB2 := Aside0.mk (below_step HB1.out hb2); clear hb2)
    | (go_at_fn 13; refine (HBR.out _).mono ?_; rintro e w3 ⟨rfl, hb3⟩; have HB3 := Aside0.mk (below_step HB2.out hb3); clear hb3)
    | (go_at_fn 14; refine (HNW.out w3 HB3.out).mono ?_; rintro e w4 ⟨g, b, cap, rfl, ht4, hb4⟩; have HT4 := Aside0.mk (ht4.lower HB3.out.size); have HB4 := Aside0.mk (below_step HB3.out hb4); clear ht4 hb4)
    | (go_at_fn 22; refine (HRN.out w4).mono ?_; rintro e w5 ⟨g2, b2, cap2, ob2, ocap2, rfl, ht5, hb5⟩; have HT5 := Aside0.mk (HT4.out.below hb5); have HR5 := Aside0.mk (ht5.lower HB4.out.size); have HDJ5 := Aside0.mk (show Dj g b g2 b2 ob2 (List.replicate n rp0) from fun q hq htf => by have h1 := ht5.low_all q hq; have h2 := HT4.out.lt; have h3 := HT4.out.row.lt; rcases htf with rfl | rfl <;> omega); have HB5 := Aside0.mk (below_step HB4.out hb5); clear ht5 hb5))
  go_loopg [9, 41] l.length (fun gk s9 s41 wr => ∃ (i : Nat) (now : Int) (P : List S84) (best : S36) (root change : Int) (D : List RP), s41 = .int .i64 i ∧ s9 = .int .i64 now ∧ i ≤ l.length ∧ l.length - i ≤ gk ∧ 0 ≤ now ∧ now ≤ i * 1000 ∧ Aside0 (Tre wr w.heap.size g b cap id P best root change) ∧ Aside0 (RTre wr w.heap.size g2 b2 cap2 ob2 ocap2 id D (-1) (List.replicate n false)) ∧ Aside0 (InvF id n now P best root) ∧ Aside0 (InvQ n i (QS D)) ∧ Aside0 (P.map (·.f0) = (QS D).map (·.up)) ∧ Aside0 (Dj g b g2 b2 ob2 D) ∧ Aside0 (Below w.heap.size w wr))
  case atStart => exact ⟨0, 0, _, _, _, _, _, rfl, rfl, Nat.zero_le _, by omega, by omega, by omega, HT5, HR5, ⟨InvF.new⟩, ⟨InvQ.new n⟩, ⟨by unfold QS; rw [List.map_replicate, List.map_replicate, List.map_replicate]; rfl⟩, HDJ5, HB5⟩
  case round =>
    obtain ⟨i, now, P, best, root, change, D, rfl, rfl, hil, hgk, hw0, hw1, HT, HRT, HI, HQ, HU, HDJ, HB⟩ := hrel
    by_cases hlt : i < l.length
    · have hlz : (i : Int) < (l.length : Int) := by omega
      obtain ⟨ad, ea, hx0, hx1, hx2, hx3, hx4, hx5, hx6, hx7, hx8, hx9, hx10, hx11⟩ := at_T40 (Kd.C_below HR.out HB.out) (i : Int) (by omega) hlz
      rw [rd40 hlt, Int.toNat_natCast] at hx0 hx1 hx2 hx3 hx4 hx5 hx6 hx7 hx8 hx9 hx10 hx11
      subst ea
      have hfx := HFS.out _ (List.getElem_mem hlt)
      have hwx := HWT.out _ (List.getElem_mem hlt)
      generalize l[i] = x at *
      obtain ⟨x0, x1, x2, x3, ⟨⟨y0, y1, y2, y3⟩, y4, y5, y6⟩, x5⟩ := x
      dsimp only at hx0 hx1 hx2 hx3 hx4 hx5 hx6 hx7 hx8 hx9 hx10 hx11 hwx
      have HFX := Aside0.mk hfx
      clear hfx
      go_upto_region 10 with ((with_reducible refine gate_dst (N := 11) rfl ?_); refine box_event ?hg (N := 11) ?hd (cs := #[.int .i64 0, .int .i64 0, .bool false, .int .i64 0, .int .i64 0, .int .i64 0, .int .i64 0, .int .i64 0, .int .i64 0, .int .i64 0, .bool false, .int .i64 0]) (t := 40) ?hr ?_; (case hd => rfl); (case hg => rfl); (case hr => first | (go_simp; done) | (go_simp; rfl)); intro cb hg w4 hbox hb; have hcz0 : w4.cell? ⟨cb, 0, none⟩ = some (.int .i64 0) := (blk_cell hbox 0).trans rfl; have hfz0 := blk_frozen hbox 0; have hcz1 : w4.cell? ⟨cb, 1, none⟩ = some (.int .i64 0) := (blk_cell hbox 1).trans rfl; have hfz1 := blk_frozen hbox 1; have hcz2 : w4.cell? ⟨cb, 2, none⟩ = some (.bool false) := (blk_cell hbox 2).trans rfl; have hfz2 := blk_frozen hbox 2; have hcz3 : w4.cell? ⟨cb, 3, none⟩ = some (.int .i64 0) := (blk_cell hbox 3).trans rfl; have hfz3 := blk_frozen hbox 3; have hcz4 : w4.cell? ⟨cb, 4, none⟩ = some (.int .i64 0) := (blk_cell hbox 4).trans rfl; have hfz4 := blk_frozen hbox 4; have hcz5 : w4.cell? ⟨cb, 5, none⟩ = some (.int .i64 0) := (blk_cell hbox 5).trans rfl; have hfz5 := blk_frozen hbox 5; have hcz6 : w4.cell? ⟨cb, 6, none⟩ = some (.int .i64 0) := (blk_cell hbox 6).trans rfl; have hfz6 := blk_frozen hbox 6; have hcz7 : w4.cell? ⟨cb, 7, none⟩ = some (.int .i64 0) := (blk_cell hbox 7).trans rfl; have hfz7 := blk_frozen hbox 7; have hcz8 : w4.cell? ⟨cb, 8, none⟩ = some (.int .i64 0) := (blk_cell hbox 8).trans rfl; have hfz8 := blk_frozen hbox 8; have hcz9 : w4.cell? ⟨cb, 9, none⟩ = some (.int .i64 0) := (blk_cell hbox 9).trans rfl; have hfz9 := blk_frozen hbox 9; have hcz10 : w4.cell? ⟨cb, 10, none⟩ = some (.bool false) := (blk_cell hbox 10).trans rfl; have hfz10 := blk_frozen hbox 10; have hcz11 : w4.cell? ⟨cb, 11, none⟩ = some (.int .i64 0) := (blk_cell hbox 11).trans rfl; have hfz11 := blk_frozen hbox 11; have BX := Aside0.mk hbox; have KX := Aside0.mk hb; have HGB := Aside0.mk hg; clear hbox hb hg)
      have B5 : Below wr.heap.size wr ((((((((((((w4.setCell ⟨cb, 0, none⟩ (.int .i64 x0)).setCell ⟨cb, 1, none⟩ (.int .i64 x1)).setCell ⟨cb, 2, none⟩ (.bool x2)).setCell ⟨cb, 3, none⟩ (.int .i64 x3)).setCell ⟨cb, 4, none⟩ (.int .i64 y0)).setCell ⟨cb, 5, none⟩ (.int .i64 y1)).setCell ⟨cb, 6, none⟩ (.int .i64 y2)).setCell ⟨cb, 7, none⟩ (.int .i64 y3)).setCell ⟨cb, 8, none⟩ (.int .i64 y4)).setCell ⟨cb, 9, none⟩ (.int .i64 y5)).setCell ⟨cb, 10, none⟩ (.bool y6)).setCell ⟨cb, 11, none⟩ (.int .i64 x5)) := lay40_bel (.int .i64 x0) (.int .i64 x1) (.bool x2) (.int .i64 x3) (.int .i64 y0) (.int .i64 y1) (.int .i64 y2) (.int .i64 y3) (.int .i64 y4) (.int .i64 y5) (.bool y6) (.int .i64 x5) KX.out (Nat.le_of_eq HGB.out.symm)
      have X5 : ((((((((((((w4.setCell ⟨cb, 0, none⟩ (.int .i64 x0)).setCell ⟨cb, 1, none⟩ (.int .i64 x1)).setCell ⟨cb, 2, none⟩ (.bool x2)).setCell ⟨cb, 3, none⟩ (.int .i64 x3)).setCell ⟨cb, 4, none⟩ (.int .i64 y0)).setCell ⟨cb, 5, none⟩ (.int .i64 y1)).setCell ⟨cb, 6, none⟩ (.int .i64 y2)).setCell ⟨cb, 7, none⟩ (.int .i64 y3)).setCell ⟨cb, 8, none⟩ (.int .i64 y4)).setCell ⟨cb, 9, none⟩ (.int .i64 y5)).setCell ⟨cb, 10, none⟩ (.bool y6)).setCell ⟨cb, 11, none⟩ (.int .i64 x5)).heap[cb]? = some (.cells #[.int .i64 x0, .int .i64 x1, .bool x2, .int .i64 x3, .int .i64 y0, .int .i64 y1, .int .i64 y2, .int .i64 y3, .int .i64 y4, .int .i64 y5, .bool y6, .int .i64 x5] 40 (0, 0)) := lay40_blk (.int .i64 x0) (.int .i64 x1) (.bool x2) (.int .i64 x3) (.int .i64 y0) (.int .i64 y1) (.int .i64 y2) (.int .i64 y3) (.int .i64 y4) (.int .i64 y5) (.bool y6) (.int .i64 x5) BX.out
      have hcg : wr.heap.size ≤ cb := Nat.le_of_eq HGB.out.symm
      generalize ((((((((((((w4.setCell ⟨cb, 0, none⟩ (.int .i64 x0)).setCell ⟨cb, 1, none⟩ (.int .i64 x1)).setCell ⟨cb, 2, none⟩ (.bool x2)).setCell ⟨cb, 3, none⟩ (.int .i64 x3)).setCell ⟨cb, 4, none⟩ (.int .i64 y0)).setCell ⟨cb, 5, none⟩ (.int .i64 y1)).setCell ⟨cb, 6, none⟩ (.int .i64 y2)).setCell ⟨cb, 7, none⟩ (.int .i64 y3)).setCell ⟨cb, 8, none⟩ (.int .i64 y4)).setCell ⟨cb, 9, none⟩ (.int .i64 y5)).setCell ⟨cb, 10, none⟩ (.bool y6)).setCell ⟨cb, 11, none⟩ (.int .i64 x5)) = w5 at B5 X5 ⊢
      have hz0 : w5.cell? ⟨cb, 0, none⟩ = some (.int .i64 x0) := (blk_cell X5 0).trans rfl
      have hz1 : w5.cell? ⟨cb, 1, none⟩ = some (.int .i64 x1) := (blk_cell X5 1).trans rfl
      have hz2 : w5.cell? ⟨cb, 2, none⟩ = some (.bool x2) := (blk_cell X5 2).trans rfl
      have hz3 : w5.cell? ⟨cb, 3, none⟩ = some (.int .i64 x3) := (blk_cell X5 3).trans rfl
      have hz4 : w5.cell? ⟨cb, 4, none⟩ = some (.int .i64 y0) := (blk_cell X5 4).trans rfl
      have hz5 : w5.cell? ⟨cb, 5, none⟩ = some (.int .i64 y1) := (blk_cell X5 5).trans rfl
      have hz6 : w5.cell? ⟨cb, 6, none⟩ = some (.int .i64 y2) := (blk_cell X5 6).trans rfl
      have hz7 : w5.cell? ⟨cb, 7, none⟩ = some (.int .i64 y3) := (blk_cell X5 7).trans rfl
      have hz8 : w5.cell? ⟨cb, 8, none⟩ = some (.int .i64 y4) := (blk_cell X5 8).trans rfl
      have hz9 : w5.cell? ⟨cb, 9, none⟩ = some (.int .i64 y5) := (blk_cell X5 9).trans rfl
      have hz10 : w5.cell? ⟨cb, 10, none⟩ = some (.bool y6) := (blk_cell X5 10).trans rfl
      have hz11 : w5.cell? ⟨cb, 11, none⟩ = some (.int .i64 x5) := (blk_cell X5 11).trans rfl
      have hcTF : ¬ TF g b cb := fun h => by have h1 := HT.out.lt; have h2 := HT.out.row.lt; rcases h with e | e <;> omega
      have HCT := Aside0.mk hcTF
      have HB5 := Aside0.mk (below_step HB.out B5)
      have HT5 := Aside0.mk (HT.out.below B5)
      have HR5 := Aside0.mk (HRT.out.below B5)
      clear hcz0 hfz0 hcz1 hfz1 hcz2 hfz2 hcz3 hfz3 hcz4 hfz4 hcz5 hfz5 hcz6 hfz6 hcz7 hfz7 hcz8 hfz8 hcz9 hfz9 hcz10 hfz10 hcz11 hfz11 BX KX HGB X5 B5 hx0 hx1 hx2 hx3 hx4 hx5 hx6 hx7 hx8 hx9 hx10 hx11 HT HRT HB hcTF hcg
      have hpl : P.length ≤ 100 := by have := HI.out.len; have := HN6.out; omega
      have hpl1 : 1 ≤ P.length := by have := HI.out.len; have := HN1.out; omega
      have HPL := Aside0.mk hpl
      have HPL1 := Aside0.mk hpl1
      clear hpl hpl1
      by_cases q0 : x0 = 0
      · subst q0
        have HS := Aside0.mk (set_calls w.heap.size g b cap id P best root change now w w5 HB5.out HB5.out.size HZ.out HNG.out HT5.out HPL.out HI.out.fit x1 x2 x3)
        have HIt := Aside0.mk (HI.out.setF hw0 x1 x2 x3)
        have HUt := Aside0.mk (ups_set HU.out id now best root x1 x2 x3)
        have HQt := Aside0.mk (HQ.out.set id now x1 x2 x3)
        have HQO := Aside0.mk HQ.out.of
        have HDS := Aside0.mk (fun (W : World) (hB : Below w.heap.size w W) (ht : RTre W w.heap.size g2 b2 cap2 ob2 ocap2 id D (-1) (List.replicate n false)) => dset_calls w.heap.size g2 b2 cap2 ob2 ocap2 id D (-1) now (List.replicate n false) w W hB hB.size ht (by have := HQO.out.1; have := HN6.out; omega) HQO.out.2.1 (fun k hk => by have := HQO.out.2.2 k hk; omega) x1 x2 x3)
        generalize rsetF id now (QS D) x1 x2 x3 = rq at *
        generalize setF id now P best root x1 x2 x3 = st at *
        obtain ⟨code, Pt, bt, rt⟩ := st
        obtain ⟨rc, Qt⟩ := rq
        dsimp only at HS HIt HUt HQt HDS
        go_wp2_with (first
          | (go_at_fn 15; refine HS.out.mono ?_; rintro e w6 ⟨rfl, h6, t6⟩; have HT6 := Aside0.mk h6; have HB6 := Aside0.mk t6.bel; have HR6 := Aside0.mk (HR5.out.over t6 HDJ.out); have hy1 : w6.cell? ⟨cb, 1, none⟩ = some (.int .i64 x1) := kept_cell t6.kept HCT.out hz1; have hy2 : w6.cell? ⟨cb, 2, none⟩ = some (.bool x2) := kept_cell t6.kept HCT.out hz2; have hy3 : w6.cell? ⟨cb, 3, none⟩ = some (.int .i64 x3) := kept_cell t6.kept HCT.out hz3; clear h6 t6)
          | (go_at_fn 23; refine (HDS.out w6 HB6.out HR6.out).mono ?_; rintro e w7 ⟨rfl, D2, h7, e7, t7⟩; have HT7 := Aside0.mk (HT6.out.over t7 HDJ.out); have HDJ7 := Aside0.mk (Dj.over HDJ.out HT6.out t7); have HR7 := Aside0.mk h7; have HB7 := Aside0.mk t7.bel; have HE7 := Aside0.mk e7; clear h7 t7 e7))
        go_roundg (l.length - (i + 1))
        case measure => omega
        case rel => exact ⟨i + 1, now, Pt, bt, rt, change, D2, by go_num, rfl, by omega, Nat.le_refl _, by omega, by omega, HT7, HR7, HIt, ⟨by rw [HE7.out]; exact HQt.out⟩, ⟨by rw [HE7.out]; exact HUt.out⟩, HDJ7, HB7⟩
      · by_cases q1 : x0 = 1
        · subst q1
          clear q0
          have hm : FitB ⟨⟨y0, y1, y2, y3⟩, y4, y5, y6⟩ := HFX.out.2.2
          have HS := Aside0.mk (hear_calls w.heap.size g b cap id P best root change now w w5 HB5.out HB5.out.size HT5.out HPL.out HI.out.fit x1 ⟨⟨y0, y1, y2, y3⟩, y4, y5, y6⟩ hm)
          have HIt := Aside0.mk (HI.out.hearF hw0 x1 ⟨⟨y0, y1, y2, y3⟩, y4, y5, y6⟩ hm)
          have HUt := Aside0.mk ((ups_hear id now P best root x1 ⟨⟨y0, y1, y2, y3⟩, y4, y5, y6⟩).trans HU.out)
          generalize hearF id now P best root x1 ⟨⟨y0, y1, y2, y3⟩, y4, y5, y6⟩ = st at *
          obtain ⟨code, Pt, bt, rt⟩ := st
          dsimp only at HIt HUt
          dsimp only [val38] at HS
          clear hm
          go_wp2_with (go_at_fn 16; refine HS.out.mono ?_; rintro e w6 ⟨rfl, h6, t6⟩; have HT6 := Aside0.mk h6; have HB6 := Aside0.mk t6.bel; have HR6 := Aside0.mk (HR5.out.over t6 HDJ.out); clear h6 t6)
          go_roundg (l.length - (i + 1))
          case measure => omega
          case rel => exact ⟨i + 1, now, Pt, bt, rt, change, D, by go_num, rfl, by omega, Nat.le_refl _, by omega, by omega, HT6, HR6, HIt, ⟨HQ.out.more (by omega)⟩, HUt, HDJ, HB6⟩
        · by_cases q2 : x0 = 2
          · subst q2
            clear q0 q1
            have hx5 : 0 ≤ x5 ∧ x5 ≤ 1000 := hwx
            have HTK := Aside0.mk (tick_calls w.heap.size g b cap id P best root change (now + x5) w w5 HB5.out HB5.out.size HZ.out HNG.out HT5.out HPL.out HPL1.out HI.out.fit (by omega) (by omega))
            have HIt := Aside0.mk (HI.out.tick (now := now + x5) (by omega) (by omega))
            have HUt := Aside0.mk ((ups_tick id (now + x5) P).trans HU.out)
            generalize tickL id (now + x5) P change = L at *
            generalize tickC id (now + x5) P change = cht at *
            generalize tickP id (now + x5) P = Pt at *
            generalize tickB id (now + x5) P = Bt at *
            obtain ⟨bt, rt⟩ := Bt
            dsimp only at HTK HIt
            clear hwx
            go_wp2_with (go_at_fn 17; refine HTK.out.mono ?_; rintro e w6 ⟨v6, rfl, hr6, h6, t6⟩; have HT6 := Aside0.mk h6; have HB6 := Aside0.mk t6.bel; have HR6 := Aside0.mk (HR5.out.over t6 HDJ.out); clear h6 t6 hr6)
            go_roundg (l.length - (i + 1))
            case measure => omega
            case rel => exact ⟨i + 1, now + x5, Pt, bt, rt, cht, D, by go_num, rfl, by omega, Nat.le_refl _, by omega, by omega, HT6, HR6, HIt, ⟨HQ.out.more (by omega)⟩, HUt, HDJ, HB6⟩
          · have d10 : (x0 == 0) = false := by simpa using q0
            have d11 : (x0 == 1) = false := by simpa using q1
            have d12 : (x0 == 2) = false := by simpa using q2
            clear q0 q1 q2
            go_wp2
            go_roundg (l.length - (i + 1))
            case measure => omega
            case rel => exact ⟨i + 1, now, P, best, root, change, D, by go_num, rfl, by omega, Nat.le_refl _, by omega, by omega, HT5, HR5, HI, ⟨HQ.out.more (by omega)⟩, HU, HDJ, HB5⟩
    · have e : i = l.length := by omega
      subst e
      have hT2 : now ≤ 1000000 := by omega
      have HK0 := Aside0.mk (InvK.start HI.out)
      have HQO := Aside0.mk HQ.out.of
      obtain ⟨ups, hups⟩ : ∃ u, P.map (·.f0) = u := ⟨_, rfl⟩
      rw [hups] at HK0 HU
      clear hups hw1
      go_wp2
      go_loopg [9, 12] 24 (fun gk s9 s12 wr => ∃ (k : Nat) (P : List S84) (best : S36) (root change : Int), s12 = .int .i64 k ∧ s9 = .int .i64 (now + k) ∧ k ≤ 24 ∧ 24 - k ≤ gk ∧ Aside0 (Tre wr w.heap.size g b cap id P best root change) ∧ Aside0 (RTre wr w.heap.size g2 b2 cap2 ob2 ocap2 id D (-1) (List.replicate n false)) ∧ Aside0 (InvK id n now k ups P best root) ∧ Aside0 (Below w.heap.size w wr))
      case atStart => exact ⟨0, P, best, root, change, rfl, by simp, by omega, by omega, HT, HRT, HK0, HB⟩
      case round =>
        clear HT HRT HB HI HK0
        obtain ⟨k, P, best, root, change, rfl, rfl, hk24, hgk2, HT, HRT, HK, HB⟩ := hrel
        have hpl : P.length ≤ 100 := by have := HK.out.len; have := HN6.out; omega
        have hpl1 : 1 ≤ P.length := by have := HK.out.len; have := HN1.out; omega
        have HPL := Aside0.mk hpl
        have HPL1 := Aside0.mk hpl1
        clear hpl hpl1
        by_cases hk : k < 24
        · have hkz : (k : Int) < 24 := by omega
          have HTK := Aside0.mk (tick_calls w.heap.size g b cap id P best root change (now + (k + 1 : Nat)) w wr HB.out HB.out.size HZ.out HNG.out HT.out HPL.out HPL1.out HK.out.fit (by omega) (by omega))
          have HKt := Aside0.mk (HK.out.tick hw0 hT2 (by omega))
          have en : now + ((k + 1 : Nat) : Int) = now + k + 1 := by omega
          rw [en] at HTK HKt
          generalize tickL id (now + k + 1) P change = L at *
          generalize tickC id (now + k + 1) P change = cht at *
          generalize tickP id (now + k + 1) P = Pt at *
          generalize tickB id (now + k + 1) P = Bt at *
          obtain ⟨bt, rt⟩ := Bt
          dsimp only at HTK HKt
          clear en
          go_wp2_with (go_at_fn 17; refine HTK.out.mono ?_; rintro e w6 ⟨v6, rfl, hr6, h6, t6⟩; have HT6 := Aside0.mk h6; have HB6 := Aside0.mk t6.bel; have HR6 := Aside0.mk (HRT.out.over t6 HDJ.out); clear h6 t6 hr6)
          go_roundg (24 - (k + 1))
          case measure => omega
          case rel => exact ⟨k + 1, Pt, bt, rt, cht, by go_num, by go_num, by omega, Nat.le_refl _, HT6, HR6, HKt, HB6⟩
        · have e : k = 24 := by omega
          subst e
          have hg21 : wr.cell? ⟨g2, 1, none⟩ = some (.slice (some ⟨b2, 0, none⟩) D.length cap2) := (blk_cell HRT.out.cell 1).trans rfl
          have hdl : D.length ≤ 100 := by have := HQO.out.1; have := HN6.out; omega
          go_wp2
          rename World => W8
          have hpd : P.length = D.length := by have := HK.out.len; have := HQO.out.1; omega
          have HPD := Aside0.mk hpd
          clear hpd
          go_loopg [100] D.length (fun gk s100 wr => ∃ j : Nat, s100 = .int .i64 j ∧ j ≤ D.length ∧ D.length - j ≤ gk ∧ Aside0 (Below W8.heap.size W8 wr))
          case atStart => exact ⟨0, rfl, Nat.zero_le _, by omega, ⟨Below.refl _ _⟩⟩
          case round =>
            obtain ⟨j, rfl, hjl, hgj, HBq⟩ := hrel
            by_cases hjt : j < D.length
            · have hjz : (j : Int) < (D.length : Int) := by omega
              have hjp : j < P.length := by (rw [HPD.out]; exact hjt)
              have hrj := HRT.out.below HBq.out
              obtain ⟨hx0, hx1, hx2, hx3, hx4, hx5, hx6, hx7, hx8, hx9, hx10⟩ := rcells hrj.row j hjt
              obtain ⟨A, k, ev⟩ : ∃ A k, D[j].v = .slice A D[j].q.turns.length k := Kd.R_slice (hrj.turns j hjt)
              rw [ev] at hx10
              have HEN := Aside0.mk (HK.out.ends hw0 hT2 j hjp)
              have hup : P[j].f0 = D[j].q.up := by
                have h1 : (P.map (·.f0))[j]'(by rw [List.length_map]; exact hjp) = ((QS D).map (·.up))[j]'(by rw [List.length_map, List.length_map]; exact hjt) := by simp only [HK.out.ups, HU.out]
                rw [List.getElem_map, List.getElem_map, List.getElem_map] at h1
                exact h1
              rw [hup] at HEN
              clear ev hrj hup
              generalize D[j].q = x at hx0 hx1 hx2 hx3 hx4 hx5 hx6 hx7 hx8 hx9 hx10 HEN
              obtain ⟨u, c, ⟨⟨v0, v1, v2, v3⟩, v4, v5, v6⟩, a, T⟩ := x
              dsimp only at hx0 hx1 hx2 hx3 hx4 hx5 hx6 hx7 hx8 hx9 hx10 HEN
              generalize T.length = n at hx10
              cases hu : u
              · rw [hu] at hx0 HEN
                rw [if_neg (show ¬ (false = true) by decide)] at HEN
                have HRL := Aside0.mk (fun (W : World) (hb : Below W8.heap.size W8 W) => role_calls (HT.out.below hb) (j : Int))
                have HSL := Aside0.mk (fun (W : World) (hb : Below W8.heap.size W8 W) => state_calls (HT.out.below hb) (j : Int) (now + 24))
                rw [HEN.out.1] at HRL
                have hsv := HEN.out.2
                generalize stateAt P (j : Int) (now + 24) = sv at HSL hsv
                clear HEN hu
                go_upto_region 28 with ((with_reducible refine gate_dst (N := 14) rfl ?_); refine box_event ?hg (N := 14) ?hd (cs := #[.bool false, .int .i64 0, .int .i64 0, .int .i64 0, .int .i64 0, .int .i64 0, .int .i64 0, .int .i64 0, .bool false, .int .i64 0, .slice none 0 0]) (t := 62) ?hr ?_; (case hd => rfl); (case hg => rfl); (case hr => first | (go_simp; done) | (go_simp; rfl)); intro pb hg w4 hbox hb; have hcz0 : w4.cell? ⟨pb, 0, none⟩ = some (.bool false) := (blk_cell hbox 0).trans rfl; have hfz0 := blk_frozen hbox 0; have hcz1 : w4.cell? ⟨pb, 1, none⟩ = some (.int .i64 0) := (blk_cell hbox 1).trans rfl; have hfz1 := blk_frozen hbox 1; have hcz2 : w4.cell? ⟨pb, 2, none⟩ = some (.int .i64 0) := (blk_cell hbox 2).trans rfl; have hfz2 := blk_frozen hbox 2; have hcz3 : w4.cell? ⟨pb, 3, none⟩ = some (.int .i64 0) := (blk_cell hbox 3).trans rfl; have hfz3 := blk_frozen hbox 3; have hcz4 : w4.cell? ⟨pb, 4, none⟩ = some (.int .i64 0) := (blk_cell hbox 4).trans rfl; have hfz4 := blk_frozen hbox 4; have hcz5 : w4.cell? ⟨pb, 5, none⟩ = some (.int .i64 0) := (blk_cell hbox 5).trans rfl; have hfz5 := blk_frozen hbox 5; have hcz6 : w4.cell? ⟨pb, 6, none⟩ = some (.int .i64 0) := (blk_cell hbox 6).trans rfl; have hfz6 := blk_frozen hbox 6; have hcz7 : w4.cell? ⟨pb, 7, none⟩ = some (.int .i64 0) := (blk_cell hbox 7).trans rfl; have hfz7 := blk_frozen hbox 7; have hcz8 : w4.cell? ⟨pb, 8, none⟩ = some (.bool false) := (blk_cell hbox 8).trans rfl; have hfz8 := blk_frozen hbox 8; have hcz9 : w4.cell? ⟨pb, 9, none⟩ = some (.int .i64 0) := (blk_cell hbox 9).trans rfl; have hfz9 := blk_frozen hbox 9; have hcz10 : w4.cell? ⟨pb, 10, none⟩ = some (.slice none 0 0) := (blk_cell hbox 10).trans rfl; have hfz10 := blk_frozen hbox 10; have BX := Aside0.mk hbox; have KX := Aside0.mk hb; have HGB := Aside0.mk hg; clear hbox hb hg)
                have B5 : Below wr.heap.size wr (((((((((((w4.setCell ⟨pb, 0, none⟩ (.bool false)).setCell ⟨pb, 1, none⟩ (.int .i64 c)).setCell ⟨pb, 2, none⟩ (.int .i64 v0)).setCell ⟨pb, 3, none⟩ (.int .i64 v1)).setCell ⟨pb, 4, none⟩ (.int .i64 v2)).setCell ⟨pb, 5, none⟩ (.int .i64 v3)).setCell ⟨pb, 6, none⟩ (.int .i64 v4)).setCell ⟨pb, 7, none⟩ (.int .i64 v5)).setCell ⟨pb, 8, none⟩ (.bool v6)).setCell ⟨pb, 9, none⟩ (.int .i64 a)).setCell ⟨pb, 10, none⟩ (.slice A n k)) := lay62_bel (.bool false) (.int .i64 c) (.int .i64 v0) (.int .i64 v1) (.int .i64 v2) (.int .i64 v3) (.int .i64 v4) (.int .i64 v5) (.bool v6) (.int .i64 a) (.slice A n k) KX.out (Nat.le_of_eq HGB.out.symm)
                have X5 : (((((((((((w4.setCell ⟨pb, 0, none⟩ (.bool false)).setCell ⟨pb, 1, none⟩ (.int .i64 c)).setCell ⟨pb, 2, none⟩ (.int .i64 v0)).setCell ⟨pb, 3, none⟩ (.int .i64 v1)).setCell ⟨pb, 4, none⟩ (.int .i64 v2)).setCell ⟨pb, 5, none⟩ (.int .i64 v3)).setCell ⟨pb, 6, none⟩ (.int .i64 v4)).setCell ⟨pb, 7, none⟩ (.int .i64 v5)).setCell ⟨pb, 8, none⟩ (.bool v6)).setCell ⟨pb, 9, none⟩ (.int .i64 a)).setCell ⟨pb, 10, none⟩ (.slice A n k)).heap[pb]? = some (.cells #[.bool false, .int .i64 c, .int .i64 v0, .int .i64 v1, .int .i64 v2, .int .i64 v3, .int .i64 v4, .int .i64 v5, .bool v6, .int .i64 a, .slice A n k] 62 (0, 0)) := lay62_blk (.bool false) (.int .i64 c) (.int .i64 v0) (.int .i64 v1) (.int .i64 v2) (.int .i64 v3) (.int .i64 v4) (.int .i64 v5) (.bool v6) (.int .i64 a) (.slice A n k) BX.out
                generalize (((((((((((w4.setCell ⟨pb, 0, none⟩ (.bool false)).setCell ⟨pb, 1, none⟩ (.int .i64 c)).setCell ⟨pb, 2, none⟩ (.int .i64 v0)).setCell ⟨pb, 3, none⟩ (.int .i64 v1)).setCell ⟨pb, 4, none⟩ (.int .i64 v2)).setCell ⟨pb, 5, none⟩ (.int .i64 v3)).setCell ⟨pb, 6, none⟩ (.int .i64 v4)).setCell ⟨pb, 7, none⟩ (.int .i64 v5)).setCell ⟨pb, 8, none⟩ (.bool v6)).setCell ⟨pb, 9, none⟩ (.int .i64 a)).setCell ⟨pb, 10, none⟩ (.slice A n k)) = w5 at B5 X5 ⊢
                have hp0 : w5.cell? ⟨pb, 0, none⟩ = some (.bool false) := (blk_cell X5 0).trans rfl
                have HB5 := Aside0.mk (below_step HBq.out B5)
                have hbw := Below.refl w5.heap.size w5
                clear hcz0 hfz0 hcz1 hfz1 hcz2 hfz2 hcz3 hfz3 hcz4 hfz4 hcz5 hfz5 hcz6 hfz6 hcz7 hfz7 hcz8 hfz8 hcz9 hfz9 hcz10 hfz10 BX KX HGB X5 B5 hx0 hx1 hx2 hx3 hx4 hx5 hx6 hx7 hx8 hx9 hx10
                go_upto_region 31 with fail
                go_region_held3 (fun W => W.cell? ⟨pb, 0, none⟩ = some (.bool false) ∧ Below w5.heap.size w5 W) (exact ⟨pw_cell_below (by repeat (with_reducible first | assumption | apply below_alloc | apply pw_below_drewN | apply below_drew1)) hp0, (by repeat (with_reducible first | assumption | apply below_alloc | apply pw_below_drewN | apply below_drew1))⟩) (first
                  | (go_at_call 20; with_reducible refine (HRL.out _ (below_step HB5.out (by repeat (with_reducible first | assumption | apply below_alloc | apply pw_below_drewN | apply below_drew1)))).mono ?_; rintro e w11 ⟨rfl, h11⟩; have hb11 := below_step (show Below w5.heap.size w5 _ from (by repeat (with_reducible first | assumption | apply below_alloc | apply pw_below_drewN | apply below_drew1))) h11; clear h11)
                  | (go_at_call 24; with_reducible refine (HSL.out _ (below_step HB5.out (by repeat (with_reducible first | assumption | apply below_alloc | apply pw_below_drewN | apply below_drew1)))).mono ?_; rintro e w12 ⟨rfl, h12⟩; have hb12 := below_step (show Below w5.heap.size w5 _ from (by repeat (with_reducible first | assumption | apply below_alloc | apply pw_below_drewN | apply below_drew1))) h12; clear h12))
                rename_i hS31
                clear hS31 hp0
                go_wp2
                go_roundg (D.length - (j + 1))
                case measure => omega
                case rel => exact ⟨j + 1, by go_num, by omega, Nat.le_refl _, ⟨below_step HB5.out (by repeat (with_reducible first | assumption | apply below_alloc | apply pw_below_drewN | apply below_drew1))⟩⟩
              · rw [hu] at hx0 HEN
                rw [if_pos rfl] at HEN
                have HRL := Aside0.mk (fun (W : World) (hb : Below W8.heap.size W8 W) => role_calls (HT.out.below hb) (j : Int))
                have HSL := Aside0.mk (fun (W : World) (hb : Below W8.heap.size W8 W) => state_calls (HT.out.below hb) (j : Int) (now + 24))
                rw [HEN.out.1] at HRL
                have hsv := HEN.out.2
                generalize stateAt P (j : Int) (now + 24) = sv at HSL hsv
                clear HEN hu
                go_upto_region 28 with ((with_reducible refine gate_dst (N := 14) rfl ?_); refine box_event ?hg (N := 14) ?hd (cs := #[.bool false, .int .i64 0, .int .i64 0, .int .i64 0, .int .i64 0, .int .i64 0, .int .i64 0, .int .i64 0, .bool false, .int .i64 0, .slice none 0 0]) (t := 62) ?hr ?_; (case hd => rfl); (case hg => rfl); (case hr => first | (go_simp; done) | (go_simp; rfl)); intro pb hg w4 hbox hb; have hcz0 : w4.cell? ⟨pb, 0, none⟩ = some (.bool false) := (blk_cell hbox 0).trans rfl; have hfz0 := blk_frozen hbox 0; have hcz1 : w4.cell? ⟨pb, 1, none⟩ = some (.int .i64 0) := (blk_cell hbox 1).trans rfl; have hfz1 := blk_frozen hbox 1; have hcz2 : w4.cell? ⟨pb, 2, none⟩ = some (.int .i64 0) := (blk_cell hbox 2).trans rfl; have hfz2 := blk_frozen hbox 2; have hcz3 : w4.cell? ⟨pb, 3, none⟩ = some (.int .i64 0) := (blk_cell hbox 3).trans rfl; have hfz3 := blk_frozen hbox 3; have hcz4 : w4.cell? ⟨pb, 4, none⟩ = some (.int .i64 0) := (blk_cell hbox 4).trans rfl; have hfz4 := blk_frozen hbox 4; have hcz5 : w4.cell? ⟨pb, 5, none⟩ = some (.int .i64 0) := (blk_cell hbox 5).trans rfl; have hfz5 := blk_frozen hbox 5; have hcz6 : w4.cell? ⟨pb, 6, none⟩ = some (.int .i64 0) := (blk_cell hbox 6).trans rfl; have hfz6 := blk_frozen hbox 6; have hcz7 : w4.cell? ⟨pb, 7, none⟩ = some (.int .i64 0) := (blk_cell hbox 7).trans rfl; have hfz7 := blk_frozen hbox 7; have hcz8 : w4.cell? ⟨pb, 8, none⟩ = some (.bool false) := (blk_cell hbox 8).trans rfl; have hfz8 := blk_frozen hbox 8; have hcz9 : w4.cell? ⟨pb, 9, none⟩ = some (.int .i64 0) := (blk_cell hbox 9).trans rfl; have hfz9 := blk_frozen hbox 9; have hcz10 : w4.cell? ⟨pb, 10, none⟩ = some (.slice none 0 0) := (blk_cell hbox 10).trans rfl; have hfz10 := blk_frozen hbox 10; have BX := Aside0.mk hbox; have KX := Aside0.mk hb; have HGB := Aside0.mk hg; clear hbox hb hg)
                have B5 : Below wr.heap.size wr (((((((((((w4.setCell ⟨pb, 0, none⟩ (.bool true)).setCell ⟨pb, 1, none⟩ (.int .i64 c)).setCell ⟨pb, 2, none⟩ (.int .i64 v0)).setCell ⟨pb, 3, none⟩ (.int .i64 v1)).setCell ⟨pb, 4, none⟩ (.int .i64 v2)).setCell ⟨pb, 5, none⟩ (.int .i64 v3)).setCell ⟨pb, 6, none⟩ (.int .i64 v4)).setCell ⟨pb, 7, none⟩ (.int .i64 v5)).setCell ⟨pb, 8, none⟩ (.bool v6)).setCell ⟨pb, 9, none⟩ (.int .i64 a)).setCell ⟨pb, 10, none⟩ (.slice A n k)) := lay62_bel (.bool true) (.int .i64 c) (.int .i64 v0) (.int .i64 v1) (.int .i64 v2) (.int .i64 v3) (.int .i64 v4) (.int .i64 v5) (.bool v6) (.int .i64 a) (.slice A n k) KX.out (Nat.le_of_eq HGB.out.symm)
                have X5 : (((((((((((w4.setCell ⟨pb, 0, none⟩ (.bool true)).setCell ⟨pb, 1, none⟩ (.int .i64 c)).setCell ⟨pb, 2, none⟩ (.int .i64 v0)).setCell ⟨pb, 3, none⟩ (.int .i64 v1)).setCell ⟨pb, 4, none⟩ (.int .i64 v2)).setCell ⟨pb, 5, none⟩ (.int .i64 v3)).setCell ⟨pb, 6, none⟩ (.int .i64 v4)).setCell ⟨pb, 7, none⟩ (.int .i64 v5)).setCell ⟨pb, 8, none⟩ (.bool v6)).setCell ⟨pb, 9, none⟩ (.int .i64 a)).setCell ⟨pb, 10, none⟩ (.slice A n k)).heap[pb]? = some (.cells #[.bool true, .int .i64 c, .int .i64 v0, .int .i64 v1, .int .i64 v2, .int .i64 v3, .int .i64 v4, .int .i64 v5, .bool v6, .int .i64 a, .slice A n k] 62 (0, 0)) := lay62_blk (.bool true) (.int .i64 c) (.int .i64 v0) (.int .i64 v1) (.int .i64 v2) (.int .i64 v3) (.int .i64 v4) (.int .i64 v5) (.bool v6) (.int .i64 a) (.slice A n k) BX.out
                generalize (((((((((((w4.setCell ⟨pb, 0, none⟩ (.bool true)).setCell ⟨pb, 1, none⟩ (.int .i64 c)).setCell ⟨pb, 2, none⟩ (.int .i64 v0)).setCell ⟨pb, 3, none⟩ (.int .i64 v1)).setCell ⟨pb, 4, none⟩ (.int .i64 v2)).setCell ⟨pb, 5, none⟩ (.int .i64 v3)).setCell ⟨pb, 6, none⟩ (.int .i64 v4)).setCell ⟨pb, 7, none⟩ (.int .i64 v5)).setCell ⟨pb, 8, none⟩ (.bool v6)).setCell ⟨pb, 9, none⟩ (.int .i64 a)).setCell ⟨pb, 10, none⟩ (.slice A n k)) = w5 at B5 X5 ⊢
                have hp0 : w5.cell? ⟨pb, 0, none⟩ = some (.bool true) := (blk_cell X5 0).trans rfl
                have HB5 := Aside0.mk (below_step HBq.out B5)
                have hbw := Below.refl w5.heap.size w5
                clear hcz0 hfz0 hcz1 hfz1 hcz2 hfz2 hcz3 hfz3 hcz4 hfz4 hcz5 hfz5 hcz6 hfz6 hcz7 hfz7 hcz8 hfz8 hcz9 hfz9 hcz10 hfz10 BX KX HGB X5 B5 hx0 hx1 hx2 hx3 hx4 hx5 hx6 hx7 hx8 hx9 hx10
                go_upto_region 31 with fail
                go_region_held3 (fun W => W.cell? ⟨pb, 0, none⟩ = some (.bool true) ∧ Below w5.heap.size w5 W) (exact ⟨pw_cell_below (by repeat (with_reducible first | assumption | apply below_alloc | apply pw_below_drewN | apply below_drew1)) hp0, (by repeat (with_reducible first | assumption | apply below_alloc | apply pw_below_drewN | apply below_drew1))⟩) (first
                  | (go_at_call 20; with_reducible refine (HRL.out _ (below_step HB5.out (by repeat (with_reducible first | assumption | apply below_alloc | apply pw_below_drewN | apply below_drew1)))).mono ?_; rintro e w11 ⟨rfl, h11⟩; have hb11 := below_step (show Below w5.heap.size w5 _ from (by repeat (with_reducible first | assumption | apply below_alloc | apply pw_below_drewN | apply below_drew1))) h11; clear h11)
                  | (go_at_call 24; with_reducible refine (HSL.out _ (below_step HB5.out (by repeat (with_reducible first | assumption | apply below_alloc | apply pw_below_drewN | apply below_drew1)))).mono ?_; rintro e w12 ⟨rfl, h12⟩; have hb12 := below_step (show Below w5.heap.size w5 _ from (by repeat (with_reducible first | assumption | apply below_alloc | apply pw_below_drewN | apply below_drew1))) h12; clear h12))
                rename_i hS31
                clear hS31 hp0
                go_wp2
                go_roundg (D.length - (j + 1))
                case measure => omega
                case rel => exact ⟨j + 1, by go_num, by omega, Nat.le_refl _, ⟨below_step HB5.out (by repeat (with_reducible first | assumption | apply below_alloc | apply pw_below_drewN | apply below_drew1))⟩⟩
            · have e : j = D.length := by omega
              subst e
              have HBE := Aside0.mk (HK.out.best_ (by decide))
              have HBC := Aside0.mk (best_calls (HT.out.below HBq.out))
              have HRC := Aside0.mk (fun (W : World) (hb : Below W8.heap.size W8 W) => root_calls (HT.out.below hb))
              rw [HBE.out.1] at HBC
              rw [HBE.out.2] at HRC
              dsimp only [Pri.own] at HBC
              go_wp2_with (first
                | (go_at_fn 19; refine HBC.out.mono ?_; rintro e w11 ⟨rfl, h11⟩; have HB11 := Aside0.mk (below_step HBq.out h11); clear h11)
                | (go_at_fn 21; refine (HRC.out _ HB11.out).mono ?_; rintro e w12 ⟨rfl, e1⟩; have e2 := e1.symm; subst e2))
              go_ret
              exact ⟨rfl, below_step HB.out HB11.out⟩
end Go.Proofs.YtfimhaodgekkgaaDoor.QTre
namespace Go.Proofs.YtfimhaodgekkgaaDoor.QTre
open Go.RowKit Go.Proofs.YtfimhaodgekkgaaDoorW.PrintWords Go.Proofs.YtfimhaodgekkgaaDoorW.PrintLast Go.Proofs.YtfimhaodgekkgaaDoorW.PrintMore
open Go.Proofs.YtfimhaodgekkgaaDoor.Pri (brid)
set_option linter.unusedVariables false
structure GoodArgsF (id : Int) (l : List S40) : Prop where
  id : Pri.Fit id
  steps : ∀ s ∈ l, FitSt s
  few : l.length ≤ maxLen
open Classical in
noncomputable def kissgatelaw12_TreeForgets.f (a0 a1 : Int) (l2 : List S40) : Option Bool := if GoodArgsF a0 l2 then some true else none
theorem kissgatelaw12_TreeForgets.calls (a0 : Int) (a1 : Int) (A2 : Option Addr) (c2 : Nat) (l2 : List (S40)) (r : Bool) (w : World) (hng : NG w) (hz : 0 < w.heap.size) (hr2 : Kd.C k40 w A2 l2.length l2) (hc2 : l2.length ≤ c2) (hT : r = true) (h : kissgatelaw12_TreeForgets.f a0 a1 l2 = some r) :
    Calls Tryd.prog 5 #[.int .i64 a0, .int .i64 a1, .slice A2 l2.length c2] w fun e w' => e = .returned (.bool r) ∧ Below w.heap.size w w' := by
  subst hT
  have hg : GoodArgsF a0 l2 := by
    unfold kissgatelaw12_TreeForgets.f at h
    split at h
    · assumption
    · cases h
  by_cases hs : greatB l2 = true ∨ brid a0 = false ∨ a1 < 1 ∨ 6 < a1
  · exact forg_true A2 c2 l2 a0 a1 w hng hz hr2 hc2 hg.few hg.id hs
  · have h1 : greatB l2 = false := by simpa using fun e => hs (.inl e)
    have h2 : brid a0 = true := by simpa using fun e => hs (.inr (.inl e))
    obtain ⟨n, rfl⟩ : ∃ n : Nat, a1 = n := ⟨a1.toNat, by omega⟩
    exact forg_walk A2 c2 l2 a0 n w hng hz hr2 hc2 hg.id hg.steps h1 h2 (by omega) (by omega)
end Go.Proofs.YtfimhaodgekkgaaDoor.QTre
namespace Go.Proofs.YtfimhaodgekkgaaDoor.Opn
open Go.ChangeShapes Go.WideShapes Go.Proofs.YtfimhaodgekkgaaDoorW.PrintWords
variable {P : Program}
def Opens {α : Type} (P : Program) (t : TypeId) (d : Kd α) (good : α → Prop) : Prop :=
  ∀ (H : Type) (enc : TypeId × Value → H) (w : World) (fuel : Nat) (cs : List Value) (x : DataW H × List MemPlace),
    DataW.trod enc P w 0 (fun _ => true) true fuel t cs = some x → (∀ n ∈ x.1.weights P t, n ≤ reachBytes) → ∃ a : α, d.K w a cs ∧ good a
theorem opens_int {t : TypeId} {k : IntKind} (hu : P.underlying t = some (.int k)) : Opens P t (Kd.int k) (fun n => (Lit.int k n).wf = true) := by
  intro H enc w fuel cs x h _
  obtain ⟨n, rfl, _, hw⟩ := DataW.trod_int hu h
  exact ⟨n, rfl, hw⟩
theorem opens_bool {t : TypeId} (hu : P.underlying t = some .bool) : Opens P t Kd.bool (fun _ => True) := by
  intro H enc w fuel cs x h _
  obtain ⟨b, rfl, _⟩ := DataW.trod_bool hu h
  exact ⟨b, rfl, trivial⟩
theorem weightsAll_mem {H : Type} {e : TypeId} : ∀ {l : List (DataW H)} {d : DataW H}, d ∈ l → ∀ n ∈ d.weights P e, n ∈ DataW.weightsAll P e l
  | [], d, h, _, _ => by simp at h
  | d0 :: l, d, h, n, hn => by
    simp only [DataW.weightsAll, List.mem_append]
    rcases List.mem_cons.1 h with rfl | h
    · exact Or.inl hn
    · exact Or.inr (weightsAll_mem h n hn)
theorem add_at_ (a : Addr) (i j : Nat) : (a.add i).add j = a.add (i + j) := by
  unfold Addr.add
  by_cases hi : i = 0
  · subst hi; simp
  · by_cases hj : j = 0
    · subst hj; simp
    · simp [hi, hj, Nat.add_assoc]
theorem choose_list {α : Type} {Q : Nat → α → Prop} : ∀ (n : Nat), (∀ i, i < n → ∃ a, Q i a) → ∃ l : List α, l.length = n ∧ ∀ i a, l[i]? = some a → Q i a
  | 0, _ => ⟨[], rfl, fun i a h => by simp at h⟩
  | n + 1, h => by
    obtain ⟨l, hl, hq⟩ := choose_list n (fun i hi => h i (by omega))
    obtain ⟨a, ha⟩ := h n (by omega)
    refine ⟨l ++ [a], by simp [hl], fun i b hb => ?_⟩
    rcases Nat.lt_or_ge i l.length with hi | hi
    · rw [List.getElem?_append_left hi] at hb
      exact hq i b hb
    · rw [List.getElem?_append_right hi] at hb
      have hlt := (List.getElem?_eq_some_iff.1 hb).1
      simp at hlt
      have e : i = n := by omega
      subst e
      rw [show i - l.length = 0 from by omega] at hb
      have hb' : a = b := by simpa using hb
      subst hb'
      exact ha
theorem opens_slice_row {α : Type} {t e : TypeId} {d : Kd α} {good : α → Prop} (hu : P.underlying t = some (.slice e)) (hC : P.cellsOf e = d.sz) {B : Nat} (hB : P.bytesOf e = B) (ho : Opens P e d good)
    (H : Type) (enc : TypeId × Value → H) (w : World) (fuel : Nat) (A : Option Addr) (len cap : Nat) (x : DataW H × List MemPlace)
    (h : DataW.trod enc P w 0 (fun _ => true) true fuel t [.slice A len cap] = some x) (hz : ∀ n ∈ x.1.weights P t, n ≤ reachBytes) :
    ∃ l : List α, l.length = len ∧ len ≤ cap ∧ d.C w A len l ∧ len ≤ maxLen ∧ len * B ≤ 140737488351232 ∧ ∀ a ∈ l, good a := by
  rcases DataW.trod_slice hu h with ⟨h0, _⟩ | ⟨a, len', cap', elems, rest, n, _, hcs, hx, _, hl, hm, hlen, hel, _, _⟩
  · simp only [List.cons.injEq, Value.slice.injEq, and_true] at h0
    obtain ⟨rfl, rfl, rfl⟩ := h0
    exact ⟨[], rfl, Nat.le_refl _, ⟨rfl, Nat.zero_le _, fun h => absurd h (by omega)⟩, Nat.zero_le _, by simp, fun a ha => by simp at ha⟩
  · simp only [List.cons.injEq, Value.slice.injEq, and_true] at hcs
    obtain ⟨rfl, rfl, rfl⟩ := hcs
    have each : ∀ i, i < len → ∃ b : α, (∃ c, c.length = d.sz ∧ d.K w b c ∧ ∀ j u, c[j]? = some u → w.cell? (a.add (i * d.sz + j)) = some u) ∧ good b := by
      intro i hi
      have h1 := hel i hi
      have hie : i < elems.length := by omega
      rw [List.getElem?_eq_getElem hie, Option.bind_eq_some_iff] at h1
      obtain ⟨cs', hc, ht'⟩ := h1
      have hw' : ∀ n ∈ (elems[i]).1.weights P e, n ≤ reachBytes := by
        intro m hm'
        refine hz m ?_
        rw [hx]
        simp only [DataW.weights, hu]
        refine List.mem_cons_of_mem _ (List.mem_append_left _ ?_)
        exact weightsAll_mem (List.mem_map.2 ⟨elems[i], List.getElem_mem hie, rfl⟩) m hm'
      obtain ⟨b, hb, hg⟩ := ho H enc w _ cs' _ ht' hw'
      obtain ⟨_, hcl, hat⟩ := World.cells?_some hc
      refine ⟨b, ⟨cs', by rw [hcl, hC], hb, fun j u hu' => ?_⟩, hg⟩
      have hj : j < P.cellsOf e := by
        have := (List.getElem?_eq_some_iff.1 hu').1
        omega
      have := hat j hj
      rw [hC] at this
      rw [← add_at_, this, hu']
    obtain ⟨l, hll, hq⟩ := choose_list len each
    refine ⟨l, hll, hl, ⟨hll, by simp only [maxLen] at hm; omega, fun _ => ⟨a, rfl, fun j p hj => (hq j p hj).1⟩⟩, by omega, ?_, fun b hb => ?_⟩
    · have h1 := hz ((elems.length + rest.length) * P.bytesOf e) (by rw [hx]; simp [DataW.weights, hu])
      rw [hB] at h1
      simp only [reachBytes] at h1
      refine Nat.le_trans (Nat.mul_le_mul_right _ ?_) h1
      omega
    · obtain ⟨i, hi⟩ := List.getElem?_of_mem hb
      exact (hq i b hi).2
def OpensFs {α : Type} (P : Program) (off : Nat) (fs : List Field) (d : Kd α) (good : α → Prop) : Prop :=
  ∀ (H : Type) (enc : TypeId × Value → H) (w : World) (fuel : Nat) (cs : List Value) (ys : List (DataW H × List MemPlace)),
    cs.length = off + d.sz → ys.length = fs.length → (∀ (i : Nat) (f : Field), fs[i]? = some f → DataW.trod enc P w 0 (fun _ => true) true fuel f.type ((cs.drop f.offset).take (P.cellsOf f.type)) = ys[i]?) →
    (∀ n ∈ DataW.weightsEach P (fs.map (·.type)) (ys.map (·.1)), n ≤ reachBytes) → ∃ a : α, d.K w a (cs.drop off) ∧ good a
theorem opensFs_one {α : Type} {off : Nat} {f : Field} {d : Kd α} {good : α → Prop} (ho : f.offset = off) (hC : P.cellsOf f.type = d.sz) (h : Opens P f.type d good) : OpensFs P off [f] d good := by
  intro H enc w fuel cs ys hcs hy hf hz
  match ys, hy with
  | [y], _ =>
    have h1 := hf 0 f rfl
    rw [ho, hC, List.take_of_length_le (by simp [List.length_drop]; omega)] at h1
    exact h H enc w fuel _ y h1 (fun n hn => hz n (by simp only [List.map_cons, DataW.weightsEach, List.mem_append]; exact Or.inl hn))
theorem opensFs_cons {α β : Type} {off : Nat} {f : Field} {fs : List Field} {d : Kd α} {e : Kd β} {g1 : α → Prop} {g2 : β → Prop} (ho : f.offset = off) (hC : P.cellsOf f.type = d.sz) (h : Opens P f.type d g1) (hs : OpensFs P (off + d.sz) fs e g2) :
    OpensFs P off (f :: fs) (Kd.pair d e) (fun p => g1 p.1 ∧ g2 p.2) := by
  intro H enc w fuel cs ys hcs hy hf hz
  match ys, hy with
  | y :: ys, hy =>
    have hsz : (Kd.pair d e).sz = d.sz + e.sz := rfl
    rw [hsz] at hcs
    have h1 := hf 0 f rfl
    rw [ho, hC] at h1
    obtain ⟨a, ha, hga⟩ := h H enc w fuel _ y h1 (fun n hn => hz n (by simp only [List.map_cons, DataW.weightsEach, List.mem_append]; exact Or.inl hn))
    obtain ⟨b, hb, hgb⟩ := hs H enc w fuel cs ys (by omega) (by simpa using hy) (fun i f' hi => by simpa using hf (i + 1) f' (by simpa using hi)) (fun n hn => hz n (by simp only [List.map_cons, DataW.weightsEach, List.mem_append]; exact Or.inr hn))
    refine ⟨(a, b), ⟨(cs.drop off).take d.sz, cs.drop (off + d.sz), ?_, ha, hb⟩, hga, hgb⟩
    rw [← List.drop_drop, List.take_append_drop]
theorem opens_struct {α : Type} {t : TypeId} {fs : Array Field} {d : Kd α} {good : α → Prop} (hu : P.underlying t = some (.struct fs)) (hC : P.cellsOf t = d.sz) (h : OpensFs P 0 fs.toList d good) : Opens P t d good := by
  intro H enc w fuel cs x hx hz
  obtain ⟨ys, n, _, hxe, hlen, hyl, hf⟩ := DataW.trod_struct hu hx
  obtain ⟨a, ha, hg⟩ := h H enc w n cs ys (by omega) (by simpa using hyl) (fun i f hi => hf i f (by simpa using hi)) (fun m hm => hz m (by rw [hxe]; simp only [DataW.weights, hu]; exact hm))
  exact ⟨a, by simpa using ha, hg⟩
theorem opens_iso {α β : Type} {t : TypeId} {d : Kd α} {good : α → Prop} (f : β → α) (g : α → β) (hfg : ∀ a, f (g a) = a) (h : Opens P t d good) : Opens P t (Kd.iso d f) (fun b => good (f b)) := by
  intro H enc w fuel cs x hx hz
  obtain ⟨a, ha, hga⟩ := h H enc w fuel cs x hx hz
  refine ⟨g a, ?_, by show good (f (g a)); rw [hfg]; exact hga⟩
  show d.K w (f (g a)) cs
  rw [hfg]
  exact ha
theorem opens_imp {α : Type} {t : TypeId} {d : Kd α} {g1 g2 : α → Prop} (h : Opens P t d g1) (hg : ∀ a, g1 a → g2 a) : Opens P t d g2 := by
  intro H enc w fuel cs x hx hz
  obtain ⟨a, ha, hga⟩ := h H enc w fuel cs x hx hz
  exact ⟨a, ha, hg a hga⟩
theorem weights_of {H : Type} {ts : List TypeId} {ds : List (DataW H)} (h : (DataW.weightsEach P ts ds).all (· ≤ reachBytes) = true) {j : Nat} {t : TypeId} {d : DataW H} (ht : ts[j]? = some t) (hd : ds[j]? = some d) : ∀ n ∈ d.weights P t, n ≤ reachBytes := by
  intro n hn
  have := List.all_eq_true.1 h _ (DataW.weights_mem_each ht hd n hn)
  simpa using this
theorem arg_slice {α : Type} {t e : TypeId} {d : Kd α} {good : α → Prop} (hu : P.underlying t = some (.slice e)) (hC : P.cellsOf e = d.sz) {B : Nat} (hB : P.bytesOf e = B) (ho : Opens P e d good)
    {H : Type} {enc : TypeId × Value → H} {w : World} {r : Reach} {b0 : Nat} {v : Value} {x : DataW H} {ps : List MemPlace} (hv : Value.okWide P w r b0 t v)
    (h : DataW.Trod enc P w 0 (fun _ => true) true t v x ps) (hz : ∀ n ∈ x.weights P t, n ≤ reachBytes) :
    ∃ (A : Option Addr) (c : Nat) (l : List α), v = .slice A l.length c ∧ l.length ≤ c ∧ d.C w A l.length l ∧ l.length ≤ maxLen ∧ l.length * B ≤ 140737488351232 ∧ ∀ a ∈ l, good a := by
  obtain ⟨A, len, c, rfl⟩ := okWide_slice hu hv
  obtain ⟨fuel, hf⟩ := h
  have hf' : DataW.trod enc P w 0 (fun _ => true) true fuel t [.slice A len c] = some (x, ps) := by simpa [Value.cells] using hf
  obtain ⟨l, rfl, hlc, hC', hm, hb, hg⟩ := opens_slice_row hu hC hB ho H enc w fuel A len c _ hf' hz
  exact ⟨A, c, l, rfl, hlc, hC', hm, hb, hg⟩
theorem arg_int {t : TypeId} {k : IntKind} (hu : P.underlying t = some (.int k))
    {H : Type} {enc : TypeId × Value → H} {w : World} {r : Reach} {b0 : Nat} {v : Value} {x : DataW H} {ps : List MemPlace} (hv : Value.okWide P w r b0 t v)
    (h : DataW.Trod enc P w 0 (fun _ => true) true t v x ps) : ∃ n, v = .int k n ∧ (Lit.int k n).wf = true := by
  obtain ⟨n, rfl⟩ := okWide_int hu hv
  obtain ⟨fuel, hf⟩ := h
  obtain ⟨m, hcs, _, hw⟩ := DataW.trod_int hu hf
  simp only [Value.cells] at hcs
  have e : n = m := by simpa using hcs
  subst e
  exact ⟨n, rfl, hw⟩
end Go.Proofs.YtfimhaodgekkgaaDoor.Opn
namespace Go.Proofs.YtfimhaodgekkgaaDoor.treeForgets
open Go.RowKit Go.Proofs.YtfimhaodgekkgaaDoorW.PrintWords Go.Proofs.YtfimhaodgekkgaaDoorW.PrintLast Go.Proofs.YtfimhaodgekkgaaDoorW.PrintMore Go.Proofs.YtfimhaodgekkgaaDoor.QTre
set_option linter.unusedVariables false
def G36 (x : S36) : Prop := (Lit.int .i64 x.f0).wf = true ∧ (Lit.int .i64 x.f1).wf = true ∧ (Lit.int .i64 x.f2).wf = true ∧ (Lit.int .i64 x.f3).wf = true
def G38 (x : S38) : Prop := G36 x.f0 ∧ (Lit.int .i64 x.f1).wf = true ∧ (Lit.int .i64 x.f2).wf = true ∧ True
def G40 (x : S40) : Prop := (Lit.int .i64 x.f0).wf = true ∧ (Lit.int .i64 x.f1).wf = true ∧ True ∧ (Lit.int .i64 x.f3).wf = true ∧ G38 x.f4 ∧ (Lit.int .i64 x.f5).wf = true
def Pure : Prop := ∀ (x0 : Int) (x1 : Int) (x2 : (List S40)), (Lit.int .i64 x0).wf = true → (Lit.int .i64 x1).wf = true → (x2.length ≤ maxLen ∧ x2.length * 96 ≤ 140737488351232 ∧ ∀ a ∈ x2, G40 a) → kissgatelaw12_TreeForgets.f x0 x1 x2 = some true
end Go.Proofs.YtfimhaodgekkgaaDoor.treeForgets
namespace Go.Proofs.YtfimhaodgekkgaaDoor.treeForgets
open Go.RowKit Go.Proofs.YtfimhaodgekkgaaDoorW.PrintWords Go.Proofs.YtfimhaodgekkgaaDoorW.PrintLast Go.Proofs.YtfimhaodgekkgaaDoorW.PrintMore Go.Proofs.YtfimhaodgekkgaaDoor.QTre
theorem pure : Pure := by
  intro x0 x1 x2 h0 h1 h2
  unfold kissgatelaw12_TreeForgets.f
  rw [if_pos]
  refine ⟨Pri.fit_of h0, fun s hs => ?_, h2.1⟩
  have h := h2.2.2 s hs
  exact ⟨Pri.fit_of h.2.1, Pri.fit_of h.2.2.2.1, Pri.fit_of h.2.2.2.2.1.1.1, Pri.fit_of h.2.2.2.2.1.1.2.1, Pri.fit_of h.2.2.2.2.1.1.2.2.1⟩
end Go.Proofs.YtfimhaodgekkgaaDoor.treeForgets
namespace Go.Proofs.YtfimhaodgekkgaaDoor.QTre
open Go.ChangeShapes Go.WideShapes Go.ChangeAt Go.RowKit
set_option linter.unusedVariables false
set_option linter.unusedSimpArgs false
abbrev laid1 : List (String × DataW Unit) := [("kissgate/tree.none", Rows.laid_kissgate_tree_none)]
theorem gNone : Tryd.prog.globalNamed "kissgate/tree.none" = some 0 := by kernel_rfl
theorem tNone : (Tryd.prog.globals[0]?).map (·.type) = some 80 := by kernel_rfl
theorem door_met (os : Os) (args : Array Value) : laidMetH Tryd.prog laid1 ((World.doorLaid Tryd.prog 400 os).forCall (fun _ _ => 0) ⟨#[], args, []⟩).memory :=
  laidMetH_of_parts3 (fuel := 8) (laidMet_of_run' 8 (by kernel_rfl) (by kernel_rfl)) (by kernel_rfl) (by kernel_rfl)
theorem list4 {α : Type} : ∀ {l : List α}, l.length = 4 → ∃ a b c d, l = [a, b, c, d]
  | [a, b, c, d], _ => ⟨a, b, c, d, rfl⟩
  | [], h => by simp at h
  | [_], h => by simp at h
  | [_, _], h => by simp at h
  | [_, _, _], h => by simp at h
  | _ :: _ :: _ :: _ :: _ :: _, h => by simp at h
theorem list7 {α : Type} {l : List α} (h : l.length = 7) : ∃ a b c d e f g, l = [a, b, c, d, e, f, g] := by
  obtain ⟨a, b, c, d, h4⟩ := list4 (l := l.take 4) (by simp; omega)
  have h3 : (l.drop 4).length = 3 := by simp; omega
  match hd : l.drop 4, h3 with
  | [e, f, g], _ => exact ⟨a, b, c, d, e, f, g, by rw [← List.take_append_drop 4 l, h4, hd]; rfl⟩
theorem of_laid {W : World} (h : laidMetH Tryd.prog laid1 W) : NG W ∧ 0 < W.heap.size := by
  rw [MakeChecks.laidMetH_plain _ _ _ (by kernel_rfl)] at h
  obtain ⟨ps, ⟨g0, t0, cs0, f0, p0, q0, hg0, ht0, hv0, hd0, _, _⟩, _, _⟩ := h
  obtain rfl := Option.some.inj (gNone.symm.trans hg0)
  obtain rfl := Option.some.inj (tNone.symm.trans ht0)
  have hc := fun i => World.var?_cell hg0 hv0 i
  obtain ⟨xs, n, _, hx, hl, hxl, hel⟩ := DataW.trod_struct Tryd.underlying80 hd0
  have c80 : Tryd.prog.cellsOf 80 = 7 := by kernel_rfl
  have c36 : Tryd.prog.cellsOf 36 = 4 := by kernel_rfl
  have c3 : Tryd.prog.cellsOf 3 = 1 := by kernel_rfl
  have c4 : Tryd.prog.cellsOf 4 = 1 := by kernel_rfl
  rw [c80] at hl
  obtain ⟨v0, v1, v2, v3, v4, v5, v6, hcs⟩ := list7 hl
  obtain ⟨x0, x1, x2, x3, rfl⟩ := list4 hxl
  simp only [Prod.mk.injEq, List.map_cons, List.map_nil, Rows.laid_kissgate_tree_none, DataW.agg.injEq, List.cons.injEq, and_true] at hx
  obtain ⟨⟨e0, e1, e2, e3⟩, _⟩ := hx
  have h0 : DataW.trod (fun x => ()) Tryd.prog W 0 (fun x => true) false n 36 (List.take (Tryd.prog.cellsOf 36) (List.drop 0 cs0.toList)) = some x0 := hel 0 _ rfl
  rw [hcs, c36] at h0
  have h1 : DataW.trod (fun x => ()) Tryd.prog W 0 (fun x => true) false n 3 (List.take (Tryd.prog.cellsOf 3) (List.drop 4 cs0.toList)) = some x1 := hel 1 _ rfl
  rw [hcs, c3] at h1
  have h2 : DataW.trod (fun x => ()) Tryd.prog W 0 (fun x => true) false n 3 (List.take (Tryd.prog.cellsOf 3) (List.drop 5 cs0.toList)) = some x2 := hel 2 _ rfl
  rw [hcs, c3] at h2
  have h3 : DataW.trod (fun x => ()) Tryd.prog W 0 (fun x => true) false n 4 (List.take (Tryd.prog.cellsOf 4) (List.drop 6 cs0.toList)) = some x3 := hel 3 _ rfl
  rw [hcs, c4] at h3
  obtain ⟨k1, a1, b1, _⟩ := DataW.trod_int Tryd.underlying3 h1
  obtain ⟨k2, a2, b2, _⟩ := DataW.trod_int Tryd.underlying3 h2
  obtain ⟨k3, a3, b3⟩ := DataW.trod_bool Tryd.underlying4 h3
  obtain ⟨ys, m, _, hy, hyl, hyn, hye⟩ := DataW.trod_struct Tryd.underlying36 h0
  obtain ⟨y0, y1, y2, y3, rfl⟩ := list4 hyn
  rw [hy] at e0
  simp only [List.map_cons, List.map_nil, DataW.agg.injEq, List.cons.injEq, and_true] at e0
  obtain ⟨f0', f1', f2', f3'⟩ := e0
  have g0 : DataW.trod (fun x => ()) Tryd.prog W 0 (fun x => true) false m 3 (List.take (Tryd.prog.cellsOf 3) (List.drop 0 (List.take 4 (List.drop 0 [v0, v1, v2, v3, v4, v5, v6])))) = some y0 := hye 0 _ rfl
  rw [c3] at g0
  obtain ⟨m0, r0, s0, _⟩ := DataW.trod_int Tryd.underlying3 g0
  have g1 : DataW.trod (fun x => ()) Tryd.prog W 0 (fun x => true) false m 3 (List.take (Tryd.prog.cellsOf 3) (List.drop 1 (List.take 4 (List.drop 0 [v0, v1, v2, v3, v4, v5, v6])))) = some y1 := hye 1 _ rfl
  rw [c3] at g1
  obtain ⟨m1, r1, s1, _⟩ := DataW.trod_int Tryd.underlying3 g1
  have g2 : DataW.trod (fun x => ()) Tryd.prog W 0 (fun x => true) false m 3 (List.take (Tryd.prog.cellsOf 3) (List.drop 2 (List.take 4 (List.drop 0 [v0, v1, v2, v3, v4, v5, v6])))) = some y2 := hye 2 _ rfl
  rw [c3] at g2
  obtain ⟨m2, r2, s2, _⟩ := DataW.trod_int Tryd.underlying3 g2
  have g3 : DataW.trod (fun x => ()) Tryd.prog W 0 (fun x => true) false m 3 (List.take (Tryd.prog.cellsOf 3) (List.drop 3 (List.take 4 (List.drop 0 [v0, v1, v2, v3, v4, v5, v6])))) = some y3 := hye 3 _ rfl
  rw [c3] at g3
  obtain ⟨m3, r3, s3, _⟩ := DataW.trod_int Tryd.underlying3 g3
  rw [s0] at f0'
  rw [s1] at f1'
  rw [s2] at f2'
  rw [s3] at f3'
  rw [b1] at e1
  rw [b2] at e2
  rw [b3] at e3
  injection f0' with q0; injection q0 with _ q0
  injection f1' with q1; injection q1 with _ q1
  injection f2' with q2; injection q2 with _ q2
  injection f3' with q3; injection q3 with _ q3
  injection e1 with q4; injection q4 with _ q4
  injection e2 with q5; injection q5 with _ q5
  injection e3 with q6; injection q6 with q6
  subst q0 q1 q2 q3 q4 q5 q6
  have w0 : v0 = .int .i64 0 := (List.cons.inj r0).1
  have w1 : v1 = .int .i64 0 := (List.cons.inj r1).1
  have w2 : v2 = .int .i64 0 := (List.cons.inj r2).1
  have w3 : v3 = .int .i64 0 := (List.cons.inj r3).1
  have w4 : v4 = .int .i64 0 := (List.cons.inj a1).1
  have w5 : v5 = .int .i64 0 := (List.cons.inj a2).1
  have w6 : v6 = .bool true := (List.cons.inj a3).1
  have hj : ∀ j v, [v0, v1, v2, v3, v4, v5, v6][j]? = some v → W.cell? ⟨0, j, none⟩ = some v := by
    intro j v h
    rw [hc j, ← h, ← hcs, Array.getElem?_toList]
  subst w0 w1 w2 w3 w4 w5 w6
  exact ⟨⟨hj 0 _ rfl, hj 1 _ rfl, hj 2 _ rfl, hj 3 _ rfl, hj 4 _ rfl, hj 5 _ rfl, hj 6 _ rfl⟩, World.block_lt_of_cell? W _ (hj 0 _ rfl)⟩
end Go.Proofs.YtfimhaodgekkgaaDoor.QTre
