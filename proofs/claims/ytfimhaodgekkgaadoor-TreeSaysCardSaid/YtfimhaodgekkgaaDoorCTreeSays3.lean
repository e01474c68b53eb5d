/- Functions of the program as plain Lean functions, what their calls do, and what follows of it. Conditions: each theorem's own. -/
import Derived.Test.YtfimhaodgekkgaaDoorCTreeSays2
import Derived.Test.YtfimhaodgekkgaaDoorCards
import Derived.Test.YtfimhaodgekkgaaDoorProg
import Derived.Test.YtfimhaodgekkgaaDoorRows
import Derived.Test.YtfimhaodgekkgaaDoorTie
namespace Go.Proofs.YtfimhaodgekkgaaDoor.QTre
open Go.RowKit Go.Proofs.YtfimhaodgekkgaaDoorW.PrintWords Go.Proofs.YtfimhaodgekkgaaDoorW.PrintLast Go.Proofs.YtfimhaodgekkgaaDoorW.PrintMore
open Go.Proofs.YtfimhaodgekkgaaDoor.Gen (Own Trn)
open Go.Proofs.YtfimhaodgekkgaaDoor.Pri (FitH roles bestOf role brid)
set_option linter.unusedVariables false
set_option linter.unusedSimpArgs false
attribute [local go_sem] max2_int min2_int max_two min_two
def FitS (s : S40) : Prop := Pri.Fit s.f1 ∧ Pri.Fit s.f3 ∧ FitB s.f4
def cl (x : Int) : Int := if 1048576 < x then 1048576 else x
theorem cl_le (x : Int) : cl x ≤ 1048576 := by unfold cl; split <;> omega
theorem cl_fit {x : Int} (h : Pri.Fit x) : Pri.Fit (cl x) := by
  unfold cl
  split
  · exact ⟨by decide, by decide⟩
  · exact h
def clB (m : S38) : S38 := ⟨⟨m.f0.f0, cl m.f0.f1, m.f0.f2, m.f0.f3⟩, m.f1, m.f2, m.f3⟩
theorem clB_fit {m : S38} (h : FitB m) : FitB (clB m) := ⟨h.1, cl_fit h.2.1, h.2.2⟩
theorem at_T47 {w : World} {A : Option Addr} {n : Nat} {xs : List S47} (h : Kd.C k47 w A n xs) (i : Int) (h0 : 0 ≤ i) (h1 : i < n) : ∃ ad , A = some ad ∧ w.cell? (ad.add (i.toNat * 8)) = some (.int .i64 (rd_T47 xs i).f0) ∧ w.cell? ⟨(ad.add (i.toNat * 8)).block, (ad.add (i.toNat * 8)).off + 1, none⟩ = some (.int .i64 (rd_T47 xs i).f1.f0.f0) ∧ w.cell? ⟨(ad.add (i.toNat * 8)).block, (ad.add (i.toNat * 8)).off + 2, none⟩ = some (.int .i64 (rd_T47 xs i).f1.f0.f1) ∧ w.cell? ⟨(ad.add (i.toNat * 8)).block, (ad.add (i.toNat * 8)).off + 3, none⟩ = some (.int .i64 (rd_T47 xs i).f1.f0.f2) ∧ w.cell? ⟨(ad.add (i.toNat * 8)).block, (ad.add (i.toNat * 8)).off + 4, none⟩ = some (.int .i64 (rd_T47 xs i).f1.f0.f3) ∧ w.cell? ⟨(ad.add (i.toNat * 8)).block, (ad.add (i.toNat * 8)).off + 5, none⟩ = some (.int .i64 (rd_T47 xs i).f1.f1) ∧ w.cell? ⟨(ad.add (i.toNat * 8)).block, (ad.add (i.toNat * 8)).off + 6, none⟩ = some (.int .i64 (rd_T47 xs i).f1.f2) ∧ w.cell? ⟨(ad.add (i.toNat * 8)).block, (ad.add (i.toNat * 8)).off + 7, none⟩ = some (.bool (rd_T47 xs i).f1.f3) := by
  obtain ⟨ad, c, e, _, hK, hc0⟩ := Kd.C_get h z47 i h0 h1
  have hc : ∀ j u, c[j]? = some u → w.cell? (ad.add (i.toNat * 8 + j)) = some u := hc0
  obtain rfl := k47_open hK
  exact ⟨ad, e, hc 0 _ rfl, by rw [← add_field _ _ 1 (by omega)]; exact hc 1 _ rfl, by rw [← add_field _ _ 2 (by omega)]; exact hc 2 _ rfl, by rw [← add_field _ _ 3 (by omega)]; exact hc 3 _ rfl, by rw [← add_field _ _ 4 (by omega)]; exact hc 4 _ rfl, by rw [← add_field _ _ 5 (by omega)]; exact hc 5 _ rfl, by rw [← add_field _ _ 6 (by omega)]; exact hc 6 _ rfl, by rw [← add_field _ _ 7 (by omega)]; exact hc 7 _ rfl⟩
theorem tickL_len (id now : Int) (P : List S84) (change : Int) : (tickL id now P change).length ≤ P.length := by
  unfold tickL
  split
  · have := saidFrom_len (tickB id now P).1 id (ageR (tickP id now P) (tickB id now P).2) (decide (now ≤ tickC id now P change)) (tickP id now P) 0
    rw [List.length_map, updN_len, List.length_map] at this
    exact this
  · exact Nat.zero_le _
theorem rd47 {l : List S47} {i : Nat} (h : i < l.length) : rd_T47 l (i : Int) = l[i] := by
  unfold rd_T47
  rw [Int.toNat_natCast, List.getD_eq_getElem?_getD, List.getElem?_eq_getElem h]
  rfl
set_option maxHeartbeats 16000000 in
set_option maxRecDepth 100000 in
theorem says_walk (A : Option Addr) (c : Nat) (l : List S40) (id : Int) (n : Nat) (w : World) (hng : NG w) (h0 : 0 < w.heap.size) (hr : Kd.C k40 w A l.length l) (hc : l.length ≤ c) (hid : Pri.Fit id) (hfs : ∀ s ∈ l, FitS s) (hg : greatB l = false) (hb : brid id = true) (hn1 : 1 ≤ n) (hn6 : n ≤ 6) :
    Calls Tryd.prog 4 #[.int .i64 id, .int .i64 n, .slice A l.length c] w fun e w' => e = .returned (.bool true) ∧ Below w.heap.size w w' := by
  have e7 : ∀ args w, (callFunc 7 args).run Tryd.prog w = .ok (.enter 7 args) w := enters_of Tryd.func7 (by kernel_rfl) rfl
  have e12 : ∀ args w, (callFunc 12 args).run Tryd.prog w = .ok (.enter 12 args) w := enters_of Tryd.func12 (by kernel_rfl) rfl
  have e13 : ∀ args w, (callFunc 13 args).run Tryd.prog w = .ok (.enter 13 args) w := enters_of Tryd.func13 (by kernel_rfl) rfl
  have e14 : ∀ args w, (callFunc 14 args).run Tryd.prog w = .ok (.enter 14 args) w := enters_of Tryd.func14 (by kernel_rfl) rfl
  have e15 : ∀ args w, (callFunc 15 args).run Tryd.prog w = .ok (.enter 15 args) w := enters_of Tryd.func15 (by kernel_rfl) rfl
  have e16 : ∀ args w, (callFunc 16 args).run Tryd.prog w = .ok (.enter 16 args) w := enters_of Tryd.func16 (by kernel_rfl) rfl
  have e17 : ∀ args w, (callFunc 17 args).run Tryd.prog w = .ok (.enter 17 args) w := enters_of Tryd.func17 (by kernel_rfl) rfl
  have e18 : ∀ args w, (callFunc 18 args).run Tryd.prog w = .ok (.enter 18 args) w := enters_of Tryd.func18 (by kernel_rfl) rfl
  have e19 : ∀ args w, (callFunc 19 args).run Tryd.prog w = .ok (.enter 19 args) w := enters_of Tryd.func19 (by kernel_rfl) rfl
  have e20 : ∀ args w, (callFunc 20 args).run Tryd.prog w = .ok (.enter 20 args) w := enters_of Tryd.func20 (by kernel_rfl) rfl
  have e21 : ∀ args w, (callFunc 21 args).run Tryd.prog w = .ok (.enter 21 args) w := enters_of Tryd.func21 (by kernel_rfl) rfl
  have hf0 : ∀ (a b c d : Int) (w : World), (Instr.field 36 (.agg #[.int .i64 a, .int .i64 b, .int .i64 c, .int .i64 d]) 0).run Tryd.prog w = .ok (.int .i64 a) w := fun _ _ _ _ _ => by kernel_rfl
  have hf1 : ∀ (a b c d : Int) (w : World), (Instr.field 36 (.agg #[.int .i64 a, .int .i64 b, .int .i64 c, .int .i64 d]) 1).run Tryd.prog w = .ok (.int .i64 b) w := fun _ _ _ _ _ => by kernel_rfl
  have hu36 := Tryd.underlying36
  have hu38 := Tryd.underlying38
  have hu40 := Tryd.underlying40
  have hu47 := Tryd.underlying47
  obtain ⟨hl1, hwt⟩ := great_no hg
  have HAL := Aside0.mk (alive_calls w hng h0)
  have HGR := Aside0.mk (fun (W : World) (hb : Below w.heap.size w W) => great_calls A c l W (Kd.C_below hr hb) hc (by unfold maxLen; omega))
  have HBR := Aside0.mk (fun W => rbridge_calls id hid W)
  rw [hg] at HGR
  rw [hb] at HBR
  have HNG := Aside0.mk hng
  have HZ := Aside0.mk h0
  have HNW := Aside0.mk (fun (W : World) (hb' : Below w.heap.size w W) => new_ok id n hid hb hn1 hn6 W (hng.below hb' h0) (Nat.lt_of_lt_of_le h0 hb'.size))
  have hz1 : ¬ (n : Int) < 1 := by omega
  have hz6 : ¬ 6 < (n : Int) := by omega
  have HR := Aside0.mk hr
  have HFS := Aside0.mk hfs
  have HWT := Aside0.mk hwt
  have HID := Aside0.mk hid
  have HBI := Aside0.mk hb
  have HN6 := Aside0.mk hn6
  have HN1 := Aside0.mk hn1
  clear hr hng h0 hg hb hid hfs hwt hn1 hn6
  go_enter Tryd.func4, Tryd.ntmps4
  go_wp2_with (first
    | (go_at_fn 7; refine HAL.out.mono ?_; rintro e w1 ⟨rfl, hb1⟩; have HB1 := Aside0.mk hb1; clear hb1)
    | (go_at_fn 12; refine (HGR.out w1 HB1.out).mono ?_; rintro e w2 ⟨rfl, hb2⟩; have HB2 := Aside0.mk (below_step HB1.out hb2); clear hb2)
    | (go_at_fn 13; refine (HBR.out _).mono ?_; rintro e w3 ⟨rfl, hb3⟩; have HB3 := Aside0.mk (below_step HB2.out hb3); clear hb3)
    | (go_at_fn 14; refine (HNW.out w3 HB3.out).mono ?_; rintro e w4 ⟨g, b, cap, rfl, ht4, hb4⟩; have HT4 := Aside0.mk (ht4.lower HB3.out.size); have HB4 := Aside0.mk (below_step HB3.out hb4); clear ht4 hb4))
  go_loopg [8, 37] l.length (fun gk s8 s37 wr => ∃ (i : Nat) (now : Int) (P : List S84) (best : S36) (root change : Int), s37 = .int .i64 i ∧ s8 = .int .i64 now ∧ i ≤ l.length ∧ l.length - i ≤ gk ∧ 0 ≤ now ∧ now ≤ i * 1000 ∧ Aside0 (Tre wr w.heap.size g b cap id P best root change) ∧ Aside0 (InvS 1048576 id n P best root) ∧ Aside0 (Below w.heap.size w wr))
  case atStart => exact ⟨0, 0, _, _, _, _, rfl, rfl, Nat.zero_le _, by omega, by omega, by omega, HT4, ⟨InvS.new (by decide)⟩, HB4⟩
  case round =>
    obtain ⟨i, now, P, best, root, change, rfl, rfl, hil, hgk, hw0, hw1, HT, HI, HB⟩ := hrel
    by_cases hlt : i < l.length
    · have hlz : (i : Int) < (l.length : Int) := by omega
      obtain ⟨ad, ea, hx0, hx1, hx2, hx3, hx4, hx5, hx6, hx7, hx8, hx9, hx10, hx11⟩ := at_T40 (Kd.C_below HR.out HB.out) (i : Int) (by omega) hlz
      rw [rd40 hlt, Int.toNat_natCast] at hx0 hx1 hx2 hx3 hx4 hx5 hx6 hx7 hx8 hx9 hx10 hx11
      subst ea
      have hfx := HFS.out _ (List.getElem_mem hlt)
      have hwx := HWT.out _ (List.getElem_mem hlt)
      generalize l[i] = x at *
      obtain ⟨x0, x1, x2, x3, ⟨⟨y0, y1, y2, y3⟩, y4, y5, y6⟩, x5⟩ := x
      dsimp only at hx0 hx1 hx2 hx3 hx4 hx5 hx6 hx7 hx8 hx9 hx10 hx11 hwx
      have HFX := Aside0.mk hfx
      clear hfx
      go_upto_region 10 with ((with_reducible refine gate_dst (N := 10) rfl ?_); refine box_event ?hg (N := 10) ?hd (cs := #[.int .i64 0, .int .i64 0, .bool false, .int .i64 0, .int .i64 0, .int .i64 0, .int .i64 0, .int .i64 0, .int .i64 0, .int .i64 0, .bool false, .int .i64 0]) (t := 40) ?hr ?_; (case hd => rfl); (case hg => rfl); (case hr => first | (go_simp; done) | (go_simp; rfl)); intro cb hg w4 hbox hb; have hcz0 : w4.cell? ⟨cb, 0, none⟩ = some (.int .i64 0) := (blk_cell hbox 0).trans rfl; have hfz0 := blk_frozen hbox 0; have hcz1 : w4.cell? ⟨cb, 1, none⟩ = some (.int .i64 0) := (blk_cell hbox 1).trans rfl; have hfz1 := blk_frozen hbox 1; have hcz2 : w4.cell? ⟨cb, 2, none⟩ = some (.bool false) := (blk_cell hbox 2).trans rfl; have hfz2 := blk_frozen hbox 2; have hcz3 : w4.cell? ⟨cb, 3, none⟩ = some (.int .i64 0) := (blk_cell hbox 3).trans rfl; have hfz3 := blk_frozen hbox 3; have hcz4 : w4.cell? ⟨cb, 4, none⟩ = some (.int .i64 0) := (blk_cell hbox 4).trans rfl; have hfz4 := blk_frozen hbox 4; have hcz5 : w4.cell? ⟨cb, 5, none⟩ = some (.int .i64 0) := (blk_cell hbox 5).trans rfl; have hfz5 := blk_frozen hbox 5; have hcz6 : w4.cell? ⟨cb, 6, none⟩ = some (.int .i64 0) := (blk_cell hbox 6).trans rfl; have hfz6 := blk_frozen hbox 6; have hcz7 : w4.cell? ⟨cb, 7, none⟩ = some (.int .i64 0) := (blk_cell hbox 7).trans rfl; have hfz7 := blk_frozen hbox 7; have hcz8 : w4.cell? ⟨cb, 8, none⟩ = some (.int .i64 0) := (blk_cell hbox 8).trans rfl; have hfz8 := blk_frozen hbox 8; have hcz9 : w4.cell? ⟨cb, 9, none⟩ = some (.int .i64 0) := (blk_cell hbox 9).trans rfl; have hfz9 := blk_frozen hbox 9; have hcz10 : w4.cell? ⟨cb, 10, none⟩ = some (.bool false) := (blk_cell hbox 10).trans rfl; have hfz10 := blk_frozen hbox 10; have hcz11 : w4.cell? ⟨cb, 11, none⟩ = some (.int .i64 0) := (blk_cell hbox 11).trans rfl; have hfz11 := blk_frozen hbox 11; have BX := Aside0.mk hbox; have KX := Aside0.mk hb; have HGB := Aside0.mk hg; clear hbox hb hg)
      have B5 : Below wr.heap.size wr ((((((((((((w4.setCell ⟨cb, 0, none⟩ (.int .i64 x0)).setCell ⟨cb, 1, none⟩ (.int .i64 x1)).setCell ⟨cb, 2, none⟩ (.bool x2)).setCell ⟨cb, 3, none⟩ (.int .i64 x3)).setCell ⟨cb, 4, none⟩ (.int .i64 y0)).setCell ⟨cb, 5, none⟩ (.int .i64 y1)).setCell ⟨cb, 6, none⟩ (.int .i64 y2)).setCell ⟨cb, 7, none⟩ (.int .i64 y3)).setCell ⟨cb, 8, none⟩ (.int .i64 y4)).setCell ⟨cb, 9, none⟩ (.int .i64 y5)).setCell ⟨cb, 10, none⟩ (.bool y6)).setCell ⟨cb, 11, none⟩ (.int .i64 x5)) := lay40_bel (.int .i64 x0) (.int .i64 x1) (.bool x2) (.int .i64 x3) (.int .i64 y0) (.int .i64 y1) (.int .i64 y2) (.int .i64 y3) (.int .i64 y4) (.int .i64 y5) (.bool y6) (.int .i64 x5) KX.out (Nat.le_of_eq HGB.out.symm)
      have X5 : ((((((((((((w4.setCell ⟨cb, 0, none⟩ (.int .i64 x0)).setCell ⟨cb, 1, none⟩ (.int .i64 x1)).setCell ⟨cb, 2, none⟩ (.bool x2)).setCell ⟨cb, 3, none⟩ (.int .i64 x3)).setCell ⟨cb, 4, none⟩ (.int .i64 y0)).setCell ⟨cb, 5, none⟩ (.int .i64 y1)).setCell ⟨cb, 6, none⟩ (.int .i64 y2)).setCell ⟨cb, 7, none⟩ (.int .i64 y3)).setCell ⟨cb, 8, none⟩ (.int .i64 y4)).setCell ⟨cb, 9, none⟩ (.int .i64 y5)).setCell ⟨cb, 10, none⟩ (.bool y6)).setCell ⟨cb, 11, none⟩ (.int .i64 x5)).heap[cb]? = some (.cells #[.int .i64 x0, .int .i64 x1, .bool x2, .int .i64 x3, .int .i64 y0, .int .i64 y1, .int .i64 y2, .int .i64 y3, .int .i64 y4, .int .i64 y5, .bool y6, .int .i64 x5] 40 (0, 0)) := lay40_blk (.int .i64 x0) (.int .i64 x1) (.bool x2) (.int .i64 x3) (.int .i64 y0) (.int .i64 y1) (.int .i64 y2) (.int .i64 y3) (.int .i64 y4) (.int .i64 y5) (.bool y6) (.int .i64 x5) BX.out
      generalize ((((((((((((w4.setCell ⟨cb, 0, none⟩ (.int .i64 x0)).setCell ⟨cb, 1, none⟩ (.int .i64 x1)).setCell ⟨cb, 2, none⟩ (.bool x2)).setCell ⟨cb, 3, none⟩ (.int .i64 x3)).setCell ⟨cb, 4, none⟩ (.int .i64 y0)).setCell ⟨cb, 5, none⟩ (.int .i64 y1)).setCell ⟨cb, 6, none⟩ (.int .i64 y2)).setCell ⟨cb, 7, none⟩ (.int .i64 y3)).setCell ⟨cb, 8, none⟩ (.int .i64 y4)).setCell ⟨cb, 9, none⟩ (.int .i64 y5)).setCell ⟨cb, 10, none⟩ (.bool y6)).setCell ⟨cb, 11, none⟩ (.int .i64 x5)) = w5 at B5 X5 ⊢
      have hz0 : w5.cell? ⟨cb, 0, none⟩ = some (.int .i64 x0) := (blk_cell X5 0).trans rfl
      have hz1 : w5.cell? ⟨cb, 1, none⟩ = some (.int .i64 x1) := (blk_cell X5 1).trans rfl
      have hz2 : w5.cell? ⟨cb, 2, none⟩ = some (.bool x2) := (blk_cell X5 2).trans rfl
      have hz3 : w5.cell? ⟨cb, 3, none⟩ = some (.int .i64 x3) := (blk_cell X5 3).trans rfl
      have hz4 : w5.cell? ⟨cb, 4, none⟩ = some (.int .i64 y0) := (blk_cell X5 4).trans rfl
      have hz5 : w5.cell? ⟨cb, 5, none⟩ = some (.int .i64 y1) := (blk_cell X5 5).trans rfl
      have hz6 : w5.cell? ⟨cb, 6, none⟩ = some (.int .i64 y2) := (blk_cell X5 6).trans rfl
      have hz7 : w5.cell? ⟨cb, 7, none⟩ = some (.int .i64 y3) := (blk_cell X5 7).trans rfl
      have hz8 : w5.cell? ⟨cb, 8, none⟩ = some (.int .i64 y4) := (blk_cell X5 8).trans rfl
      have hz9 : w5.cell? ⟨cb, 9, none⟩ = some (.int .i64 y5) := (blk_cell X5 9).trans rfl
      have hz10 : w5.cell? ⟨cb, 10, none⟩ = some (.bool y6) := (blk_cell X5 10).trans rfl
      have hz11 : w5.cell? ⟨cb, 11, none⟩ = some (.int .i64 x5) := (blk_cell X5 11).trans rfl
      have HB5 := Aside0.mk (below_step HB.out B5)
      have HT5 := Aside0.mk (HT.out.below B5)
      clear hcz0 hfz0 hcz1 hfz1 hcz2 hfz2 hcz3 hfz3 hcz4 hfz4 hcz5 hfz5 hcz6 hfz6 hcz7 hfz7 hcz8 hfz8 hcz9 hfz9 hcz10 hfz10 hcz11 hfz11 BX KX HGB X5 B5 hx0 hx1 hx2 hx3 hx4 hx5 hx6 hx7 hx8 hx9 hx10 hx11 HT HB
      have hpl : P.length ≤ 100 := by have := HI.out.len; have := HN6.out; omega
      have hpl1 : 1 ≤ P.length := by have := HI.out.len; have := HN1.out; omega
      have HPL := Aside0.mk hpl
      have HPL1 := Aside0.mk hpl1
      clear hpl hpl1
      by_cases q0 : x0 = 0
      · subst q0
        have HS := Aside0.mk (set_calls w.heap.size g b cap id P best root change now w w5 HB5.out HB5.out.size HZ.out HNG.out HT5.out HPL.out HI.out.fit x1 x2 (cl x3))
        have HIt0 := Aside0.mk (HI.out.setF (now := now) x1 x2 (cl x3) (cl_le x3))
        generalize setF id now P best root x1 x2 (cl x3) = st at *
        obtain ⟨code, Pt, bt, rt⟩ := st
        dsimp only at HS HIt0
        have HIt := HIt0
        clear HIt0
        have key2 : (1048576 < x3 ∧ cl x3 = 1048576) ∨ (¬ 1048576 < x3 ∧ cl x3 = x3) := by
          unfold cl
          by_cases h : 1048576 < x3
          · rw [if_pos h]; exact .inl ⟨h, rfl⟩
          · rw [if_neg h]; exact .inr ⟨h, rfl⟩
        rcases key2 with ⟨k3, k4⟩ | ⟨k3, k4⟩
        · rw [k4] at HS
          clear k4
          go_upto_region 26 with (go_at_fn 15; refine HS.out.mono ?_; rintro e Wt ⟨rfl, h6, t6⟩; have HTt := Aside0.mk h6; have HBt := Aside0.mk t6.bel; clear h6 t6)
          clear k3 HS
          have hbt := Below.refl Wt.heap.size Wt
          have HBC := Aside0.mk (fun (W : World) (hb : Below Wt.heap.size Wt W) => best_calls (HTt.out.below hb))
          have HRC := Aside0.mk (fun (W : World) (hb : Below Wt.heap.size Wt W) => root_calls (HTt.out.below hb))
          have hh := HIt.out.holds HID.out HBI.out (by decide) (by decide)
          obtain ⟨b0, b1, b2, b3⟩ := bt
          dsimp only at HBC
          rcases hh with ⟨e1, e2, _⟩ | ⟨_, _, k1, _, _, k2, _, _⟩
          · injection e1 with e3 e4 e5 e6
            subst e2 e3 e4 e5 e6
            go_wp2_with (first
              | (go_at_fn 19; refine (HBC.out _ (by assumption)).mono ?_; rintro e w7 ⟨rfl, h7⟩; have hb7 : Below Wt.heap.size Wt w7 := below_step (by assumption) h7; clear h7)
              | (go_at_fn 21; refine (HRC.out _ (by assumption)).mono ?_; rintro e w8 ⟨rfl, e1⟩; have e2 := e1.symm; subst e2))
            go_roundg (l.length - (i + 1))
            case measure => omega
            case rel => exact ⟨i + 1, now, Pt, _, _, change, by go_num, rfl, by omega, Nat.le_refl _, by omega, by omega, ⟨HTt.out.below (by assumption)⟩, HIt, ⟨below_step HBt.out (by assumption)⟩⟩
          · have k1' : b0 < id := k1
            clear k1
            have d1 : decide (id < b0) = false := decide_eq_false (by omega)
            have d2 : decide (rt < 0) = false := decide_eq_false (by omega)
            have d3 : (b0 == id) = false := by simp only [beq_eq_false_iff_ne]; omega
            clear k1' k2
            go_wp2_with (first
              | (go_at_fn 19; refine (HBC.out _ (by assumption)).mono ?_; rintro e w7 ⟨rfl, h7⟩; have hb7 : Below Wt.heap.size Wt w7 := below_step (by assumption) h7; clear h7)
              | (go_at_fn 21; refine (HRC.out _ (by assumption)).mono ?_; rintro e w8 ⟨rfl, e1⟩; have e2 := e1.symm; subst e2))
            go_roundg (l.length - (i + 1))
            case measure => omega
            case rel => exact ⟨i + 1, now, Pt, _, _, change, by go_num, rfl, by omega, Nat.le_refl _, by omega, by omega, ⟨HTt.out.below (by assumption)⟩, HIt, ⟨below_step HBt.out (by assumption)⟩⟩
        · rw [k4] at HS
          clear k4
          go_upto_region 26 with (go_at_fn 15; refine HS.out.mono ?_; rintro e Wt ⟨rfl, h6, t6⟩; have HTt := Aside0.mk h6; have HBt := Aside0.mk t6.bel; clear h6 t6)
          clear k3 HS
          have hbt := Below.refl Wt.heap.size Wt
          have HBC := Aside0.mk (fun (W : World) (hb : Below Wt.heap.size Wt W) => best_calls (HTt.out.below hb))
          have HRC := Aside0.mk (fun (W : World) (hb : Below Wt.heap.size Wt W) => root_calls (HTt.out.below hb))
          have hh := HIt.out.holds HID.out HBI.out (by decide) (by decide)
          obtain ⟨b0, b1, b2, b3⟩ := bt
          dsimp only at HBC
          rcases hh with ⟨e1, e2, _⟩ | ⟨_, _, k1, _, _, k2, _, _⟩
          · injection e1 with e3 e4 e5 e6
            subst e2 e3 e4 e5 e6
            go_wp2_with (first
              | (go_at_fn 19; refine (HBC.out _ (by assumption)).mono ?_; rintro e w7 ⟨rfl, h7⟩; have hb7 : Below Wt.heap.size Wt w7 := below_step (by assumption) h7; clear h7)
              | (go_at_fn 21; refine (HRC.out _ (by assumption)).mono ?_; rintro e w8 ⟨rfl, e1⟩; have e2 := e1.symm; subst e2))
            go_roundg (l.length - (i + 1))
            case measure => omega
            case rel => exact ⟨i + 1, now, Pt, _, _, change, by go_num, rfl, by omega, Nat.le_refl _, by omega, by omega, ⟨HTt.out.below (by assumption)⟩, HIt, ⟨below_step HBt.out (by assumption)⟩⟩
          · have k1' : b0 < id := k1
            clear k1
            have d1 : decide (id < b0) = false := decide_eq_false (by omega)
            have d2 : decide (rt < 0) = false := decide_eq_false (by omega)
            have d3 : (b0 == id) = false := by simp only [beq_eq_false_iff_ne]; omega
            clear k1' k2
            go_wp2_with (first
              | (go_at_fn 19; refine (HBC.out _ (by assumption)).mono ?_; rintro e w7 ⟨rfl, h7⟩; have hb7 : Below Wt.heap.size Wt w7 := below_step (by assumption) h7; clear h7)
              | (go_at_fn 21; refine (HRC.out _ (by assumption)).mono ?_; rintro e w8 ⟨rfl, e1⟩; have e2 := e1.symm; subst e2))
            go_roundg (l.length - (i + 1))
            case measure => omega
            case rel => exact ⟨i + 1, now, Pt, _, _, change, by go_num, rfl, by omega, Nat.le_refl _, by omega, by omega, ⟨HTt.out.below (by assumption)⟩, HIt, ⟨below_step HBt.out (by assumption)⟩⟩
      · by_cases q1 : x0 = 1
        · subst q1
          clear q0
          have hm : FitB ⟨⟨y0, y1, y2, y3⟩, y4, y5, y6⟩ := HFX.out.2.2
          have HS := Aside0.mk (fun (W : World) (hb : Below w.heap.size w W) (ht : Tre W w.heap.size g b cap id P best root change) => hear_calls w.heap.size g b cap id P best root change now w W hb hb.size ht HPL.out HI.out.fit x1 (clB ⟨⟨y0, y1, y2, y3⟩, y4, y5, y6⟩) (clB_fit hm))
          have HIt0 := Aside0.mk (HI.out.hearF (now := now) x1 (clB ⟨⟨y0, y1, y2, y3⟩, y4, y5, y6⟩) (clB_fit hm) (cl_le y1))
          generalize hearF id now P best root x1 (clB ⟨⟨y0, y1, y2, y3⟩, y4, y5, y6⟩) = st at *
          obtain ⟨code, Pt, bt, rt⟩ := st
          dsimp only at HIt0
          dsimp only [clB, val38] at HS
          have HIt := HIt0
          have HZ1 := Aside0.mk hz1
          clear HIt0 hm
          have key2 : (1048576 < y1 ∧ cl y1 = 1048576) ∨ (¬ 1048576 < y1 ∧ cl y1 = y1) := by
            unfold cl
            by_cases h : 1048576 < y1
            · rw [if_pos h]; exact .inl ⟨h, rfl⟩
            · rw [if_neg h]; exact .inr ⟨h, rfl⟩
          go_upto_region 15 with ((with_reducible refine gate_dst (N := 11) rfl ?_); refine box_event ?hg (N := 11) ?hd (cs := #[.int .i64 0, .int .i64 0, .int .i64 0, .int .i64 0, .int .i64 0, .int .i64 0, .bool false]) (t := 38) ?hr ?_; (case hd => rfl); (case hg => rfl); (case hr => first | (go_simp; done) | (go_simp; rfl)); intro bb hg w6 hbox hb; have hcz0 : w6.cell? ⟨bb, 0, none⟩ = some (.int .i64 0) := (blk_cell hbox 0).trans rfl; have hfz0 := blk_frozen hbox 0; have hcz1 : w6.cell? ⟨bb, 1, none⟩ = some (.int .i64 0) := (blk_cell hbox 1).trans rfl; have hfz1 := blk_frozen hbox 1; have hcz2 : w6.cell? ⟨bb, 2, none⟩ = some (.int .i64 0) := (blk_cell hbox 2).trans rfl; have hfz2 := blk_frozen hbox 2; have hcz3 : w6.cell? ⟨bb, 3, none⟩ = some (.int .i64 0) := (blk_cell hbox 3).trans rfl; have hfz3 := blk_frozen hbox 3; have hcz4 : w6.cell? ⟨bb, 4, none⟩ = some (.int .i64 0) := (blk_cell hbox 4).trans rfl; have hfz4 := blk_frozen hbox 4; have hcz5 : w6.cell? ⟨bb, 5, none⟩ = some (.int .i64 0) := (blk_cell hbox 5).trans rfl; have hfz5 := blk_frozen hbox 5; have hcz6 : w6.cell? ⟨bb, 6, none⟩ = some (.bool false) := (blk_cell hbox 6).trans rfl; have hfz6 := blk_frozen hbox 6; have BX := Aside0.mk hbox; have KX := Aside0.mk hb; have HGB := Aside0.mk hg; clear hbox hb hg)
          have B7 : Below w5.heap.size w5 (((((((w6.setCell ⟨bb, 0, none⟩ (.int .i64 y0)).setCell ⟨bb, 1, none⟩ (.int .i64 y1)).setCell ⟨bb, 2, none⟩ (.int .i64 y2)).setCell ⟨bb, 3, none⟩ (.int .i64 y3)).setCell ⟨bb, 4, none⟩ (.int .i64 y4)).setCell ⟨bb, 5, none⟩ (.int .i64 y5)).setCell ⟨bb, 6, none⟩ (.bool y6)) := lay38_bel (.int .i64 y0) (.int .i64 y1) (.int .i64 y2) (.int .i64 y3) (.int .i64 y4) (.int .i64 y5) (.bool y6) KX.out (Nat.le_of_eq HGB.out.symm)
          have X7 : (((((((w6.setCell ⟨bb, 0, none⟩ (.int .i64 y0)).setCell ⟨bb, 1, none⟩ (.int .i64 y1)).setCell ⟨bb, 2, none⟩ (.int .i64 y2)).setCell ⟨bb, 3, none⟩ (.int .i64 y3)).setCell ⟨bb, 4, none⟩ (.int .i64 y4)).setCell ⟨bb, 5, none⟩ (.int .i64 y5)).setCell ⟨bb, 6, none⟩ (.bool y6)).heap[bb]? = some (.cells #[.int .i64 y0, .int .i64 y1, .int .i64 y2, .int .i64 y3, .int .i64 y4, .int .i64 y5, .bool y6] 38 (0, 0)) := lay38_blk (.int .i64 y0) (.int .i64 y1) (.int .i64 y2) (.int .i64 y3) (.int .i64 y4) (.int .i64 y5) (.bool y6) BX.out
          have hbb : w5.heap.size ≤ bb := Nat.le_of_eq HGB.out.symm
          generalize (((((((w6.setCell ⟨bb, 0, none⟩ (.int .i64 y0)).setCell ⟨bb, 1, none⟩ (.int .i64 y1)).setCell ⟨bb, 2, none⟩ (.int .i64 y2)).setCell ⟨bb, 3, none⟩ (.int .i64 y3)).setCell ⟨bb, 4, none⟩ (.int .i64 y4)).setCell ⟨bb, 5, none⟩ (.int .i64 y5)).setCell ⟨bb, 6, none⟩ (.bool y6)) = w7 at B7 X7 ⊢
          have hfv := blk_frozen X7 1
          have hv0 : w7.cell? ⟨bb, 0, none⟩ = some (.int .i64 y0) := (blk_cell X7 0).trans rfl
          have hv1 : w7.cell? ⟨bb, 1, none⟩ = some (.int .i64 y1) := (blk_cell X7 1).trans rfl
          have hv2 : w7.cell? ⟨bb, 2, none⟩ = some (.int .i64 y2) := (blk_cell X7 2).trans rfl
          have hv3 : w7.cell? ⟨bb, 3, none⟩ = some (.int .i64 y3) := (blk_cell X7 3).trans rfl
          have hv4 : w7.cell? ⟨bb, 4, none⟩ = some (.int .i64 y4) := (blk_cell X7 4).trans rfl
          have hv5 : w7.cell? ⟨bb, 5, none⟩ = some (.int .i64 y5) := (blk_cell X7 5).trans rfl
          have hv6 : w7.cell? ⟨bb, 6, none⟩ = some (.bool y6) := (blk_cell X7 6).trans rfl
          clear hcz0 hfz0 hcz1 hfz1 hcz2 hfz2 hcz3 hfz3 hcz4 hfz4 hcz5 hfz5 hcz6 hfz6 BX KX HGB
          rcases key2 with ⟨k3, k4⟩ | ⟨k3, k4⟩
          · rw [k4] at HS
            clear k4
            go_upto_region 16 with fail
            have B8 := below_set B7 hbb (j := 1) (v := .int .i64 1048576)
            have X8 : (w7.setCell ⟨bb, 1, none⟩ (.int .i64 1048576)).heap[bb]? = some (.cells #[.int .i64 y0, .int .i64 1048576, .int .i64 y2, .int .i64 y3, .int .i64 y4, .int .i64 y5, .bool y6] 38 (0, 0)) := blk_put X7 1 _ rfl
            generalize w7.setCell ⟨bb, 1, none⟩ (.int .i64 1048576) = w8 at B8 X8 ⊢
            clear hv0 hv1 hv2 hv3 hv4 hv5 hv6 hfv hz0 hz1 hz2 hz3 hz4 hz5 hz6 hz7 hz8 hz9 hz10 hz11
            have hv0 : w8.cell? ⟨bb, 0, none⟩ = some (.int .i64 y0) := (blk_cell X8 0).trans rfl
            have hv1 : w8.cell? ⟨bb, 1, none⟩ = some (.int .i64 1048576) := (blk_cell X8 1).trans rfl
            have hv2 : w8.cell? ⟨bb, 2, none⟩ = some (.int .i64 y2) := (blk_cell X8 2).trans rfl
            have hv3 : w8.cell? ⟨bb, 3, none⟩ = some (.int .i64 y3) := (blk_cell X8 3).trans rfl
            have hv4 : w8.cell? ⟨bb, 4, none⟩ = some (.int .i64 y4) := (blk_cell X8 4).trans rfl
            have hv5 : w8.cell? ⟨bb, 5, none⟩ = some (.int .i64 y5) := (blk_cell X8 5).trans rfl
            have hv6 : w8.cell? ⟨bb, 6, none⟩ = some (.bool y6) := (blk_cell X8 6).trans rfl
            have hq1 : w8.cell? ⟨cb, 1, none⟩ = some (.int .i64 x1) := pw_cell_below B8 HZ1.out
            have HB8 := Aside0.mk (below_step HB5.out B8)
            have HT8 := Aside0.mk (HT5.out.below B8)
            have HB8P := HB8.out.size
            clear B7 X7 B8 X8
            go_upto_region 26 with (go_at_fn 16; refine (HS.out w8 HB8.out HT8.out).mono ?_; rintro e Wt ⟨rfl, h6, t6⟩; have HTt := Aside0.mk h6; have HBt := Aside0.mk t6.bel; clear h6 t6)
            clear k3 HS
            have hbt := Below.refl Wt.heap.size Wt
            have HBC := Aside0.mk (fun (W : World) (hb : Below Wt.heap.size Wt W) => best_calls (HTt.out.below hb))
            have HRC := Aside0.mk (fun (W : World) (hb : Below Wt.heap.size Wt W) => root_calls (HTt.out.below hb))
            have hh := HIt.out.holds HID.out HBI.out (by decide) (by decide)
            obtain ⟨b0, b1, b2, b3⟩ := bt
            dsimp only at HBC
            rcases hh with ⟨e1, e2, _⟩ | ⟨_, _, k1, _, _, k2, _, _⟩
            · injection e1 with e3 e4 e5 e6
              subst e2 e3 e4 e5 e6
              go_wp2_with (first
                | (go_at_fn 19; refine (HBC.out _ (by assumption)).mono ?_; rintro e w7 ⟨rfl, h7⟩; have hb7 : Below Wt.heap.size Wt w7 := below_step (by assumption) h7; clear h7)
                | (go_at_fn 21; refine (HRC.out _ (by assumption)).mono ?_; rintro e w8 ⟨rfl, e1⟩; have e2 := e1.symm; subst e2))
              go_roundg (l.length - (i + 1))
              case measure => omega
              case rel => exact ⟨i + 1, now, Pt, _, _, change, by go_num, rfl, by omega, Nat.le_refl _, by omega, by omega, ⟨HTt.out.below (by assumption)⟩, HIt, ⟨below_step HBt.out (by assumption)⟩⟩
            · have k1' : b0 < id := k1
              clear k1
              have d1 : decide (id < b0) = false := decide_eq_false (by omega)
              have d2 : decide (rt < 0) = false := decide_eq_false (by omega)
              have d3 : (b0 == id) = false := by simp only [beq_eq_false_iff_ne]; omega
              clear k1' k2
              go_wp2_with (first
                | (go_at_fn 19; refine (HBC.out _ (by assumption)).mono ?_; rintro e w7 ⟨rfl, h7⟩; have hb7 : Below Wt.heap.size Wt w7 := below_step (by assumption) h7; clear h7)
                | (go_at_fn 21; refine (HRC.out _ (by assumption)).mono ?_; rintro e w8 ⟨rfl, e1⟩; have e2 := e1.symm; subst e2))
              go_roundg (l.length - (i + 1))
              case measure => omega
              case rel => exact ⟨i + 1, now, Pt, _, _, change, by go_num, rfl, by omega, Nat.le_refl _, by omega, by omega, ⟨HTt.out.below (by assumption)⟩, HIt, ⟨below_step HBt.out (by assumption)⟩⟩
          · rw [k4] at HS
            clear k4
            go_upto_region 16 with fail
            have B8 := below_set B7 hbb (j := 1) (v := .int .i64 y1)
            have X8 : (w7.setCell ⟨bb, 1, none⟩ (.int .i64 y1)).heap[bb]? = some (.cells #[.int .i64 y0, .int .i64 y1, .int .i64 y2, .int .i64 y3, .int .i64 y4, .int .i64 y5, .bool y6] 38 (0, 0)) := blk_put X7 1 _ rfl
            generalize w7.setCell ⟨bb, 1, none⟩ (.int .i64 y1) = w8 at B8 X8 ⊢
            clear hv0 hv1 hv2 hv3 hv4 hv5 hv6 hfv hz0 hz1 hz2 hz3 hz4 hz5 hz6 hz7 hz8 hz9 hz10 hz11
            have hv0 : w8.cell? ⟨bb, 0, none⟩ = some (.int .i64 y0) := (blk_cell X8 0).trans rfl
            have hv1 : w8.cell? ⟨bb, 1, none⟩ = some (.int .i64 y1) := (blk_cell X8 1).trans rfl
            have hv2 : w8.cell? ⟨bb, 2, none⟩ = some (.int .i64 y2) := (blk_cell X8 2).trans rfl
            have hv3 : w8.cell? ⟨bb, 3, none⟩ = some (.int .i64 y3) := (blk_cell X8 3).trans rfl
            have hv4 : w8.cell? ⟨bb, 4, none⟩ = some (.int .i64 y4) := (blk_cell X8 4).trans rfl
            have hv5 : w8.cell? ⟨bb, 5, none⟩ = some (.int .i64 y5) := (blk_cell X8 5).trans rfl
            have hv6 : w8.cell? ⟨bb, 6, none⟩ = some (.bool y6) := (blk_cell X8 6).trans rfl
            have hq1 : w8.cell? ⟨cb, 1, none⟩ = some (.int .i64 x1) := pw_cell_below B8 HZ1.out
            have HB8 := Aside0.mk (below_step HB5.out B8)
            have HT8 := Aside0.mk (HT5.out.below B8)
            have HB8P := HB8.out.size
            clear B7 X7 B8 X8
            go_upto_region 26 with (go_at_fn 16; refine (HS.out w8 HB8.out HT8.out).mono ?_; rintro e Wt ⟨rfl, h6, t6⟩; have HTt := Aside0.mk h6; have HBt := Aside0.mk t6.bel; clear h6 t6)
            clear k3 HS
            have hbt := Below.refl Wt.heap.size Wt
            have HBC := Aside0.mk (fun (W : World) (hb : Below Wt.heap.size Wt W) => best_calls (HTt.out.below hb))
            have HRC := Aside0.mk (fun (W : World) (hb : Below Wt.heap.size Wt W) => root_calls (HTt.out.below hb))
            have hh := HIt.out.holds HID.out HBI.out (by decide) (by decide)
            obtain ⟨b0, b1, b2, b3⟩ := bt
            dsimp only at HBC
            rcases hh with ⟨e1, e2, _⟩ | ⟨_, _, k1, _, _, k2, _, _⟩
            · injection e1 with e3 e4 e5 e6
              subst e2 e3 e4 e5 e6
              go_wp2_with (first
                | (go_at_fn 19; refine (HBC.out _ (by assumption)).mono ?_; rintro e w7 ⟨rfl, h7⟩; have hb7 : Below Wt.heap.size Wt w7 := below_step (by assumption) h7; clear h7)
                | (go_at_fn 21; refine (HRC.out _ (by assumption)).mono ?_; rintro e w8 ⟨rfl, e1⟩; have e2 := e1.symm; subst e2))
              go_roundg (l.length - (i + 1))
              case measure => omega
              case rel => exact ⟨i + 1, now, Pt, _, _, change, by go_num, rfl, by omega, Nat.le_refl _, by omega, by omega, ⟨HTt.out.below (by assumption)⟩, HIt, ⟨below_step HBt.out (by assumption)⟩⟩
            · have k1' : b0 < id := k1
              clear k1
              have d1 : decide (id < b0) = false := decide_eq_false (by omega)
              have d2 : decide (rt < 0) = false := decide_eq_false (by omega)
              have d3 : (b0 == id) = false := by simp only [beq_eq_false_iff_ne]; omega
              clear k1' k2
              go_wp2_with (first
                | (go_at_fn 19; refine (HBC.out _ (by assumption)).mono ?_; rintro e w7 ⟨rfl, h7⟩; have hb7 : Below Wt.heap.size Wt w7 := below_step (by assumption) h7; clear h7)
                | (go_at_fn 21; refine (HRC.out _ (by assumption)).mono ?_; rintro e w8 ⟨rfl, e1⟩; have e2 := e1.symm; subst e2))
              go_roundg (l.length - (i + 1))
              case measure => omega
              case rel => exact ⟨i + 1, now, Pt, _, _, change, by go_num, rfl, by omega, Nat.le_refl _, by omega, by omega, ⟨HTt.out.below (by assumption)⟩, HIt, ⟨below_step HBt.out (by assumption)⟩⟩
        · by_cases q2 : x0 = 2
          · subst q2
            clear q0 q1
            have hx5 : 0 ≤ x5 ∧ x5 ≤ 1000 := hwx
            have HTK := Aside0.mk (tick_calls w.heap.size g b cap id P best root change (now + x5) w w5 HB5.out HB5.out.size HZ.out HNG.out HT5.out HPL.out HPL1.out HI.out.fit (by omega) (by omega))
            have HIt0 := Aside0.mk (HI.out.tick (now := now + x5))
            have hmem0 : ∀ x ∈ tickL id (now + x5) P change, ∃ k, ∃ h : k < (tickP id (now + x5) P).length, x = sayOf (tickB id (now + x5) P).1 id (ageR (tickP id (now + x5) P) (tickB id (now + x5) P).2) (decide (now + x5 ≤ tickC id (now + x5) P change)) k ∧ roleAt (tickP id (now + x5) P) (k : Int) = 2 := fun x hx => tick_mem hx
            have hLL : (tickL id (now + x5) P change).length ≤ 100 := Nat.le_trans (tickL_len _ _ _ _) HPL.out
            generalize tickL id (now + x5) P change = L at *
            generalize tickC id (now + x5) P change = cht at *
            generalize tickP id (now + x5) P = Pt at *
            generalize tickB id (now + x5) P = B at *
            obtain ⟨bt, rt⟩ := B
            dsimp only at HTK HIt0 hmem0
            have HIt := HIt0
            clear HIt0 hwx
            have hh := HIt.out.holds HID.out HBI.out (by decide) (by decide)
            have hlen := HIt.out.len
            obtain ⟨b0, b1, b2, b3⟩ := bt
            dsimp only at HTK hmem0 hh
            have key5 : brid b0 = true ∧ Pri.Fit b0 ∧ 0 ≤ b1 ∧ b1 ≤ 2147483647 ∧ 0 ≤ ageR Pt rt ∧ ageR Pt rt ≤ 10 ∧ ((ageR Pt rt = 0 ∧ b0 = id) ∨ (ageR Pt rt ≠ 0 ∧ b0 ≠ id)) := by
              rcases hh with ⟨e1, e2, e3⟩ | ⟨k1, k2, k3, k4, k5, k6, k7, k8⟩
              · injection e1 with e4 e5 e6 e7
                rw [e3, e4, e5]
                exact ⟨HBI.out, HID.out, by decide, by decide, by decide, by decide, .inl ⟨rfl, rfl⟩⟩
              · exact ⟨k1, k2, k4, k5, by omega, k8, .inr ⟨by omega, by omega⟩⟩
            have hgood : ∀ (kk : Nat) (cc : Bool), kk < Pt.length → goodB (sayOf ⟨b0, b1, b2, b3⟩ id (ageR Pt rt) cc kk).f1 = true ∧ FitB (sayOf ⟨b0, b1, b2, b3⟩ id (ageR Pt rt) cc kk).f1 := fun kk cc hk =>
              ⟨say_good HBI.out key5.1 key5.2.2.1 key5.2.2.2.1 (by have := HN6.out; omega) key5.2.2.2.2.1 key5.2.2.2.2.2.1, key5.2.1, ⟨by have := key5.2.2.1; show _ ≤ b1; omega, by have := key5.2.2.2.1; show b1 ≤ _; omega⟩, HID.out⟩
            have HGOOD := Aside0.mk hgood
            have HKEY := Aside0.mk key5.2.2.2.2.2.2
            have HMEM := Aside0.mk hmem0
            clear hgood key5 hmem0 hh hlen
            generalize ageR Pt rt = ag at *
            generalize decide (now + x5 ≤ cht) = cc at *
            go_upto_region 19 with fail
            go_wp2_with (go_at_fn 17; refine HTK.out.mono ?_; rintro e w6 ⟨v6, rfl, hr6, h6, t6⟩; have HT6 := Aside0.mk h6; have HB6 := Aside0.mk t6.bel; obtain ⟨A6, c6, rfl, hc6, hC6⟩ := Gen.R_open hr6; have HC6 := Aside0.mk hC6; clear h6 t6 hr6 hC6)
            clear HTK
            go_loopg [81] L.length (fun gk s81 wq => ∃ j : Nat, s81 = .int .i64 j ∧ j ≤ L.length ∧ L.length - j ≤ gk ∧ Aside0 (Below w6.heap.size w6 wq))
            case atStart => exact ⟨0, rfl, Nat.zero_le _, by omega, ⟨Below.refl _ _⟩⟩
            case round =>
              obtain ⟨j, rfl, hjl, hgj, HBq⟩ := hrel
              by_cases hjt : j < L.length
              · have hjz : (j : Int) < (L.length : Int) := by omega
                obtain ⟨ad6, ea, hx0, hx1, hx2, hx3, hx4, hx5, hx6, hx7⟩ := at_T47 (Kd.C_below HC6.out HBq.out) (j : Int) (by omega) hjz
                rw [rd47 hjt, Int.toNat_natCast] at hx0 hx1 hx2 hx3 hx4 hx5 hx6 hx7
                subst ea
                obtain ⟨kk, hkk, ex, hrl⟩ := HMEM.out _ (List.getElem_mem hjt)
                rw [ex] at hx0 hx1 hx2 hx3 hx4 hx5 hx6 hx7
                dsimp only [sayOf] at hx0 hx1 hx2 hx3 hx4 hx5 hx6 hx7
                have HRLE := Aside0.mk hrl
                have HG2 := HGOOD.out kk cc hkk
                have HGD := Aside0.mk (fun W => rgood_calls _ HG2.2 W)
                rw [HG2.1] at HGD
                dsimp only [sayOf, val38] at HGD
                clear ex hrl HG2 hkk
                go_upto_region 22 with ((with_reducible refine gate_dst (N := 13) rfl ?_); refine box_event ?hg (N := 13) ?hd (cs := #[.int .i64 0, .int .i64 0, .int .i64 0, .int .i64 0, .int .i64 0, .int .i64 0, .int .i64 0, .bool false]) (t := 47) ?hr ?_; (case hd => rfl); (case hg => rfl); (case hr => first | (go_simp; done) | (go_simp; rfl)); intro xb hg w7 hbox hb; have hcz0 : w7.cell? ⟨xb, 0, none⟩ = some (.int .i64 0) := (blk_cell hbox 0).trans rfl; have hfz0 := blk_frozen hbox 0; have hcz1 : w7.cell? ⟨xb, 1, none⟩ = some (.int .i64 0) := (blk_cell hbox 1).trans rfl; have hfz1 := blk_frozen hbox 1; have hcz2 : w7.cell? ⟨xb, 2, none⟩ = some (.int .i64 0) := (blk_cell hbox 2).trans rfl; have hfz2 := blk_frozen hbox 2; have hcz3 : w7.cell? ⟨xb, 3, none⟩ = some (.int .i64 0) := (blk_cell hbox 3).trans rfl; have hfz3 := blk_frozen hbox 3; have hcz4 : w7.cell? ⟨xb, 4, none⟩ = some (.int .i64 0) := (blk_cell hbox 4).trans rfl; have hfz4 := blk_frozen hbox 4; have hcz5 : w7.cell? ⟨xb, 5, none⟩ = some (.int .i64 0) := (blk_cell hbox 5).trans rfl; have hfz5 := blk_frozen hbox 5; have hcz6 : w7.cell? ⟨xb, 6, none⟩ = some (.int .i64 0) := (blk_cell hbox 6).trans rfl; have hfz6 := blk_frozen hbox 6; have hcz7 : w7.cell? ⟨xb, 7, none⟩ = some (.bool false) := (blk_cell hbox 7).trans rfl; have hfz7 := blk_frozen hbox 7; have BX := Aside0.mk hbox; have KX := Aside0.mk hb; have HGB := Aside0.mk hg; clear hbox hb hg)
                have B8 : Below wr.heap.size wr ((((((((w7.setCell ⟨xb, 0, none⟩ (.int .i64 (kk : Nat))).setCell ⟨xb, 1, none⟩ (.int .i64 b0)).setCell ⟨xb, 2, none⟩ (.int .i64 b1)).setCell ⟨xb, 3, none⟩ (.int .i64 id)).setCell ⟨xb, 4, none⟩ (.int .i64 (kk : Nat))).setCell ⟨xb, 5, none⟩ (.int .i64 ag)).setCell ⟨xb, 6, none⟩ (.int .i64 2)).setCell ⟨xb, 7, none⟩ (.bool cc)) := lay47_bel (.int .i64 (kk : Nat)) (.int .i64 b0) (.int .i64 b1) (.int .i64 id) (.int .i64 (kk : Nat)) (.int .i64 ag) (.int .i64 2) (.bool cc) KX.out (Nat.le_of_eq HGB.out.symm)
                have X8 : ((((((((w7.setCell ⟨xb, 0, none⟩ (.int .i64 (kk : Nat))).setCell ⟨xb, 1, none⟩ (.int .i64 b0)).setCell ⟨xb, 2, none⟩ (.int .i64 b1)).setCell ⟨xb, 3, none⟩ (.int .i64 id)).setCell ⟨xb, 4, none⟩ (.int .i64 (kk : Nat))).setCell ⟨xb, 5, none⟩ (.int .i64 ag)).setCell ⟨xb, 6, none⟩ (.int .i64 2)).setCell ⟨xb, 7, none⟩ (.bool cc)).heap[xb]? = some (.cells #[.int .i64 (kk : Nat), .int .i64 b0, .int .i64 b1, .int .i64 id, .int .i64 (kk : Nat), .int .i64 ag, .int .i64 2, .bool cc] 47 (0, 0)) := lay47_blk (.int .i64 (kk : Nat)) (.int .i64 b0) (.int .i64 b1) (.int .i64 id) (.int .i64 (kk : Nat)) (.int .i64 ag) (.int .i64 2) (.bool cc) BX.out
                generalize ((((((((w7.setCell ⟨xb, 0, none⟩ (.int .i64 (kk : Nat))).setCell ⟨xb, 1, none⟩ (.int .i64 b0)).setCell ⟨xb, 2, none⟩ (.int .i64 b1)).setCell ⟨xb, 3, none⟩ (.int .i64 id)).setCell ⟨xb, 4, none⟩ (.int .i64 (kk : Nat))).setCell ⟨xb, 5, none⟩ (.int .i64 ag)).setCell ⟨xb, 6, none⟩ (.int .i64 2)).setCell ⟨xb, 7, none⟩ (.bool cc)) = w8 at B8 X8 ⊢
                have hu0 : w8.cell? ⟨xb, 0, none⟩ = some (.int .i64 (kk : Nat)) := (blk_cell X8 0).trans rfl
                have hu1 : w8.cell? ⟨xb, 1, none⟩ = some (.int .i64 b0) := (blk_cell X8 1).trans rfl
                have hu2 : w8.cell? ⟨xb, 2, none⟩ = some (.int .i64 b1) := (blk_cell X8 2).trans rfl
                have hu3 : w8.cell? ⟨xb, 3, none⟩ = some (.int .i64 id) := (blk_cell X8 3).trans rfl
                have hu4 : w8.cell? ⟨xb, 4, none⟩ = some (.int .i64 (kk : Nat)) := (blk_cell X8 4).trans rfl
                have hu5 : w8.cell? ⟨xb, 5, none⟩ = some (.int .i64 ag) := (blk_cell X8 5).trans rfl
                have hu6 : w8.cell? ⟨xb, 6, none⟩ = some (.int .i64 2) := (blk_cell X8 6).trans rfl
                have hu7 : w8.cell? ⟨xb, 7, none⟩ = some (.bool cc) := (blk_cell X8 7).trans rfl
                have HB8 := Aside0.mk (below_step HBq.out B8)
                clear hcz0 hfz0 hcz1 hfz1 hcz2 hfz2 hcz3 hfz3 hcz4 hfz4 hcz5 hfz5 hcz6 hfz6 hcz7 hfz7 BX KX HGB X8 B8 hx0 hx1 hx2 hx3 hx4 hx5 hx6 hx7
                go_upto_region 23 with ((with_reducible refine gate_dst (N := 14) rfl ?_); refine box_event ?hg (N := 14) ?hd (cs := #[.int .i64 0, .int .i64 0, .int .i64 0, .int .i64 0]) (t := 36) ?hr ?_; (case hd => rfl); (case hg => rfl); (case hr => first | (go_simp; done) | (go_simp; rfl)); intro vb hg w9 hbox hb; have hcz0 : w9.cell? ⟨vb, 0, none⟩ = some (.int .i64 0) := (blk_cell hbox 0).trans rfl; have hfz0 := blk_frozen hbox 0; have hcz1 : w9.cell? ⟨vb, 1, none⟩ = some (.int .i64 0) := (blk_cell hbox 1).trans rfl; have hfz1 := blk_frozen hbox 1; have hcz2 : w9.cell? ⟨vb, 2, none⟩ = some (.int .i64 0) := (blk_cell hbox 2).trans rfl; have hfz2 := blk_frozen hbox 2; have hcz3 : w9.cell? ⟨vb, 3, none⟩ = some (.int .i64 0) := (blk_cell hbox 3).trans rfl; have hfz3 := blk_frozen hbox 3; have BX := Aside0.mk hbox; have KX := Aside0.mk hb; have HGB := Aside0.mk hg; clear hbox hb hg)
                have B10 : Below w8.heap.size w8 ((((w9.setCell ⟨vb, 0, none⟩ (.int .i64 b0)).setCell ⟨vb, 1, none⟩ (.int .i64 b1)).setCell ⟨vb, 2, none⟩ (.int .i64 id)).setCell ⟨vb, 3, none⟩ (.int .i64 (kk : Nat))) := lay36_bel (.int .i64 b0) (.int .i64 b1) (.int .i64 id) (.int .i64 (kk : Nat)) KX.out (Nat.le_of_eq HGB.out.symm)
                have X10 : ((((w9.setCell ⟨vb, 0, none⟩ (.int .i64 b0)).setCell ⟨vb, 1, none⟩ (.int .i64 b1)).setCell ⟨vb, 2, none⟩ (.int .i64 id)).setCell ⟨vb, 3, none⟩ (.int .i64 (kk : Nat))).heap[vb]? = some (.cells #[.int .i64 b0, .int .i64 b1, .int .i64 id, .int .i64 (kk : Nat)] 36 (0, 0)) := lay36_blk (.int .i64 b0) (.int .i64 b1) (.int .i64 id) (.int .i64 (kk : Nat)) BX.out
                generalize ((((w9.setCell ⟨vb, 0, none⟩ (.int .i64 b0)).setCell ⟨vb, 1, none⟩ (.int .i64 b1)).setCell ⟨vb, 2, none⟩ (.int .i64 id)).setCell ⟨vb, 3, none⟩ (.int .i64 (kk : Nat))) = w10 at B10 X10 ⊢
                have hw0 : w10.cell? ⟨xb, 0, none⟩ = some (.int .i64 (kk : Nat)) := pw_cell_below B10 hu0
                have hw1 : w10.cell? ⟨xb, 1, none⟩ = some (.int .i64 b0) := pw_cell_below B10 hu1
                have hw2 : w10.cell? ⟨xb, 2, none⟩ = some (.int .i64 b1) := pw_cell_below B10 hu2
                have hw3 : w10.cell? ⟨xb, 3, none⟩ = some (.int .i64 id) := pw_cell_below B10 hu3
                have hw4 : w10.cell? ⟨xb, 4, none⟩ = some (.int .i64 (kk : Nat)) := pw_cell_below B10 hu4
                have hw5 : w10.cell? ⟨xb, 5, none⟩ = some (.int .i64 ag) := pw_cell_below B10 hu5
                have hw6 : w10.cell? ⟨xb, 6, none⟩ = some (.int .i64 2) := pw_cell_below B10 hu6
                have hw7 : w10.cell? ⟨xb, 7, none⟩ = some (.bool cc) := pw_cell_below B10 hu7
                have hv0 : w10.cell? ⟨vb, 0, none⟩ = some (.int .i64 b0) := (blk_cell X10 0).trans rfl
                have hv1 : w10.cell? ⟨vb, 1, none⟩ = some (.int .i64 b1) := (blk_cell X10 1).trans rfl
                have hv2 : w10.cell? ⟨vb, 2, none⟩ = some (.int .i64 id) := (blk_cell X10 2).trans rfl
                have hv3 : w10.cell? ⟨vb, 3, none⟩ = some (.int .i64 (kk : Nat)) := (blk_cell X10 3).trans rfl
                have HB10 := Aside0.mk (below_step HB8.out B10)
                clear hcz0 hfz0 hcz1 hfz1 hcz2 hfz2 hcz3 hfz3 BX KX HGB X10 B10 hu0 hu1 hu2 hu3 hu4 hu5 hu6 hu7
                have hbt := Below.refl w10.heap.size w10
                have HS9 := Aside0.mk (fun (W : World) (hb : Below w10.heap.size w10 W) => (⟨pw_cell_below hb hw0, pw_cell_below hb hw1, pw_cell_below hb hw2, pw_cell_below hb hw3, pw_cell_below hb hw4, pw_cell_below hb hw5, pw_cell_below hb hw6, pw_cell_below hb hw7, pw_cell_below hb hv0, pw_cell_below hb hv1, pw_cell_below hb hv2, pw_cell_below hb hv3, hb⟩ : W.cell? ⟨xb, 0, none⟩ = some (.int .i64 (kk : Nat)) ∧ W.cell? ⟨xb, 1, none⟩ = some (.int .i64 b0) ∧ W.cell? ⟨xb, 2, none⟩ = some (.int .i64 b1) ∧ W.cell? ⟨xb, 3, none⟩ = some (.int .i64 id) ∧ W.cell? ⟨xb, 4, none⟩ = some (.int .i64 (kk : Nat)) ∧ W.cell? ⟨xb, 5, none⟩ = some (.int .i64 ag) ∧ W.cell? ⟨xb, 6, none⟩ = some (.int .i64 2) ∧ W.cell? ⟨xb, 7, none⟩ = some (.bool cc) ∧ W.cell? ⟨vb, 0, none⟩ = some (.int .i64 b0) ∧ W.cell? ⟨vb, 1, none⟩ = some (.int .i64 b1) ∧ W.cell? ⟨vb, 2, none⟩ = some (.int .i64 id) ∧ W.cell? ⟨vb, 3, none⟩ = some (.int .i64 (kk : Nat)) ∧ Below w10.heap.size w10 W))
                have HBC := Aside0.mk (fun (W : World) (hb : Below w10.heap.size w10 W) => best_calls ((HT6.out.below HB10.out).below hb))
                have HRL := Aside0.mk (fun (W : World) (hb : Below w10.heap.size w10 W) => role_calls ((HT6.out.below HB10.out).below hb) (kk : Int))
                rw [HRLE.out] at HRL
                dsimp only at HBC
                rcases HKEY.out with ⟨k1, k2⟩ | ⟨k1, k2⟩
                · have d1 : (ag == 0) = true := by simpa using k1
                  have d2 : (b0 == id) = true := by simpa using k2
                  clear k1 k2
                  go_region_held3 (fun W => W.cell? ⟨xb, 0, none⟩ = some (.int .i64 (kk : Nat)) ∧ W.cell? ⟨xb, 1, none⟩ = some (.int .i64 b0) ∧ W.cell? ⟨xb, 2, none⟩ = some (.int .i64 b1) ∧ W.cell? ⟨xb, 3, none⟩ = some (.int .i64 id) ∧ W.cell? ⟨xb, 4, none⟩ = some (.int .i64 (kk : Nat)) ∧ W.cell? ⟨xb, 5, none⟩ = some (.int .i64 ag) ∧ W.cell? ⟨xb, 6, none⟩ = some (.int .i64 2) ∧ W.cell? ⟨xb, 7, none⟩ = some (.bool cc) ∧ W.cell? ⟨vb, 0, none⟩ = some (.int .i64 b0) ∧ W.cell? ⟨vb, 1, none⟩ = some (.int .i64 b1) ∧ W.cell? ⟨vb, 2, none⟩ = some (.int .i64 id) ∧ W.cell? ⟨vb, 3, none⟩ = some (.int .i64 (kk : Nat)) ∧ Below w10.heap.size w10 W) (exact HS9.out _ (by repeat (with_reducible first | assumption | apply below_alloc | apply pw_below_drewN | apply below_drew1))) (first
                    | (go_at_call 18; with_reducible refine (HGD.out _).mono ?_; rintro e w11 ⟨rfl, h11⟩; have hb11 := below_step (show Below w10.heap.size w10 _ from (by repeat (with_reducible first | assumption | apply below_alloc | apply pw_below_drewN | apply below_drew1))) h11; clear h11)
                    | (go_at_call 19; with_reducible refine (HBC.out _ (by repeat (with_reducible first | assumption | apply below_alloc | apply pw_below_drewN | apply below_drew1))).mono ?_; rintro e w12 ⟨rfl, h12⟩; have hb12 := below_step (show Below w10.heap.size w10 _ from (by repeat (with_reducible first | assumption | apply below_alloc | apply pw_below_drewN | apply below_drew1))) h12; clear h12)
                    | (go_at_call 20; with_reducible refine (HRL.out _ (by repeat (with_reducible first | assumption | apply below_alloc | apply pw_below_drewN | apply below_drew1))).mono ?_; rintro e w13 ⟨rfl, h13⟩; have hb13 := below_step (show Below w10.heap.size w10 _ from (by repeat (with_reducible first | assumption | apply below_alloc | apply pw_below_drewN | apply below_drew1))) h13; clear h13))
                  rename_i hS23
                  clear hS23 hw0 hw1 hw2 hw3 hw4 hw5 hw6 hw7 hv0 hv1 hv2 hv3
                  go_wp2
                  go_roundg (L.length - (j + 1))
                  case measure => omega
                  case rel => exact ⟨j + 1, by go_num, by omega, Nat.le_refl _, ⟨below_step HB10.out (by repeat (with_reducible first | assumption | apply below_alloc | apply pw_below_drewN | apply below_drew1))⟩⟩
                · have d1 : (ag == 0) = false := by simpa using k1
                  have d2 : (b0 == id) = false := by simpa using k2
                  clear k1 k2
                  go_region_held3 (fun W => W.cell? ⟨xb, 0, none⟩ = some (.int .i64 (kk : Nat)) ∧ W.cell? ⟨xb, 1, none⟩ = some (.int .i64 b0) ∧ W.cell? ⟨xb, 2, none⟩ = some (.int .i64 b1) ∧ W.cell? ⟨xb, 3, none⟩ = some (.int .i64 id) ∧ W.cell? ⟨xb, 4, none⟩ = some (.int .i64 (kk : Nat)) ∧ W.cell? ⟨xb, 5, none⟩ = some (.int .i64 ag) ∧ W.cell? ⟨xb, 6, none⟩ = some (.int .i64 2) ∧ W.cell? ⟨xb, 7, none⟩ = some (.bool cc) ∧ W.cell? ⟨vb, 0, none⟩ = some (.int .i64 b0) ∧ W.cell? ⟨vb, 1, none⟩ = some (.int .i64 b1) ∧ W.cell? ⟨vb, 2, none⟩ = some (.int .i64 id) ∧ W.cell? ⟨vb, 3, none⟩ = some (.int .i64 (kk : Nat)) ∧ Below w10.heap.size w10 W) (exact HS9.out _ (by repeat (with_reducible first | assumption | apply below_alloc | apply pw_below_drewN | apply below_drew1))) (first
                    | (go_at_call 18; with_reducible refine (HGD.out _).mono ?_; rintro e w11 ⟨rfl, h11⟩; have hb11 := below_step (show Below w10.heap.size w10 _ from (by repeat (with_reducible first | assumption | apply below_alloc | apply pw_below_drewN | apply below_drew1))) h11; clear h11)
                    | (go_at_call 19; with_reducible refine (HBC.out _ (by repeat (with_reducible first | assumption | apply below_alloc | apply pw_below_drewN | apply below_drew1))).mono ?_; rintro e w12 ⟨rfl, h12⟩; have hb12 := below_step (show Below w10.heap.size w10 _ from (by repeat (with_reducible first | assumption | apply below_alloc | apply pw_below_drewN | apply below_drew1))) h12; clear h12)
                    | (go_at_call 20; with_reducible refine (HRL.out _ (by repeat (with_reducible first | assumption | apply below_alloc | apply pw_below_drewN | apply below_drew1))).mono ?_; rintro e w13 ⟨rfl, h13⟩; have hb13 := below_step (show Below w10.heap.size w10 _ from (by repeat (with_reducible first | assumption | apply below_alloc | apply pw_below_drewN | apply below_drew1))) h13; clear h13))
                  rename_i hS23
                  clear hS23 hw0 hw1 hw2 hw3 hw4 hw5 hw6 hw7 hv0 hv1 hv2 hv3
                  go_wp2
                  go_roundg (L.length - (j + 1))
                  case measure => omega
                  case rel => exact ⟨j + 1, by go_num, by omega, Nat.le_refl _, ⟨below_step HB10.out (by repeat (with_reducible first | assumption | apply below_alloc | apply pw_below_drewN | apply below_drew1))⟩⟩
              · have e : j = L.length := by omega
                subst e
                have HTt := Aside0.mk (HT6.out.below HBq.out)
                have HBt := Aside0.mk (below_step HB6.out HBq.out)
                clear HT6 HB6 HBq HC6
                go_upto_region 26 with fail
                have hbt := Below.refl wr.heap.size wr
                have HBC := Aside0.mk (fun (W : World) (hb : Below wr.heap.size wr W) => best_calls (HTt.out.below hb))
                have HRC := Aside0.mk (fun (W : World) (hb : Below wr.heap.size wr W) => root_calls (HTt.out.below hb))
                have hh := HIt.out.holds HID.out HBI.out (by decide) (by decide)
                dsimp only at HBC
                rcases hh with ⟨e1, e2, _⟩ | ⟨_, _, k1, _, _, k2, _, _⟩
                · injection e1 with e3 e4 e5 e6
                  subst e2 e3 e4 e5 e6
                  go_wp2_with (first
                    | (go_at_fn 19; refine (HBC.out _ (by assumption)).mono ?_; rintro e w7 ⟨rfl, h7⟩; have hb7 : Below wr.heap.size wr w7 := below_step (by assumption) h7; clear h7)
                    | (go_at_fn 21; refine (HRC.out _ (by assumption)).mono ?_; rintro e w8 ⟨rfl, e1⟩; have e2 := e1.symm; subst e2))
                  go_roundg (l.length - (i + 1))
                  case measure => omega
                  case rel => exact ⟨i + 1, now + x5, Pt, _, _, cht, by go_num, rfl, by omega, Nat.le_refl _, by omega, by omega, ⟨HTt.out.below (by assumption)⟩, HIt, ⟨below_step HBt.out (by assumption)⟩⟩
                · have k1' : b0 < id := k1
                  clear k1
                  have d1 : decide (id < b0) = false := decide_eq_false (by omega)
                  have d2 : decide (rt < 0) = false := decide_eq_false (by omega)
                  have d3 : (b0 == id) = false := by simp only [beq_eq_false_iff_ne]; omega
                  clear k1' k2
                  go_wp2_with (first
                    | (go_at_fn 19; refine (HBC.out _ (by assumption)).mono ?_; rintro e w7 ⟨rfl, h7⟩; have hb7 : Below wr.heap.size wr w7 := below_step (by assumption) h7; clear h7)
                    | (go_at_fn 21; refine (HRC.out _ (by assumption)).mono ?_; rintro e w8 ⟨rfl, e1⟩; have e2 := e1.symm; subst e2))
                  go_roundg (l.length - (i + 1))
                  case measure => omega
                  case rel => exact ⟨i + 1, now + x5, Pt, _, _, cht, by go_num, rfl, by omega, Nat.le_refl _, by omega, by omega, ⟨HTt.out.below (by assumption)⟩, HIt, ⟨below_step HBt.out (by assumption)⟩⟩
          · have d10 : (x0 == 0) = false := by simpa using q0
            have d11 : (x0 == 1) = false := by simpa using q1
            have d12 : (x0 == 2) = false := by simpa using q2
            clear q0 q1 q2
            go_upto_region 26 with fail
            have hbt := Below.refl w5.heap.size w5
            have HBC := Aside0.mk (fun (W : World) (hb : Below w5.heap.size w5 W) => best_calls (HT5.out.below hb))
            have HRC := Aside0.mk (fun (W : World) (hb : Below w5.heap.size w5 W) => root_calls (HT5.out.below hb))
            have hh := HI.out.holds HID.out HBI.out (by decide) (by decide)
            obtain ⟨b0, b1, b2, b3⟩ := best
            dsimp only at HBC
            rcases hh with ⟨e1, e2, _⟩ | ⟨_, _, k1, _, _, k2, _, _⟩
            · injection e1 with e3 e4 e5 e6
              subst e2 e3 e4 e5 e6
              go_wp2_with (first
                | (go_at_fn 19; refine (HBC.out _ (by assumption)).mono ?_; rintro e w7 ⟨rfl, h7⟩; have hb7 : Below w5.heap.size w5 w7 := below_step (by assumption) h7; clear h7)
                | (go_at_fn 21; refine (HRC.out _ (by assumption)).mono ?_; rintro e w8 ⟨rfl, e1⟩; have e2 := e1.symm; subst e2))
              go_roundg (l.length - (i + 1))
              case measure => omega
              case rel => exact ⟨i + 1, now, P, _, _, change, by go_num, rfl, by omega, Nat.le_refl _, by omega, by omega, ⟨HT5.out.below (by assumption)⟩, HI, ⟨below_step HB5.out (by assumption)⟩⟩
            · have k1' : b0 < id := k1
              clear k1
              have d1 : decide (id < b0) = false := decide_eq_false (by omega)
              have d2 : decide (root < 0) = false := decide_eq_false (by omega)
              have d3 : (b0 == id) = false := by simp only [beq_eq_false_iff_ne]; omega
              clear k1' k2
              go_wp2_with (first
                | (go_at_fn 19; refine (HBC.out _ (by assumption)).mono ?_; rintro e w7 ⟨rfl, h7⟩; have hb7 : Below w5.heap.size w5 w7 := below_step (by assumption) h7; clear h7)
                | (go_at_fn 21; refine (HRC.out _ (by assumption)).mono ?_; rintro e w8 ⟨rfl, e1⟩; have e2 := e1.symm; subst e2))
              go_roundg (l.length - (i + 1))
              case measure => omega
              case rel => exact ⟨i + 1, now, P, _, _, change, by go_num, rfl, by omega, Nat.le_refl _, by omega, by omega, ⟨HT5.out.below (by assumption)⟩, HI, ⟨below_step HB5.out (by assumption)⟩⟩
    · have e : i = l.length := by omega
      subst e
      go_wp2
      go_ret
      exact ⟨rfl, HB.out⟩
end Go.Proofs.YtfimhaodgekkgaaDoor.QTre
namespace Go.Proofs.YtfimhaodgekkgaaDoor.QTre
open Go.RowKit Go.Proofs.YtfimhaodgekkgaaDoorW.PrintWords Go.Proofs.YtfimhaodgekkgaaDoorW.PrintLast Go.Proofs.YtfimhaodgekkgaaDoorW.PrintMore
open Go.Proofs.YtfimhaodgekkgaaDoor.Pri (brid)
set_option linter.unusedVariables false
structure GoodArgs (id : Int) (l : List S40) : Prop where
  id : Pri.Fit id
  steps : ∀ s ∈ l, FitS s
  few : l.length ≤ maxLen
open Classical in
noncomputable def kissgatelaw12_TreeSays.f (a0 a1 : Int) (l2 : List S40) : Option Bool := if GoodArgs a0 l2 then some true else none
theorem kissgatelaw12_TreeSays.calls (a0 : Int) (a1 : Int) (A2 : Option Addr) (c2 : Nat) (l2 : List (S40)) (r : Bool) (w : World) (hng : NG w) (hz : 0 < w.heap.size) (hr2 : Kd.C k40 w A2 l2.length l2) (hc2 : l2.length ≤ c2) (hT : r = true) (h : kissgatelaw12_TreeSays.f a0 a1 l2 = some r) :
    Calls Tryd.prog 4 #[.int .i64 a0, .int .i64 a1, .slice A2 l2.length c2] w fun e w' => e = .returned (.bool r) ∧ Below w.heap.size w w' := by
  subst hT
  have hg : GoodArgs a0 l2 := by
    unfold kissgatelaw12_TreeSays.f at h
    split at h
    · assumption
    · cases h
  by_cases hs : greatB l2 = true ∨ brid a0 = false ∨ a1 < 1 ∨ 6 < a1
  · exact says_true A2 c2 l2 a0 a1 w hng hz hr2 hc2 hg.few hg.id hs
  · have h1 : greatB l2 = false := by simpa using fun e => hs (.inl e)
    have h2 : brid a0 = true := by simpa using fun e => hs (.inr (.inl e))
    obtain ⟨n, rfl⟩ : ∃ n : Nat, a1 = n := ⟨a1.toNat, by omega⟩
    exact says_walk A2 c2 l2 a0 n w hng hz hr2 hc2 hg.id hg.steps h1 h2 (by omega) (by omega)
end Go.Proofs.YtfimhaodgekkgaaDoor.QTre
namespace Go.Proofs.YtfimhaodgekkgaaDoor.Opn
open Go.ChangeShapes Go.WideShapes Go.Proofs.YtfimhaodgekkgaaDoorW.PrintWords
variable {P : Program}
def Opens {α : Type} (P : Program) (t : TypeId) (d : Kd α) (good : α → Prop) : Prop :=
  ∀ (H : Type) (enc : TypeId × Value → H) (w : World) (fuel : Nat) (cs : List Value) (x : DataW H × List MemPlace),
    DataW.trod enc P w 0 (fun _ => true) true fuel t cs = some x → (∀ n ∈ x.1.weights P t, n ≤ reachBytes) → ∃ a : α, d.K w a cs ∧ good a
theorem opens_int {t : TypeId} {k : IntKind} (hu : P.underlying t = some (.int k)) : Opens P t (Kd.int k) (fun n => (Lit.int k n).wf = true) := by
  intro H enc w fuel cs x h _
  obtain ⟨n, rfl, _, hw⟩ := DataW.trod_int hu h
  exact ⟨n, rfl, hw⟩
theorem opens_bool {t : TypeId} (hu : P.underlying t = some .bool) : Opens P t Kd.bool (fun _ => True) := by
  intro H enc w fuel cs x h _
  obtain ⟨b, rfl, _⟩ := DataW.trod_bool hu h
  exact ⟨b, rfl, trivial⟩
theorem weightsAll_mem {H : Type} {e : TypeId} : ∀ {l : List (DataW H)} {d : DataW H}, d ∈ l → ∀ n ∈ d.weights P e, n ∈ DataW.weightsAll P e l
  | [], d, h, _, _ => by simp at h
  | d0 :: l, d, h, n, hn => by
    simp only [DataW.weightsAll, List.mem_append]
    rcases List.mem_cons.1 h with rfl | h
    · exact Or.inl hn
    · exact Or.inr (weightsAll_mem h n hn)
theorem add_at_ (a : Addr) (i j : Nat) : (a.add i).add j = a.add (i + j) := by
  unfold Addr.add
  by_cases hi : i = 0
  · subst hi; simp
  · by_cases hj : j = 0
    · subst hj; simp
    · simp [hi, hj, Nat.add_assoc]
theorem choose_list {α : Type} {Q : Nat → α → Prop} : ∀ (n : Nat), (∀ i, i < n → ∃ a, Q i a) → ∃ l : List α, l.length = n ∧ ∀ i a, l[i]? = some a → Q i a
  | 0, _ => ⟨[], rfl, fun i a h => by simp at h⟩
  | n + 1, h => by
    obtain ⟨l, hl, hq⟩ := choose_list n (fun i hi => h i (by omega))
    obtain ⟨a, ha⟩ := h n (by omega)
    refine ⟨l ++ [a], by simp [hl], fun i b hb => ?_⟩
    rcases Nat.lt_or_ge i l.length with hi | hi
    · rw [List.getElem?_append_left hi] at hb
      exact hq i b hb
    · rw [List.getElem?_append_right hi] at hb
      have hlt := (List.getElem?_eq_some_iff.1 hb).1
      simp at hlt
      have e : i = n := by omega
      subst e
      rw [show i - l.length = 0 from by omega] at hb
      have hb' : a = b := by simpa using hb
      subst hb'
      exact ha
theorem opens_slice_row {α : Type} {t e : TypeId} {d : Kd α} {good : α → Prop} (hu : P.underlying t = some (.slice e)) (hC : P.cellsOf e = d.sz) {B : Nat} (hB : P.bytesOf e = B) (ho : Opens P e d good)
    (H : Type) (enc : TypeId × Value → H) (w : World) (fuel : Nat) (A : Option Addr) (len cap : Nat) (x : DataW H × List MemPlace)
    (h : DataW.trod enc P w 0 (fun _ => true) true fuel t [.slice A len cap] = some x) (hz : ∀ n ∈ x.1.weights P t, n ≤ reachBytes) :
    ∃ l : List α, l.length = len ∧ len ≤ cap ∧ d.C w A len l ∧ len ≤ maxLen ∧ len * B ≤ 140737488351232 ∧ ∀ a ∈ l, good a := by
  rcases DataW.trod_slice hu h with ⟨h0, _⟩ | ⟨a, len', cap', elems, rest, n, _, hcs, hx, _, hl, hm, hlen, hel, _, _⟩
  · simp only [List.cons.injEq, Value.slice.injEq, and_true] at h0
    obtain ⟨rfl, rfl, rfl⟩ := h0
    exact ⟨[], rfl, Nat.le_refl _, ⟨rfl, Nat.zero_le _, fun h => absurd h (by omega)⟩, Nat.zero_le _, by simp, fun a ha => by simp at ha⟩
  · simp only [List.cons.injEq, Value.slice.injEq, and_true] at hcs
    obtain ⟨rfl, rfl, rfl⟩ := hcs
    have each : ∀ i, i < len → ∃ b : α, (∃ c, c.length = d.sz ∧ d.K w b c ∧ ∀ j u, c[j]? = some u → w.cell? (a.add (i * d.sz + j)) = some u) ∧ good b := by
      intro i hi
      have h1 := hel i hi
      have hie : i < elems.length := by omega
      rw [List.getElem?_eq_getElem hie, Option.bind_eq_some_iff] at h1
      obtain ⟨cs', hc, ht'⟩ := h1
      have hw' : ∀ n ∈ (elems[i]).1.weights P e, n ≤ reachBytes := by
        intro m hm'
        refine hz m ?_
        rw [hx]
        simp only [DataW.weights, hu]
        refine List.mem_cons_of_mem _ (List.mem_append_left _ ?_)
        exact weightsAll_mem (List.mem_map.2 ⟨elems[i], List.getElem_mem hie, rfl⟩) m hm'
      obtain ⟨b, hb, hg⟩ := ho H enc w _ cs' _ ht' hw'
      obtain ⟨_, hcl, hat⟩ := World.cells?_some hc
      refine ⟨b, ⟨cs', by rw [hcl, hC], hb, fun j u hu' => ?_⟩, hg⟩
      have hj : j < P.cellsOf e := by
        have := (List.getElem?_eq_some_iff.1 hu').1
        omega
      have := hat j hj
      rw [hC] at this
      rw [← add_at_, this, hu']
    obtain ⟨l, hll, hq⟩ := choose_list len each
    refine ⟨l, hll, hl, ⟨hll, by simp only [maxLen] at hm; omega, fun _ => ⟨a, rfl, fun j p hj => (hq j p hj).1⟩⟩, by omega, ?_, fun b hb => ?_⟩
    · have h1 := hz ((elems.length + rest.length) * P.bytesOf e) (by rw [hx]; simp [DataW.weights, hu])
      rw [hB] at h1
      simp only [reachBytes] at h1
      refine Nat.le_trans (Nat.mul_le_mul_right _ ?_) h1
      omega
    · obtain ⟨i, hi⟩ := List.getElem?_of_mem hb
      exact (hq i b hi).2
def OpensFs {α : Type} (P : Program) (off : Nat) (fs : List Field) (d : Kd α) (good : α → Prop) : Prop :=
  ∀ (H : Type) (enc : TypeId × Value → H) (w : World) (fuel : Nat) (cs : List Value) (ys : List (DataW H × List MemPlace)),
    cs.length = off + d.sz → ys.length = fs.length → (∀ (i : Nat) (f : Field), fs[i]? = some f → DataW.trod enc P w 0 (fun _ => true) true fuel f.type ((cs.drop f.offset).take (P.cellsOf f.type)) = ys[i]?) →
    (∀ n ∈ DataW.weightsEach P (fs.map (·.type)) (ys.map (·.1)), n ≤ reachBytes) → ∃ a : α, d.K w a (cs.drop off) ∧ good a
theorem opensFs_one {α : Type} {off : Nat} {f : Field} {d : Kd α} {good : α → Prop} (ho : f.offset = off) (hC : P.cellsOf f.type = d.sz) (h : Opens P f.type d good) : OpensFs P off [f] d good := by
  intro H enc w fuel cs ys hcs hy hf hz
  match ys, hy with
  | [y], _ =>
    have h1 := hf 0 f rfl
    rw [ho, hC, List.take_of_length_le (by simp [List.length_drop]; omega)] at h1
    exact h H enc w fuel _ y h1 (fun n hn => hz n (by simp only [List.map_cons, DataW.weightsEach, List.mem_append]; exact Or.inl hn))
theorem opensFs_cons {α β : Type} {off : Nat} {f : Field} {fs : List Field} {d : Kd α} {e : Kd β} {g1 : α → Prop} {g2 : β → Prop} (ho : f.offset = off) (hC : P.cellsOf f.type = d.sz) (h : Opens P f.type d g1) (hs : OpensFs P (off + d.sz) fs e g2) :
    OpensFs P off (f :: fs) (Kd.pair d e) (fun p => g1 p.1 ∧ g2 p.2) := by
  intro H enc w fuel cs ys hcs hy hf hz
  match ys, hy with
  | y :: ys, hy =>
    have hsz : (Kd.pair d e).sz = d.sz + e.sz := rfl
    rw [hsz] at hcs
    have h1 := hf 0 f rfl
    rw [ho, hC] at h1
    obtain ⟨a, ha, hga⟩ := h H enc w fuel _ y h1 (fun n hn => hz n (by simp only [List.map_cons, DataW.weightsEach, List.mem_append]; exact Or.inl hn))
    obtain ⟨b, hb, hgb⟩ := hs H enc w fuel cs ys (by omega) (by simpa using hy) (fun i f' hi => by simpa using hf (i + 1) f' (by simpa using hi)) (fun n hn => hz n (by simp only [List.map_cons, DataW.weightsEach, List.mem_append]; exact Or.inr hn))
    refine ⟨(a, b), ⟨(cs.drop off).take d.sz, cs.drop (off + d.sz), ?_, ha, hb⟩, hga, hgb⟩
    rw [← List.drop_drop, List.take_append_drop]
theorem opens_struct {α : Type} {t : TypeId} {fs : Array Field} {d : Kd α} {good : α → Prop} (hu : P.underlying t = some (.struct fs)) (hC : P.cellsOf t = d.sz) (h : OpensFs P 0 fs.toList d good) : Opens P t d good := by
  intro H enc w fuel cs x hx hz
  obtain ⟨ys, n, _, hxe, hlen, hyl, hf⟩ := DataW.trod_struct hu hx
  obtain ⟨a, ha, hg⟩ := h H enc w n cs ys (by omega) (by simpa using hyl) (fun i f hi => hf i f (by simpa using hi)) (fun m hm => hz m (by rw [hxe]; simp only [DataW.weights, hu]; exact hm))
  exact ⟨a, by simpa using ha, hg⟩
theorem opens_iso {α β : Type} {t : TypeId} {d : Kd α} {good : α → Prop} (f : β → α) (g : α → β) (hfg : ∀ a, f (g a) = a) (h : Opens P t d good) : Opens P t (Kd.iso d f) (fun b => good (f b)) := by
  intro H enc w fuel cs x hx hz
  obtain ⟨a, ha, hga⟩ := h H enc w fuel cs x hx hz
  refine ⟨g a, ?_, by show good (f (g a)); rw [hfg]; exact hga⟩
  show d.K w (f (g a)) cs
  rw [hfg]
  exact ha
theorem opens_imp {α : Type} {t : TypeId} {d : Kd α} {g1 g2 : α → Prop} (h : Opens P t d g1) (hg : ∀ a, g1 a → g2 a) : Opens P t d g2 := by
  intro H enc w fuel cs x hx hz
  obtain ⟨a, ha, hga⟩ := h H enc w fuel cs x hx hz
  exact ⟨a, ha, hg a hga⟩
theorem weights_of {H : Type} {ts : List TypeId} {ds : List (DataW H)} (h : (DataW.weightsEach P ts ds).all (· ≤ reachBytes) = true) {j : Nat} {t : TypeId} {d : DataW H} (ht : ts[j]? = some t) (hd : ds[j]? = some d) : ∀ n ∈ d.weights P t, n ≤ reachBytes := by
  intro n hn
  have := List.all_eq_true.1 h _ (DataW.weights_mem_each ht hd n hn)
  simpa using this
theorem arg_slice {α : Type} {t e : TypeId} {d : Kd α} {good : α → Prop} (hu : P.underlying t = some (.slice e)) (hC : P.cellsOf e = d.sz) {B : Nat} (hB : P.bytesOf e = B) (ho : Opens P e d good)
    {H : Type} {enc : TypeId × Value → H} {w : World} {r : Reach} {b0 : Nat} {v : Value} {x : DataW H} {ps : List MemPlace} (hv : Value.okWide P w r b0 t v)
    (h : DataW.Trod enc P w 0 (fun _ => true) true t v x ps) (hz : ∀ n ∈ x.weights P t, n ≤ reachBytes) :
    ∃ (A : Option Addr) (c : Nat) (l : List α), v = .slice A l.length c ∧ l.length ≤ c ∧ d.C w A l.length l ∧ l.length ≤ maxLen ∧ l.length * B ≤ 140737488351232 ∧ ∀ a ∈ l, good a := by
  obtain ⟨A, len, c, rfl⟩ := okWide_slice hu hv
  obtain ⟨fuel, hf⟩ := h
  have hf' : DataW.trod enc P w 0 (fun _ => true) true fuel t [.slice A len c] = some (x, ps) := by simpa [Value.cells] using hf
  obtain ⟨l, rfl, hlc, hC', hm, hb, hg⟩ := opens_slice_row hu hC hB ho H enc w fuel A len c _ hf' hz
  exact ⟨A, c, l, rfl, hlc, hC', hm, hb, hg⟩
theorem arg_int {t : TypeId} {k : IntKind} (hu : P.underlying t = some (.int k))
    {H : Type} {enc : TypeId × Value → H} {w : World} {r : Reach} {b0 : Nat} {v : Value} {x : DataW H} {ps : List MemPlace} (hv : Value.okWide P w r b0 t v)
    (h : DataW.Trod enc P w 0 (fun _ => true) true t v x ps) : ∃ n, v = .int k n ∧ (Lit.int k n).wf = true := by
  obtain ⟨n, rfl⟩ := okWide_int hu hv
  obtain ⟨fuel, hf⟩ := h
  obtain ⟨m, hcs, _, hw⟩ := DataW.trod_int hu hf
  simp only [Value.cells] at hcs
  have e : n = m := by simpa using hcs
  subst e
  exact ⟨n, rfl, hw⟩
end Go.Proofs.YtfimhaodgekkgaaDoor.Opn
namespace Go.Proofs.YtfimhaodgekkgaaDoor.treeSays
open Go.RowKit Go.Proofs.YtfimhaodgekkgaaDoorW.PrintWords Go.Proofs.YtfimhaodgekkgaaDoorW.PrintLast Go.Proofs.YtfimhaodgekkgaaDoorW.PrintMore Go.Proofs.YtfimhaodgekkgaaDoor.QTre
set_option linter.unusedVariables false
def G36 (x : S36) : Prop := (Lit.int .i64 x.f0).wf = true ∧ (Lit.int .i64 x.f1).wf = true ∧ (Lit.int .i64 x.f2).wf = true ∧ (Lit.int .i64 x.f3).wf = true
def G38 (x : S38) : Prop := G36 x.f0 ∧ (Lit.int .i64 x.f1).wf = true ∧ (Lit.int .i64 x.f2).wf = true ∧ True
def G40 (x : S40) : Prop := (Lit.int .i64 x.f0).wf = true ∧ (Lit.int .i64 x.f1).wf = true ∧ True ∧ (Lit.int .i64 x.f3).wf = true ∧ G38 x.f4 ∧ (Lit.int .i64 x.f5).wf = true
def Pure : Prop := ∀ (x0 : Int) (x1 : Int) (x2 : (List S40)), (Lit.int .i64 x0).wf = true → (Lit.int .i64 x1).wf = true → (x2.length ≤ maxLen ∧ x2.length * 96 ≤ 140737488351232 ∧ ∀ a ∈ x2, G40 a) → kissgatelaw12_TreeSays.f x0 x1 x2 = some true
end Go.Proofs.YtfimhaodgekkgaaDoor.treeSays
namespace Go.Proofs.YtfimhaodgekkgaaDoor.treeSays
open Go.RowKit Go.Proofs.YtfimhaodgekkgaaDoorW.PrintWords Go.Proofs.YtfimhaodgekkgaaDoorW.PrintLast Go.Proofs.YtfimhaodgekkgaaDoorW.PrintMore Go.Proofs.YtfimhaodgekkgaaDoor.QTre
theorem pure : Pure := by
  intro x0 x1 x2 h0 h1 h2
  unfold kissgatelaw12_TreeSays.f
  rw [if_pos]
  refine ⟨Pri.fit_of h0, fun s hs => ?_, h2.1⟩
  have h := h2.2.2 s hs
  exact ⟨Pri.fit_of h.2.1, Pri.fit_of h.2.2.2.1, Pri.fit_of h.2.2.2.2.1.1.1, Pri.fit_of h.2.2.2.2.1.1.2.1, Pri.fit_of h.2.2.2.2.1.1.2.2.1⟩
end Go.Proofs.YtfimhaodgekkgaaDoor.treeSays
namespace Go.Proofs.YtfimhaodgekkgaaDoor.QTre
open Go.ChangeShapes Go.WideShapes Go.ChangeAt Go.RowKit
set_option linter.unusedVariables false
set_option linter.unusedSimpArgs false
abbrev laid1 : List (String × DataW Unit) := [("kissgate/tree.none", Rows.laid_kissgate_tree_none)]
theorem gNone : Tryd.prog.globalNamed "kissgate/tree.none" = some 0 := by kernel_rfl
theorem tNone : (Tryd.prog.globals[0]?).map (·.type) = some 80 := by kernel_rfl
theorem door_met (os : Os) (args : Array Value) : laidMetH Tryd.prog laid1 ((World.doorLaid Tryd.prog 400 os).forCall (fun _ _ => 0) ⟨#[], args, []⟩).memory :=
  laidMetH_of_parts3 (fuel := 8) (laidMet_of_run' 8 (by kernel_rfl) (by kernel_rfl)) (by kernel_rfl) (by kernel_rfl)
theorem list4 {α : Type} : ∀ {l : List α}, l.length = 4 → ∃ a b c d, l = [a, b, c, d]
  | [a, b, c, d], _ => ⟨a, b, c, d, rfl⟩
  | [], h => by simp at h
  | [_], h => by simp at h
  | [_, _], h => by simp at h
  | [_, _, _], h => by simp at h
  | _ :: _ :: _ :: _ :: _ :: _, h => by simp at h
theorem list7 {α : Type} {l : List α} (h : l.length = 7) : ∃ a b c d e f g, l = [a, b, c, d, e, f, g] := by
  obtain ⟨a, b, c, d, h4⟩ := list4 (l := l.take 4) (by simp; omega)
  have h3 : (l.drop 4).length = 3 := by simp; omega
  match hd : l.drop 4, h3 with
  | [e, f, g], _ => exact ⟨a, b, c, d, e, f, g, by rw [← List.take_append_drop 4 l, h4, hd]; rfl⟩
theorem of_laid {W : World} (h : laidMetH Tryd.prog laid1 W) : NG W ∧ 0 < W.heap.size := by
  rw [MakeChecks.laidMetH_plain _ _ _ (by kernel_rfl)] at h
  obtain ⟨ps, ⟨g0, t0, cs0, f0, p0, q0, hg0, ht0, hv0, hd0, _, _⟩, _, _⟩ := h
  obtain rfl := Option.some.inj (gNone.symm.trans hg0)
  obtain rfl := Option.some.inj (tNone.symm.trans ht0)
  have hc := fun i => World.var?_cell hg0 hv0 i
  obtain ⟨xs, n, _, hx, hl, hxl, hel⟩ := DataW.trod_struct Tryd.underlying80 hd0
  have c80 : Tryd.prog.cellsOf 80 = 7 := by kernel_rfl
  have c36 : Tryd.prog.cellsOf 36 = 4 := by kernel_rfl
  have c3 : Tryd.prog.cellsOf 3 = 1 := by kernel_rfl
  have c4 : Tryd.prog.cellsOf 4 = 1 := by kernel_rfl
  rw [c80] at hl
  obtain ⟨v0, v1, v2, v3, v4, v5, v6, hcs⟩ := list7 hl
  obtain ⟨x0, x1, x2, x3, rfl⟩ := list4 hxl
  simp only [Prod.mk.injEq, List.map_cons, List.map_nil, Rows.laid_kissgate_tree_none, DataW.agg.injEq, List.cons.injEq, and_true] at hx
  obtain ⟨⟨e0, e1, e2, e3⟩, _⟩ := hx
  have h0 : DataW.trod (fun x => ()) Tryd.prog W 0 (fun x => true) false n 36 (List.take (Tryd.prog.cellsOf 36) (List.drop 0 cs0.toList)) = some x0 := hel 0 _ rfl
  rw [hcs, c36] at h0
  have h1 : DataW.trod (fun x => ()) Tryd.prog W 0 (fun x => true) false n 3 (List.take (Tryd.prog.cellsOf 3) (List.drop 4 cs0.toList)) = some x1 := hel 1 _ rfl
  rw [hcs, c3] at h1
  have h2 : DataW.trod (fun x => ()) Tryd.prog W 0 (fun x => true) false n 3 (List.take (Tryd.prog.cellsOf 3) (List.drop 5 cs0.toList)) = some x2 := hel 2 _ rfl
  rw [hcs, c3] at h2
  have h3 : DataW.trod (fun x => ()) Tryd.prog W 0 (fun x => true) false n 4 (List.take (Tryd.prog.cellsOf 4) (List.drop 6 cs0.toList)) = some x3 := hel 3 _ rfl
  rw [hcs, c4] at h3
  obtain ⟨k1, a1, b1, _⟩ := DataW.trod_int Tryd.underlying3 h1
  obtain ⟨k2, a2, b2, _⟩ := DataW.trod_int Tryd.underlying3 h2
  obtain ⟨k3, a3, b3⟩ := DataW.trod_bool Tryd.underlying4 h3
  obtain ⟨ys, m, _, hy, hyl, hyn, hye⟩ := DataW.trod_struct Tryd.underlying36 h0
  obtain ⟨y0, y1, y2, y3, rfl⟩ := list4 hyn
  rw [hy] at e0
  simp only [List.map_cons, List.map_nil, DataW.agg.injEq, List.cons.injEq, and_true] at e0
  obtain ⟨f0', f1', f2', f3'⟩ := e0
  have g0 : DataW.trod (fun x => ()) Tryd.prog W 0 (fun x => true) false m 3 (List.take (Tryd.prog.cellsOf 3) (List.drop 0 (List.take 4 (List.drop 0 [v0, v1, v2, v3, v4, v5, v6])))) = some y0 := hye 0 _ rfl
  rw [c3] at g0
  obtain ⟨m0, r0, s0, _⟩ := DataW.trod_int Tryd.underlying3 g0
  have g1 : DataW.trod (fun x => ()) Tryd.prog W 0 (fun x => true) false m 3 (List.take (Tryd.prog.cellsOf 3) (List.drop 1 (List.take 4 (List.drop 0 [v0, v1, v2, v3, v4, v5, v6])))) = some y1 := hye 1 _ rfl
  rw [c3] at g1
  obtain ⟨m1, r1, s1, _⟩ := DataW.trod_int Tryd.underlying3 g1
  have g2 : DataW.trod (fun x => ()) Tryd.prog W 0 (fun x => true) false m 3 (List.take (Tryd.prog.cellsOf 3) (List.drop 2 (List.take 4 (List.drop 0 [v0, v1, v2, v3, v4, v5, v6])))) = some y2 := hye 2 _ rfl
  rw [c3] at g2
  obtain ⟨m2, r2, s2, _⟩ := DataW.trod_int Tryd.underlying3 g2
  have g3 : DataW.trod (fun x => ()) Tryd.prog W 0 (fun x => true) false m 3 (List.take (Tryd.prog.cellsOf 3) (List.drop 3 (List.take 4 (List.drop 0 [v0, v1, v2, v3, v4, v5, v6])))) = some y3 := hye 3 _ rfl
  rw [c3] at g3
  obtain ⟨m3, r3, s3, _⟩ := DataW.trod_int Tryd.underlying3 g3
  rw [s0] at f0'
  rw [s1] at f1'
  rw [s2] at f2'
  rw [s3] at f3'
  rw [b1] at e1
  rw [b2] at e2
  rw [b3] at e3
  injection f0' with q0; injection q0 with _ q0
  injection f1' with q1; injection q1 with _ q1
  injection f2' with q2; injection q2 with _ q2
  injection f3' with q3; injection q3 with _ q3
  injection e1 with q4; injection q4 with _ q4
  injection e2 with q5; injection q5 with _ q5
  injection e3 with q6; injection q6 with q6
  subst q0 q1 q2 q3 q4 q5 q6
  have w0 : v0 = .int .i64 0 := (List.cons.inj r0).1
  have w1 : v1 = .int .i64 0 := (List.cons.inj r1).1
  have w2 : v2 = .int .i64 0 := (List.cons.inj r2).1
  have w3 : v3 = .int .i64 0 := (List.cons.inj r3).1
  have w4 : v4 = .int .i64 0 := (List.cons.inj a1).1
  have w5 : v5 = .int .i64 0 := (List.cons.inj a2).1
  have w6 : v6 = .bool true := (List.cons.inj a3).1
  have hj : ∀ j v, [v0, v1, v2, v3, v4, v5, v6][j]? = some v → W.cell? ⟨0, j, none⟩ = some v := by
    intro j v h
    rw [hc j, ← h, ← hcs, Array.getElem?_toList]
  subst w0 w1 w2 w3 w4 w5 w6
  exact ⟨⟨hj 0 _ rfl, hj 1 _ rfl, hj 2 _ rfl, hj 3 _ rfl, hj 4 _ rfl, hj 5 _ rfl, hj 6 _ rfl⟩, World.block_lt_of_cell? W _ (hj 0 _ rfl)⟩
end Go.Proofs.YtfimhaodgekkgaaDoor.QTre
