/- Functions of the program as plain Lean functions, what their calls do, and what follows of it. Conditions: each theorem's own. -/
import Derived.Test.YtlehkobakddgbaaCFdbApart0
namespace Go.Proofs.Ytlehkobakddgbaa.QFdb
open Go.RowKit Go.Proofs.YtlehkobakddgbaaW.PrintWords Go.Proofs.YtlehkobakddgbaaW.PrintLast Go.Proofs.YtlehkobakddgbaaW.PrintMore
set_option linter.unusedVariables false
set_option linter.unusedSimpArgs false
def rputR (m : List S40) (n : Int) (p : S40) : Int × List S40 × Int := if roldF m < 0 then (6, m, n + 1) else (0, m.eraseIdx (roldF m).toNat ++ [p], n)
set_option maxHeartbeats 16000000 in
set_option maxRecDepth 100000 in
theorem rput_full (base h : Nat) (u : Value) (m : List S40) (n : Int) (w0 w : World) (hB : Below base w0 w) (hs : base ≤ w.heap.size) (hr : RTbl w base h u m n) (hl : m.length ≤ 100000) (hful : 24 ≤ m.length) (hn0 : 0 ≤ n) (hn1 : n ≤ 1000000) (p : S40) (hx : rix m p.f0 p.f1 = -1) :
    Calls Try.prog 32 #[.pointer (some ⟨h, 0, none⟩), agg5 p] w fun e w' => e = .returned (.int .i64 (rputR m n p).1) ∧ ∃ u', RTurn w0 w base h u u' (rputR m n p).2.1 (rputR m n p).2.2 w' := by
  have mixed : Try.prog.follows .mixedOrders = true := by kernel_rfl
  have e15 : ∀ args w, (callFunc 15 args).run Try.prog w = .ok (.enter 15 args) w := enters_of Try.func15 (by kernel_rfl) rfl
  have e33 : ∀ args w, (callFunc 33 args).run Try.prog w = .ok (.enter 33 args) w := enters_of Try.func33 (by kernel_rfl) rfl
  have HAT := Aside0.mk (fun (W : World) (hb : Below w.heap.size w W) => rat_calls base h u m n W (hr.below hb) p.f0 p.f1)
  rw [hx] at HAT
  have HTT := Aside0.mk (fun (W : World) (hb : Below w.heap.size w W) => RTurn.of_below hB hs hr hb)
  have HT := Aside0.mk (fun (W : World) (hb : Below w.heap.size w W) => hr.below hb)
  have HSZ := Aside0.mk hs
  have HLT := Aside0.mk hr.lt
  have HFUL := Aside0.mk (show ((m.length : Int) ≥ 24) by omega)
  have HWO := Aside0.mk (fun (W : World) (hb : Below w.heap.size w W) (j : Nat) (hj : j < m.length) => without_calls base h u m n W (hr.below hb) (by omega) j hj)
  obtain ⟨A, c, rfl, hc, hC⟩ := hr.open
  have HC := Aside0.mk hC
  have hbs := Below.refl w.heap.size w
  have hmx : m.length ≤ 9223372036854775807 := hC.2.1
  clear hr hB hs hx hC hful
  obtain ⟨p0, p1, p2, p3, p4⟩ := p
  dsimp only at HAT
  go_enter Try.func32, Try.ntmps32
  go_upto_region 2 with (first
    | ((with_reducible refine gate_dst (N := 3) rfl ?_); refine box_event ?hg (N := 3) ?hd (cs := #[.int .i64 p0, .int .i64 p1, .int .i64 p2, .int .i64 p3, .bool p4]) (t := 43) ?hr ?_; (case hd => rfl); (case hg => rfl); (case hr => first | (go_simp; done) | (go_simp; rfl)); intro pb hg w1 hbox hb1; have hz0 : w1.cell? ⟨pb, 0, none⟩ = some (.int .i64 p0) := (blk_cell hbox 0).trans rfl; have hz1 : w1.cell? ⟨pb, 1, none⟩ = some (.int .i64 p1) := (blk_cell hbox 1).trans rfl; have HX := Aside0.mk hbox; have HB1 := Aside0.mk hb1; have HG := Aside0.mk hg; clear hbox hb1 hg)
    | (go_at_fn 15; refine (HAT.out w1 HB1.out).mono ?_; rintro e w2 ⟨rfl, hb2⟩; have HX2 := Aside0.mk (blk_below HX.out hb2); have HB2 := Aside0.mk (below_step HB1.out hb2); have hgc2 : w2.cell? ⟨h, 0, none⟩ = some (.slice A m.length c) := (blk_cell (HT.out w2 HB2.out).cell 0).trans rfl; clear hb2))
  have hph : pb ≠ h := fun e => by have h1 := HLT.out; have h2 := HG.out; omega
  clear HAT HX HB1
  iterate 15 (first | go_says fail | go_values | go_skip | go_guarded | go_step | go_upon | go_back)
  go_cut [] (fun wc => ∃ (j : Nat) (u1 : Value), Aside0 (roldF m = (j : Int) ∧ j < m.length) ∧ Aside0 (RTurn w0 w base h (.slice A m.length c) u1 (m.eraseIdx j) n wc) ∧ Aside0 (wc.heap[pb]? = some (.cells #[.int .i64 p0, .int .i64 p1, .int .i64 p2, .int .i64 p3, .bool p4] 43 (0, 0))))
  case first =>
    have hfulz := HFUL.out
    go_wp2
    go_loopg [6, 37] m.length (fun gk s6 s37 wr => ∃ i : Nat, s6 = .int .i64 (rold m i) ∧ s37 = .int .i64 i ∧ i ≤ m.length ∧ m.length - i ≤ gk ∧ Aside0 (Below w2.heap.size w2 wr))
    case atStart => exact ⟨0, rfl, rfl, Nat.zero_le _, by omega, ⟨Below.refl _ _⟩⟩
    case round =>
      obtain ⟨i, rfl, rfl, hil, hgk, HB⟩ := hrel
      by_cases hlt : i < m.length
      · clear HTT HWO HSZ
        have hlz : (i : Int) < (m.length : Int) := by omega
        have HBW := Aside0.mk (below_step HB2.out HB.out)
        obtain ⟨ad, ea, hx0, hx1, hx2, hx3, hx4⟩ := at_T40 (Kd.C_below HC.out HBW.out) i hlt
        subst ea
        have hstep : rold m (i + 1) = if m[i].f4 = true then rold m i else if rold m i < 0 then (i : Int) else if goes m[i] (rplc m (rold m i)) = true then (i : Int) else rold m i := by
          show (match m[i]? with | some x => _ | none => _) = _
          rw [List.getElem?_eq_getElem hlt]
        have HST := Aside0.mk hstep
        clear hstep
        have hat : ∀ j : Nat, (hj : j < i) → rplc m (j : Int) = (m[j]'(by omega)) := fun j hj => by unfold rplc; rw [Int.toNat_natCast, List.getElem?_eq_getElem (by omega)]; rfl
        have HCW := Aside0.mk (fun (W : World) (hb : Below wr.heap.size wr W) (j : Nat) (hj : j < m.length) => at_T40 (Kd.C_below (Kd.C_below HC.out HBW.out) hb) j hj)
        generalize m[i] = x at hx0 hx1 hx2 hx3 hx4 HST
        obtain ⟨x0, x1, x2, x3, x4⟩ := x
        dsimp only at hx0 hx1 hx2 hx3 hx4 HST
        cases x4 with
        | true =>
          rw [if_pos rfl] at HST
          go_wp2_with ((with_reducible refine gate_dst (N := 8) rfl ?_); refine box_event ?hg (N := 8) ?hd (cs := #[.int .i64 0, .int .i64 0, .int .i64 0, .int .i64 0, .bool false]) (t := 43) ?hr ?_; (case hd => rfl); (case hg => rfl); (case hr => first | (go_simp; done) | (go_simp; rfl)); intro gb hg w3 hbox hb; have hcz0 : w3.cell? ⟨gb, 0, none⟩ = some (.int .i64 0) := (blk_cell hbox 0).trans rfl; have hcz1 : w3.cell? ⟨gb, 1, none⟩ = some (.int .i64 0) := (blk_cell hbox 1).trans rfl; have hcz2 : w3.cell? ⟨gb, 2, none⟩ = some (.int .i64 0) := (blk_cell hbox 2).trans rfl; have hcz3 : w3.cell? ⟨gb, 3, none⟩ = some (.int .i64 0) := (blk_cell hbox 3).trans rfl; have hcz4 : w3.cell? ⟨gb, 4, none⟩ = some (.bool false) := (blk_cell hbox 4).trans rfl; have hfz0 := blk_frozen hbox 0; have hfz1 := blk_frozen hbox 1; have hfz2 := blk_frozen hbox 2; have hfz3 := blk_frozen hbox 3; have hfz4 := blk_frozen hbox 4; have BX := Aside0.mk hbox; have KX := Aside0.mk hb; have HGB := Aside0.mk hg; clear hb hbox hg)
          have B5 := below_step HB.out (lay5_below KX.out (Nat.le_of_eq HGB.out.symm) ⟨x0, x1, x2, x3, true⟩)
          go_roundg (m.length - (i + 1))
          case measure => omega
          case rel => exact ⟨i + 1, by rw [HST.out], by go_num, by omega, Nat.le_refl _, ⟨B5⟩⟩
        | false =>
          go_wp2_with ((with_reducible refine gate_dst (N := 8) rfl ?_); refine box_event ?hg (N := 8) ?hd (cs := #[.int .i64 0, .int .i64 0, .int .i64 0, .int .i64 0, .bool false]) (t := 43) ?hr ?_; (case hd => rfl); (case hg => rfl); (case hr => first | (go_simp; done) | (go_simp; rfl)); intro gb hg w3 hbox hb; have hcz0 : w3.cell? ⟨gb, 0, none⟩ = some (.int .i64 0) := (blk_cell hbox 0).trans rfl; have hcz1 : w3.cell? ⟨gb, 1, none⟩ = some (.int .i64 0) := (blk_cell hbox 1).trans rfl; have hcz2 : w3.cell? ⟨gb, 2, none⟩ = some (.int .i64 0) := (blk_cell hbox 2).trans rfl; have hcz3 : w3.cell? ⟨gb, 3, none⟩ = some (.int .i64 0) := (blk_cell hbox 3).trans rfl; have hcz4 : w3.cell? ⟨gb, 4, none⟩ = some (.bool false) := (blk_cell hbox 4).trans rfl; have hfz0 := blk_frozen hbox 0; have hfz1 := blk_frozen hbox 1; have hfz2 := blk_frozen hbox 2; have hfz3 := blk_frozen hbox 3; have hfz4 := blk_frozen hbox 4; have BX := Aside0.mk hbox; have KX := Aside0.mk hb; have HGB := Aside0.mk hg; clear hb hbox hg)
          have B5 := lay5_below KX.out (Nat.le_of_eq HGB.out.symm) ⟨x0, x1, x2, x3, false⟩
          have X5 := lay5_blk43 BX.out ⟨x0, x1, x2, x3, false⟩
          obtain ⟨W5, hW5⟩ : ∃ W5, W5 = lay5 w3 gb ⟨x0, x1, x2, x3, false⟩ := ⟨_, rfl⟩
          have hW5' := hW5
          unfold lay5 at hW5'
          rw [← hW5] at B5 X5
          dsimp only at hW5'
          rw [← hW5']
          have hT5 := HT.out W5 (below_step HBW.out B5)
          have hg5 : W5.cell? ⟨h, 0, none⟩ = some (.slice (some ad) m.length c) := (blk_cell hT5.cell 0).trans rfl
          have ht0 : W5.cell? ⟨gb, 0, none⟩ = some (.int .i64 x0) := (blk_cell X5 0).trans rfl
          have ht1 : W5.cell? ⟨gb, 1, none⟩ = some (.int .i64 x1) := (blk_cell X5 1).trans rfl
          have ht3 : W5.cell? ⟨gb, 3, none⟩ = some (.int .i64 x3) := (blk_cell X5 3).trans rfl
          have ht4 : W5.cell? ⟨gb, 4, none⟩ = some (.bool false) := (blk_cell X5 4).trans rfl
          have HB5 := Aside0.mk (below_step HB.out B5)
          have HCJ := Aside0.mk (fun j hj => HCW.out W5 B5 j hj)
          clear hcz0 hcz1 hcz2 hcz3 hcz4 hfz0 hfz1 hfz2 hfz3 hfz4 BX KX HGB HCW X5 B5 hT5 hW5 hW5' hx0 hx1 hx2 hx3 hx4
          rw [if_neg (by decide)] at HST
          rcases rold_range m i with e | ⟨j, e, hj⟩
          · rw [e] at HST ⊢
            rw [if_pos (by decide)] at HST
            go_wp2_with fail
            simp only [List.append_eq, List.cons_append, List.nil_append]
            go_quiet (fail)
            go_wp2
            go_roundg (m.length - (i + 1))
            case measure => omega
            case rel => exact ⟨i + 1, by rw [HST.out], by go_num, by omega, Nat.le_refl _, ⟨pw_below_drewN HB5.out nq⟩⟩
          · rw [e] at HST ⊢
            rw [if_neg (by omega), hat j hj] at HST
            have hjn : ¬ ((j : Int) < 0) := by omega
            have hjl : (j : Int) < (m.length : Int) := by omega
            obtain ⟨ad2, ea2, hy0, hy1, hy2, hy3, hy4⟩ := HCJ.out j (by omega)
            cases ea2
            generalize (m[j]'(by omega)) = y at hy0 hy1 hy3 HST
            obtain ⟨y0, y1, y2, y3, y4⟩ := y
            dsimp only at hy0 hy1 hy3 HST
            have key : (x3 < y3 ∧ goes ⟨x0, x1, x2, x3, false⟩ ⟨y0, y1, y2, y3, y4⟩ = true) ∨ (¬ x3 < y3 ∧ ¬ x3 = y3 ∧ goes ⟨x0, x1, x2, x3, false⟩ ⟨y0, y1, y2, y3, y4⟩ = false) ∨ (x3 = y3 ∧ x0 < y0 ∧ goes ⟨x0, x1, x2, x3, false⟩ ⟨y0, y1, y2, y3, y4⟩ = true) ∨ (x3 = y3 ∧ ¬ x0 < y0 ∧ ¬ x0 = y0 ∧ goes ⟨x0, x1, x2, x3, false⟩ ⟨y0, y1, y2, y3, y4⟩ = false) ∨ (x3 = y3 ∧ x0 = y0 ∧ x1 < y1 ∧ goes ⟨x0, x1, x2, x3, false⟩ ⟨y0, y1, y2, y3, y4⟩ = true) ∨ (x3 = y3 ∧ x0 = y0 ∧ ¬ x1 < y1 ∧ goes ⟨x0, x1, x2, x3, false⟩ ⟨y0, y1, y2, y3, y4⟩ = false) := by
              unfold goes
              dsimp only
              simp only [decide_eq_true_eq, decide_eq_false_iff_not]
              omega
            clear HCJ hat hy2 hy4
            have dj0 : decide ((j : Int) < 0) = false := decide_eq_false hjn
            rcases key with ⟨k1, kk⟩ | ⟨k1, k2, kk⟩ | ⟨k1, k2, kk⟩ | ⟨k1, k2, k3, kk⟩ | ⟨k1, k2, k3, kk⟩ | ⟨k1, k2, k3, kk⟩
            · rw [kk, if_pos rfl] at HST
              have d1 : decide (x3 < y3) = true := decide_eq_true k1
              go_wp2_with fail
              try simp only [List.append_eq, List.cons_append, List.nil_append]
              go_quiet (fail)
              go_wp2
              go_roundg (m.length - (i + 1))
              case measure => omega
              case rel => exact ⟨i + 1, by rw [HST.out], by go_num, by omega, Nat.le_refl _, ⟨pw_below_drewN HB5.out nq⟩⟩
            · rw [kk, if_neg (by decide)] at HST
              have d1 : decide (x3 < y3) = false := decide_eq_false k1
              have d2 : (x3 == y3) = false := by simpa using k2
              go_wp2_with fail
              try simp only [List.append_eq, List.cons_append, List.nil_append]
              go_quiet (fail)
              go_wp2
              go_roundg (m.length - (i + 1))
              case measure => omega
              case rel => exact ⟨i + 1, by rw [HST.out], by go_num, by omega, Nat.le_refl _, ⟨pw_below_drewN HB5.out nq⟩⟩
            · rw [kk, if_pos rfl] at HST
              subst k1
              have d1 : decide (x0 < y0) = true := decide_eq_true k2
              go_wp2_with fail
              try simp only [List.append_eq, List.cons_append, List.nil_append]
              go_quiet (fail)
              go_wp2
              go_roundg (m.length - (i + 1))
              case measure => omega
              case rel => exact ⟨i + 1, by rw [HST.out], by go_num, by omega, Nat.le_refl _, ⟨pw_below_drewN HB5.out nq⟩⟩
            · rw [kk, if_neg (by decide)] at HST
              subst k1
              have d1 : decide (x0 < y0) = false := decide_eq_false k2
              have d2 : (x0 == y0) = false := by simpa using k3
              go_wp2_with fail
              try simp only [List.append_eq, List.cons_append, List.nil_append]
              go_quiet (fail)
              go_wp2
              go_roundg (m.length - (i + 1))
              case measure => omega
              case rel => exact ⟨i + 1, by rw [HST.out], by go_num, by omega, Nat.le_refl _, ⟨pw_below_drewN HB5.out nq⟩⟩
            · rw [kk, if_pos rfl] at HST
              subst k1
              subst k2
              have d1 : decide (x1 < y1) = true := decide_eq_true k3
              go_wp2_with fail
              try simp only [List.append_eq, List.cons_append, List.nil_append]
              go_quiet (fail)
              go_wp2
              go_roundg (m.length - (i + 1))
              case measure => omega
              case rel => exact ⟨i + 1, by rw [HST.out], by go_num, by omega, Nat.le_refl _, ⟨pw_below_drewN HB5.out nq⟩⟩
            · rw [kk, if_neg (by decide)] at HST
              subst k1
              subst k2
              have d1 : decide (x1 < y1) = false := decide_eq_false k3
              go_wp2_with fail
              try simp only [List.append_eq, List.cons_append, List.nil_append]
              go_quiet (fail)
              go_wp2
              go_roundg (m.length - (i + 1))
              case measure => omega
              case rel => exact ⟨i + 1, by rw [HST.out], by go_num, by omega, Nat.le_refl _, ⟨pw_below_drewN HB5.out nq⟩⟩
      · have e : i = m.length := by omega
        subst e
        have HBW := Aside0.mk (below_step HB2.out HB.out)
        have HXR := Aside0.mk (blk_below HX2.out HB.out)
        have HTR := Aside0.mk (HTT.out wr HBW.out)
        have hcr1 : wr.cell? ⟨h, 1, none⟩ = some (.int .i64 n) := (blk_cell HTR.out.tbl.cell 1).trans rfl
        have hcf1 := blk_frozen HTR.out.tbl.cell 1
        rcases rold_range m m.length with e | ⟨j, e, hj⟩
        · have HRP := Aside0.mk (show rputR m n ⟨p0, p1, p2, p3, p4⟩ = (6, m, n + 1) by unfold rputR; rw [show roldF m = -1 from e, if_pos (by decide)])
          rw [e]
          have HFIN := Aside0.mk (HTR.out.storeN HSZ.out (n + 1))
          clear HTT HT HWO HC HTR
          go_wp2
          go_ret
          rw [HRP.out]
          exact ⟨rfl, _, HFIN.out⟩
        · rw [e]
          have hjn : ¬ ((j : Int) < 0) := by omega
          have HWJ := Aside0.mk (HWO.out wr HBW.out j hj)
          have HTL := Aside0.mk (fun (W2 : World) (u2 : Value) => lay_key HTR.out HSZ.out W2 u2 (m.eraseIdx j))
          have HEJ := Aside0.mk (And.intro (show roldF m = (j : Int) from e) hj)
          clear HTT HT HWO HC e
          go_wp2_with (go_at_fn 33; refine HWJ.out.mono ?_; rintro e w4 ⟨v4, rfl, ho4, hb4⟩; obtain ⟨hc4, hfin4⟩ := HTL.out w4 v4 hb4 ho4; have hx4 := blk_kept (blk_below HXR.out hb4) (Kept.setCell (S := fun k => k = h) (Kept.refl w4 _) (p := ⟨h, 0, none⟩) (.inl rfl) v4) hph; have hf4 := blk_frozen hc4 0; have hy4 : w4.cell? ⟨h, 0, none⟩ = some (.slice A m.length c) := (blk_cell hc4 0).trans rfl; obtain ⟨A4, c4, rfl, _, _⟩ := hfin4.tbl.open; have HT4 := Aside0.mk hfin4; have HX4 := Aside0.mk hx4; clear ho4 hb4 hc4 hfin4 hx4)
          go_meet
          case rel => exact ⟨j, _, HEJ, HT4, HX4⟩
  case rest =>
    obtain ⟨j, u1, HEJ, HT4, HXC⟩ := hcut
    have HX2 := HXC
    obtain ⟨A4, c4, rfl, _, hC4⟩ := HT4.out.tbl.open
    have HLAY2 := Aside0.mk (lay_key HT4.out HSZ.out)
    have HT2 := Aside0.mk HT4.out.tbl
    have HC2 := Aside0.mk hC4
    have HL := Aside0.mk (show ((m.eraseIdx j).length + 1) * 40 ≤ 140737488355328 by have := List.length_eraseIdx_of_lt HEJ.out.2; omega)
    have HRP := Aside0.mk (show rputR m n ⟨p0, p1, p2, p3, p4⟩ = (0, m.eraseIdx j ++ [⟨p0, p1, p2, p3, p4⟩], n) by unfold rputR; rw [HEJ.out.1, if_neg (by omega), Int.toNat_natCast])
    clear HT4 hC4 HTT HT HWO HC HEJ
    generalize m.eraseIdx j = m4 at *
    have hgc2 : wc.cell? ⟨h, 0, none⟩ = some (.slice A4 m4.length c4) := (blk_cell HT2.out.cell 0).trans rfl
    have hpl : pb < wc.heap.size := blk_lt HX2.out
    have hhl : h < wc.heap.size := HT2.out.lt
    have hn1 : ¬ (pb = wc.heap.size) := by omega
    have hn2 : ¬ (wc.heap.size = pb) := by omega
    have hn3 : ¬ (h = wc.heap.size) := by omega
    have hn4 : ¬ (wc.heap.size = h) := by omega
    have hn5 : ¬ (pb = wc.heap.size + 1) := by omega
    have hn6 : ¬ (h = wc.heap.size + 1) := by omega
    have hb2 := Below.refl wc.heap.size wc
    obtain ⟨hz0, hz1, hz2, hz3, hz4⟩ := pcells_of HX2.out
    go_wp2_with fail
    go_region_law_o (first
      | (refine Kd.R_append_rows_step k40 (w0 := wc) wc.heap.size (by rfl) (.tmp 129) (.tmp 133) 28 43 (.agg #[(.int .i64 0), (.int .i64 0), (.int .i64 0), (.int .i64 0), (.bool false)]) 40 rfl Try.underlying28 info43 rfl (by decide) (by omega) _ ([] : List S40) m4 A4 m4.length c4 (fun _ => True) (fun _ => False) rfl rfl ?aO ?aR (fun _ _ h => h) (fun _ h => h.elim) ?aF ?aB ?aS ?aL ?_; (case aB => repeat (with_reducible first | assumption | apply below_alloc | apply pw_below_drewN | apply below_drew1)); (case aR => exact Kd.C_below HC2.out (by repeat (with_reducible first | assumption | apply below_alloc | apply pw_below_drewN | apply below_drew1))); (case aF => exact (fun _ _ => trivial)); (case aO => exact R_nothing (by repeat (with_reducible first | exact blk_new _ _ | exact blk_new2 _ _ _ | exact blk_new3 _ _ _ | (refine blk_alloc ?_ _) | refine blk_drew ?_)) (by first | exact Nat.le_refl _ | exact Nat.le_succ _ | simp)); (case aS => exact (by repeat (with_reducible first | assumption | apply below_alloc | apply pw_below_drewN | apply below_drew1) : Below wc.heap.size wc _).size); (case aL => have := HL.out; simp only [List.length_nil]; omega); intro v3 w3 ho3 hb3 hg3 hat3; rw [List.nil_append] at ho3; obtain ⟨hy0, hy1, hy2, hy3, hy4⟩ := pcells_of (blk_below HX2.out hb3); have HO3 := Aside0.mk ho3; have HG3 := Aside0.mk (show World.grownBy _ w3 (some _) from hg3); clear ho3 hg3 hat3)
      | (refine Kd.R_append_rows_step k40 (w0 := wc) wc.heap.size (by rfl) (.tmp 134) (.tmp 136) 28 43 (.agg #[(.int .i64 0), (.int .i64 0), (.int .i64 0), (.int .i64 0), (.bool false)]) 40 rfl Try.underlying28 info43 rfl (by decide) (by omega) v3 m4 [⟨p0, p1, p2, p3, p4⟩] _ 1 1 (fun _ => True) (fun _ => False) rfl rfl ?aO ?aR (fun _ _ h => h) (fun _ h => h.elim) ?aF ?aB ?aS ?aL ?_; (case aR => exact C_one43 (by first | exact blk_new w3 _ | exact blk_grown (by repeat (with_reducible first | exact blk_new _ _ | exact blk_new2 _ _ _ | exact blk_new3 _ _ _ | (refine blk_alloc ?_ _) | refine blk_drew ?_)) HG3.out (by simp))); (case aB => repeat (with_reducible first | assumption | apply below_alloc | apply pw_below_drewN | apply below_drew1)); (case aF => exact (fun _ _ => trivial)); (case aO => first | exact HO3.out | exact Kd.R_alloc HO3.out _); (case aS => exact (by repeat (with_reducible first | assumption | apply below_alloc | apply pw_below_drewN | apply below_drew1) : Below wc.heap.size wc _).size); (case aL => exact HL.out); intro v4 w4 ho4 hb4 hg4 hat4; obtain ⟨hc4, hfin⟩ := HLAY2.out w4 v4 _ hb4 ho4; have hf4 := blk_frozen hc4 0; have hx4 : w4.cell? ⟨h, 0, none⟩ = some (.slice A4 m4.length c4) := (blk_cell hc4 0).trans rfl; obtain ⟨A4, n4, c4, rfl⟩ := RR_open ho4; have HFIN := Aside0.mk hfin; clear ho4 hg4 hat4 hc4 hfin))
    all_goals (go_wp2; go_ret; rw [HRP.out]; exact ⟨rfl, _, HFIN.out⟩)
end Go.Proofs.Ytlehkobakddgbaa.QFdb
namespace Go.Proofs.Ytlehkobakddgbaa.QFdb
open Go.RowKit Go.Proofs.YtlehkobakddgbaaW.PrintWords Go.Proofs.YtlehkobakddgbaaW.PrintLast Go.Proofs.YtlehkobakddgbaaW.PrintMore
set_option linter.unusedVariables false
set_option linter.unusedSimpArgs false
def rputf (m : List S40) (n : Int) (p : S40) : Int × List S40 × Int :=
  if 0 ≤ rix m p.f0 p.f1 then (0, m.eraseIdx (rix m p.f0 p.f1).toNat ++ [p], n) else if m.length < 24 then (0, m ++ [p], n) else rputR m n p
theorem rput_calls (base h : Nat) (u : Value) (m : List S40) (n : Int) (w0 w : World) (hB : Below base w0 w) (hs : base ≤ w.heap.size) (hr : RTbl w base h u m n) (hl : m.length ≤ 100000) (hn0 : 0 ≤ n) (hn1 : n ≤ 1000000) (p : S40) :
    Calls Try.prog 32 #[.pointer (some ⟨h, 0, none⟩), agg5 p] w fun e w' => e = .returned (.int .i64 (rputf m n p).1) ∧ ∃ u', RTurn w0 w base h u u' (rputf m n p).2.1 (rputf m n p).2.2 w' := by
  unfold rputf
  rcases ixP_cases m (keyP p.f0 p.f1) with ⟨e, _⟩ | ⟨j, e, hj, _⟩
  · rw [show rix m p.f0 p.f1 = -1 from e, if_neg (by decide)]
    by_cases hr24 : m.length < 24
    · rw [if_pos hr24]
      exact rput_room base h u m n w0 w hB hs hr hr24 p e
    · rw [if_neg hr24]
      exact rput_full base h u m n w0 w hB hs hr hl (by omega) hn0 hn1 p e
  · rw [show rix m p.f0 p.f1 = (j : Int) from e, if_pos (by omega), Int.toNat_natCast]
    exact rput_hit base h u m n w0 w hB hs hr hl p j hj e
def rfixf (m : List S40) (n vid mac port : Int) : Int × List S40 × Int := if goodB vid mac port = true then rputf m n ⟨vid, mac, port, 0, true⟩ else (1, m, n)
def rstatB (m : List S40) (vid mac : Int) : Bool := decide (0 ≤ rix m vid mac) && (match m[(rix m vid mac).toNat]? with | some x => x.f4 | none => false)
def rlearnf (m : List S40) (n vid mac port now : Int) : Int × List S40 × Int := if goodB vid mac port = true then (if rstatB m vid mac = true then (0, m, n) else rputf m n ⟨vid, mac, port, now, false⟩) else (1, m, n)
def rdropf (m : List S40) (vid mac : Int) : Int × List S40 := if 0 ≤ rix m vid mac then (0, m.eraseIdx (rix m vid mac).toNat) else (5, m)
set_option maxHeartbeats 4000000 in
set_option maxRecDepth 100000 in
theorem rfix_calls (base h : Nat) (u : Value) (m : List S40) (n : Int) (w0 w : World) (hB : Below base w0 w) (hs : base ≤ w.heap.size) (hr : RTbl w base h u m n) (hl : m.length ≤ 100000) (hn0 : 0 ≤ n) (hn1 : n ≤ 1000000) (vid mac port : Int) :
    Calls Try.prog 20 #[.pointer (some ⟨h, 0, none⟩), .int .i64 vid, .int .i64 mac, .int .i64 port] w fun e w' => e = .returned (.int .i64 (rfixf m n vid mac port).1) ∧ ∃ u', RTurn w0 w base h u u' (rfixf m n vid mac port).2.1 (rfixf m n vid mac port).2.2 w' := by
  have e31 : ∀ args w, (callFunc 31 args).run Try.prog w = .ok (.enter 31 args) w := enters_of Try.func31 (by kernel_rfl) rfl
  have e32 : ∀ args w, (callFunc 32 args).run Try.prog w = .ok (.enter 32 args) w := enters_of Try.func32 (by kernel_rfl) rfl
  have HG := Aside0.mk (fun (W : World) => refgood_calls vid mac port W)
  have HT := Aside0.mk (fun (W : World) (hbb : Below w.heap.size w W) => RTurn.of_below hB hs hr hbb)
  have HP := Aside0.mk (fun (W : World) (hbb : Below w.heap.size w W) => rput_calls base h u m n w0 W (RTurn.of_below hB hs hr hbb).bel (Nat.le_trans hs hbb.size) (hr.below hbb) hl hn0 hn1 ⟨vid, mac, port, 0, true⟩)
  clear hr hB hs
  unfold rfixf
  by_cases hg : goodB vid mac port = true
  · rw [if_pos hg]
    rw [hg] at HG
    clear hg
    generalize rputf m n ⟨vid, mac, port, 0, true⟩ = r at *
    obtain ⟨r0, r1, r2⟩ := r
    go_enter Try.func20, Try.ntmps20
    go_wp2_with (first
      | (go_at_fn 31; refine (HG.out w).mono ?_; rintro e w1 ⟨rfl, hb1⟩; have HB1 := Aside0.mk hb1; clear hb1)
      | (go_at_fn 32; refine (HP.out w1 HB1.out).mono ?_; rintro e w2 ⟨rfl, v2, ht2⟩; have HT2 := Aside0.mk ((HT.out w1 HB1.out).trans ht2); clear ht2))
    go_ret
    exact ⟨rfl, v2, HT2.out⟩
  · rw [if_neg hg]
    have hg2 : goodB vid mac port = false := by simpa using hg
    rw [hg2] at HG
    clear hg hg2
    go_enter Try.func20, Try.ntmps20
    go_wp2_with (go_at_fn 31; refine (HG.out w).mono ?_; rintro e w1 ⟨rfl, hb1⟩; have HB1 := Aside0.mk hb1; clear hb1)
    go_ret
    exact ⟨rfl, u, HT.out w1 HB1.out⟩
set_option maxHeartbeats 8000000 in
set_option maxRecDepth 100000 in
theorem rlearn_calls (base h : Nat) (u : Value) (m : List S40) (n : Int) (w0 w : World) (hB : Below base w0 w) (hs : base ≤ w.heap.size) (hr : RTbl w base h u m n) (hl : m.length ≤ 100000) (hn0 : 0 ≤ n) (hn1 : n ≤ 1000000) (vid mac port now : Int) :
    Calls Try.prog 19 #[.pointer (some ⟨h, 0, none⟩), .int .i64 vid, .int .i64 mac, .int .i64 port, .int .i64 now] w fun e w' => e = .returned (.int .i64 (rlearnf m n vid mac port now).1) ∧ ∃ u', RTurn w0 w base h u u' (rlearnf m n vid mac port now).2.1 (rlearnf m n vid mac port now).2.2 w' := by
  have e15 : ∀ args w, (callFunc 15 args).run Try.prog w = .ok (.enter 15 args) w := enters_of Try.func15 (by kernel_rfl) rfl
  have e31 : ∀ args w, (callFunc 31 args).run Try.prog w = .ok (.enter 31 args) w := enters_of Try.func31 (by kernel_rfl) rfl
  have e32 : ∀ args w, (callFunc 32 args).run Try.prog w = .ok (.enter 32 args) w := enters_of Try.func32 (by kernel_rfl) rfl
  have HG := Aside0.mk (fun (W : World) => refgood_calls vid mac port W)
  have HTB := Aside0.mk hr
  have HT := Aside0.mk (fun (W : World) (hbb : Below w.heap.size w W) => RTurn.of_below hB hs hr hbb)
  have HK := Aside0.mk (fun (W : World) (hbb : Below w.heap.size w W) => rat_calls base h u m n W (hr.below hbb) vid mac)
  have HP := Aside0.mk (fun (W : World) (hbb : Below w.heap.size w W) => rput_calls base h u m n w0 W (RTurn.of_below hB hs hr hbb).bel (Nat.le_trans hs hbb.size) (hr.below hbb) hl hn0 hn1 ⟨vid, mac, port, now, false⟩)
  obtain ⟨A, c, rfl, hc, hC⟩ := hr.open
  have hmx : m.length ≤ 9223372036854775807 := hC.2.1
  clear hr hB hs hC
  unfold rlearnf
  by_cases hg : goodB vid mac port = true
  · rw [if_pos hg]
    rw [hg] at HG
    clear hg
    rcases ixP_cases m (keyP vid mac) with ⟨e, _⟩ | ⟨j, e, hj, _⟩
    · have hst : rstatB m vid mac = false := by unfold rstatB; rw [show rix m vid mac = -1 from e]; rfl
      rw [hst, if_neg (by decide)]
      rw [show rix m vid mac = -1 from e] at HK
      clear hst e
      generalize rputf m n ⟨vid, mac, port, now, false⟩ = r at *
      obtain ⟨r0, r1, r2⟩ := r
      go_enter Try.func19, Try.ntmps19
      go_wp2_with (first
        | (go_at_fn 31; refine (HG.out w).mono ?_; rintro e w1 ⟨rfl, hb1⟩; have HB1 := Aside0.mk hb1; clear hb1)
        | (go_at_fn 15; refine (HK.out w1 HB1.out).mono ?_; rintro e w2 ⟨rfl, hb2⟩; have HB2 := Aside0.mk (below_step HB1.out hb2); clear hb2)
        | (go_at_fn 32; refine (HP.out w2 HB2.out).mono ?_; rintro e w3 ⟨rfl, v3, ht3⟩; have HT3 := Aside0.mk ((HT.out w2 HB2.out).trans ht3); clear ht3))
      go_ret
      exact ⟨rfl, v3, HT3.out⟩
    · have hst : rstatB m vid mac = m[j].f4 := by unfold rstatB; rw [show rix m vid mac = (j : Int) from e, Int.toNat_natCast, List.getElem?_eq_getElem hj]; simp
      rw [hst]
      rw [show rix m vid mac = (j : Int) from e] at HK
      have hjz : (j : Int) < (m.length : Int) := by omega
      clear hst e
      have HAT := Aside0.mk (fun (W : World) (ht1 : RTbl W base h (.slice A m.length c) m n) => (show ∃ ad, A = some ad ∧ W.cell? ⟨(ad.add (j * 5)).block, (ad.add (j * 5)).off + 4, none⟩ = some (.bool m[j].f4) by obtain ⟨_, _, e1, _, hC1⟩ := ht1.open; cases e1; obtain ⟨ad, ea, _, _, _, _, hx4⟩ := at_T40 hC1 j hj; exact ⟨ad, ea, hx4⟩))
      generalize m[j].f4 = b at *
      cases b with
      | true =>
        rw [if_pos rfl]
        clear HP
        go_enter Try.func19, Try.ntmps19
        go_wp2_with (first
          | (go_at_fn 31; refine (HG.out w).mono ?_; rintro e w1 ⟨rfl, hb1⟩; have HB1 := Aside0.mk hb1; clear hb1)
          | (go_at_fn 15; refine (HK.out w1 HB1.out).mono ?_; rintro e w2 ⟨rfl, hb2⟩; have ht2 := HTB.out.below (below_step HB1.out hb2); have hgc2 : w2.cell? ⟨h, 0, none⟩ = some (.slice A m.length c) := (blk_cell ht2.cell 0).trans rfl; obtain ⟨ad, ea, hx4⟩ := HAT.out w2 ht2; subst ea; have HB2 := Aside0.mk (below_step HB1.out hb2); clear ht2 hb2))
        go_ret
        exact ⟨rfl, _, HT.out w2 HB2.out⟩
      | false =>
        rw [if_neg (by decide)]
        generalize rputf m n ⟨vid, mac, port, now, false⟩ = r at *
        obtain ⟨r0, r1, r2⟩ := r
        go_enter Try.func19, Try.ntmps19
        go_wp2_with (first
          | (go_at_fn 31; refine (HG.out w).mono ?_; rintro e w1 ⟨rfl, hb1⟩; have HB1 := Aside0.mk hb1; clear hb1)
          | (go_at_fn 15; refine (HK.out w1 HB1.out).mono ?_; rintro e w2 ⟨rfl, hb2⟩; have ht2 := HTB.out.below (below_step HB1.out hb2); have hgc2 : w2.cell? ⟨h, 0, none⟩ = some (.slice A m.length c) := (blk_cell ht2.cell 0).trans rfl; obtain ⟨ad, ea, hx4⟩ := HAT.out w2 ht2; subst ea; have HB2 := Aside0.mk (below_step HB1.out hb2); clear ht2 hb2)
          | (go_at_fn 32; refine (HP.out w2 HB2.out).mono ?_; rintro e w3 ⟨rfl, v3, ht3⟩; have HT3 := Aside0.mk ((HT.out w2 HB2.out).trans ht3); clear ht3))
        go_ret
        exact ⟨rfl, v3, HT3.out⟩
  · rw [if_neg hg]
    have hg2 : goodB vid mac port = false := by simpa using hg
    rw [hg2] at HG
    clear hg hg2 HK HP
    go_enter Try.func19, Try.ntmps19
    go_wp2_with (go_at_fn 31; refine (HG.out w).mono ?_; rintro e w1 ⟨rfl, hb1⟩; have HB1 := Aside0.mk hb1; clear hb1)
    go_ret
    exact ⟨rfl, _, HT.out w1 HB1.out⟩
set_option maxHeartbeats 4000000 in
set_option maxRecDepth 100000 in
theorem rdrop_calls (base h : Nat) (u : Value) (m : List S40) (n : Int) (w0 w : World) (hB : Below base w0 w) (hs : base ≤ w.heap.size) (hr : RTbl w base h u m n) (hl : m.length ≤ 100000) (vid mac : Int) :
    Calls Try.prog 21 #[.pointer (some ⟨h, 0, none⟩), .int .i64 vid, .int .i64 mac] w fun e w' => e = .returned (.int .i64 (rdropf m vid mac).1) ∧ ∃ u', RTurn w0 w base h u u' (rdropf m vid mac).2 n w' := by
  have e15 : ∀ args w, (callFunc 15 args).run Try.prog w = .ok (.enter 15 args) w := enters_of Try.func15 (by kernel_rfl) rfl
  have e33 : ∀ args w, (callFunc 33 args).run Try.prog w = .ok (.enter 33 args) w := enters_of Try.func33 (by kernel_rfl) rfl
  have HT := Aside0.mk (fun (W : World) (hbb : Below w.heap.size w W) => RTurn.of_below hB hs hr hbb)
  have HK := Aside0.mk (rat_calls base h u m n w hr vid mac)
  have HWO := Aside0.mk (fun (W : World) (hb : Below w.heap.size w W) (j : Nat) (hj : j < m.length) => without_calls base h u m n W (hr.below hb) (by omega) j hj)
  have HTL := Aside0.mk (fun (W : World) (hb : Below w.heap.size w W) => lay_key (RTurn.of_below hB hs hr hb) hs)
  unfold rdropf
  clear hr hB hs
  rcases ixP_cases m (keyP vid mac) with ⟨e, _⟩ | ⟨j, e, hj, _⟩
  · rw [show rix m vid mac = -1 from e, if_neg (by decide)]
    rw [show rix m vid mac = -1 from e] at HK
    clear e HWO HTL
    go_enter Try.func21, Try.ntmps21
    go_wp2_with (go_at_fn 15; refine HK.out.mono ?_; rintro e w2 ⟨rfl, hb2⟩; have HB2 := Aside0.mk hb2; clear hb2)
    go_ret
    exact ⟨rfl, _, HT.out w2 HB2.out⟩
  · rw [show rix m vid mac = (j : Int) from e, if_pos (by omega), Int.toNat_natCast]
    rw [show rix m vid mac = (j : Int) from e] at HK
    clear e
    go_enter Try.func21, Try.ntmps21
    go_wp2_with (first
      | (go_at_fn 15; refine HK.out.mono ?_; rintro e w2 ⟨rfl, hb2⟩; have HB2 := Aside0.mk hb2; have hgc2 : w2.cell? ⟨h, 0, none⟩ = some u := (blk_cell (HT.out w2 hb2).tbl.cell 0).trans rfl; clear hb2)
      | (go_at_fn 33; refine (HWO.out w2 HB2.out j hj).mono ?_; rintro e w4 ⟨v4, rfl, ho4, hb4⟩; obtain ⟨hc4, hfin4⟩ := HTL.out w2 HB2.out w4 v4 _ hb4 ho4; have hf4 := blk_frozen hc4 0; have hy4 : w4.cell? ⟨h, 0, none⟩ = some u := (blk_cell hc4 0).trans rfl; obtain ⟨A4, n4, c4, rfl⟩ := RR_open ho4; have HT4 := Aside0.mk hfin4; clear ho4 hb4 hc4 hfin4))
    go_ret
    exact ⟨rfl, _, HT4.out⟩
end Go.Proofs.Ytlehkobakddgbaa.QFdb
namespace Go.Proofs.Ytlehkobakddgbaa.QFdb
open Go.RowKit Go.Proofs.YtlehkobakddgbaaW.PrintWords Go.Proofs.YtlehkobakddgbaaW.PrintLast Go.Proofs.YtlehkobakddgbaaW.PrintMore
set_option linter.unusedVariables false
set_option linter.unusedSimpArgs false
def keepB (kind n : Int) (x : S40) : Bool := x.f4 || (kind == 0 && decide (wrap64 (n - x.f3) ≤ 60)) || (kind == 1 && decide (x.f2 ≠ n))
theorem filter_take {m : List S40} {i : Nat} (hi : i < m.length) (p : S40 → Bool) : (m.take (i + 1)).filter p = if p m[i] = true then (m.take i).filter p ++ [m[i]] else (m.take i).filter p := by
  rw [List.take_succ_eq_append_getElem hi, List.filter_append]
  split
  · rename_i h; rw [List.filter_cons_of_pos h, List.filter_nil]
  · rename_i h; rw [List.filter_cons_of_neg h, List.filter_nil, List.append_nil]
set_option maxHeartbeats 8000000 in
set_option maxRecDepth 100000 in
theorem keep0_calls (base h : Nat) (u : Value) (m : List S40) (n : Int) (w0 w : World) (hB : Below base w0 w) (hs : base ≤ w.heap.size) (hr : RTbl w base h u m n) (hl : m.length ≤ 100000) (a : Int) :
    Calls Try.prog 22 #[.pointer (some ⟨h, 0, none⟩), .int .i64 0, .int .i64 a] w fun e w' => e = .returned (.tuple #[]) ∧ ∃ u', RTurn w0 w base h u u' (m.filter (keepB 0 a)) n w' := by
  have HTL := Aside0.mk (fun (W2 : World) (u2 : Value) => lay_key (RTurn.of_below hB hs hr (Below.refl _ _)) hs W2 u2)
  have HR := Aside0.mk hr
  obtain ⟨A, c, rfl, hc, hC⟩ := hr.open
  have hmx : m.length ≤ 9223372036854775807 := hC.2.1
  have hgc : w.cell? ⟨h, 0, none⟩ = some (.slice A m.length c) := (blk_cell hr.cell 0).trans rfl
  have HC := Aside0.mk hC
  clear hr hB hs hC
  go_enter Try.func22, Try.ntmps22
  go_wp2
  go_loopg [6, 14] m.length (fun gk s6 s14 wr => ∃ i : Nat, s14 = .int .i64 i ∧ i ≤ m.length ∧ m.length - i ≤ gk ∧ Aside0 (Kd.R k40 43 wr w.heap.size (fun _ => True) s6 ((m.take i).filter (keepB 0 a))) ∧ Aside0 (Below w.heap.size w wr))
  case atStart => exact ⟨0, rfl, Nat.zero_le _, by omega, ⟨Kd.R_nil _ _ _ _ _⟩, ⟨Below.refl _ _⟩⟩
  case round =>
    obtain ⟨i, rfl, hil, hgk, HO, HB⟩ := hrel
    by_cases hlt : i < m.length
    · have hlz : (i : Int) < (m.length : Int) := by omega
      obtain ⟨ad, ea, hx0, hx1, hx2, hx3, hx4⟩ := at_T40 (Kd.C_below HC.out HB.out) i hlt
      subst ea
      have HST := Aside0.mk (filter_take hlt (keepB 0 a))
      have HLL := Aside0.mk (show (((m.take i).filter (keepB 0 a)).length + 1) * 40 ≤ 140737488355328 by have h1 := List.length_filter_le (keepB 0 a) (m.take i); rw [List.length_take] at h1; omega)
      generalize m[i] = x at hx0 hx1 hx2 hx3 hx4 HST
      obtain ⟨x0, x1, x2, x3, x4⟩ := x
      dsimp only at hx0 hx1 hx2 hx3 hx4 HST
      have key : (x4 = true ∧ keepB 0 a ⟨x0, x1, x2, x3, x4⟩ = true) ∨ (x4 = false ∧ wrap64 (a - x3) ≤ 60 ∧ keepB 0 a ⟨x0, x1, x2, x3, x4⟩ = true) ∨ (x4 = false ∧ ¬ wrap64 (a - x3) ≤ 60 ∧ keepB 0 a ⟨x0, x1, x2, x3, x4⟩ = false) := by
        unfold keepB
        dsimp only
        cases x4 <;> simp <;> omega
      generalize (m.take i).filter (keepB 0 a) = Q at HO HST HLL
      rcases key with ⟨hx, kk⟩ | ⟨hx, k1, kk⟩ | ⟨hx, k1, kk⟩
      · rw [kk, if_pos rfl] at HST
        clear kk
        subst hx
        go_upto_region 4 with ((with_reducible refine gate_dst (N := 8) rfl ?_); refine box_event ?hg (N := 8) ?hd (cs := #[.int .i64 0, .int .i64 0, .int .i64 0, .int .i64 0, .bool false]) (t := 43) ?hr ?_; (case hd => rfl); (case hg => rfl); (case hr => first | (go_simp; done) | (go_simp; rfl)); intro gb hg w3 hbox hb; have hcz0 : w3.cell? ⟨gb, 0, none⟩ = some (.int .i64 0) := (blk_cell hbox 0).trans rfl; have hcz1 : w3.cell? ⟨gb, 1, none⟩ = some (.int .i64 0) := (blk_cell hbox 1).trans rfl; have hcz2 : w3.cell? ⟨gb, 2, none⟩ = some (.int .i64 0) := (blk_cell hbox 2).trans rfl; have hcz3 : w3.cell? ⟨gb, 3, none⟩ = some (.int .i64 0) := (blk_cell hbox 3).trans rfl; have hcz4 : w3.cell? ⟨gb, 4, none⟩ = some (.bool false) := (blk_cell hbox 4).trans rfl; have hfz0 := blk_frozen hbox 0; have hfz1 := blk_frozen hbox 1; have hfz2 := blk_frozen hbox 2; have hfz3 := blk_frozen hbox 3; have hfz4 := blk_frozen hbox 4; have BX := Aside0.mk hbox; have KX := Aside0.mk hb; have HGB := Aside0.mk hg; clear hb hbox hg)
        have B5 := lay5_below KX.out (Nat.le_of_eq HGB.out.symm) ⟨x0, x1, x2, x3, true⟩
        have X5 := lay5_blk43 BX.out ⟨x0, x1, x2, x3, true⟩
        obtain ⟨W5, hW5⟩ : ∃ W5, W5 = lay5 w3 gb ⟨x0, x1, x2, x3, true⟩ := ⟨_, rfl⟩
        have hW5' := hW5
        unfold lay5 at hW5'
        rw [← hW5] at B5 X5
        dsimp only at hW5'
        rw [← hW5']
        obtain ⟨ht0, ht1, ht2, ht3, ht4⟩ := pcells_of X5
        have HB5 := Aside0.mk (below_step HB.out B5)
        have HO5 := Aside0.mk (Kd.R_below HO.out B5)
        clear hcz0 hcz1 hcz2 hcz3 hcz4 hfz0 hfz1 hfz2 hfz3 hfz4 BX KX HGB X5 B5 hW5 hW5' hx0 hx1 hx2 hx3 hx4
        go_wp2_with ((with_reducible refine gate_builtin (b := .append) (xs := #[.tmp 41, .tmp 43]) rfl ?_); at_builtin; refine Kd.R_append k40 (w0 := w) w.heap.size rfl (.tmp 41) (.tmp 43) 28 43 (.agg #[(.int .i64 0), (.int .i64 0), (.int .i64 0), (.int .i64 0), (.bool false)]) 40 rfl Try.underlying28 info43 rfl (by decide) (by omega) u6 Q ⟨x0, x1, x2, x3, true⟩ [.int .i64 x0, .int .i64 x1, .int .i64 x2, .int .i64 x3, .bool true] (fun _ => True) (fun _ => False) rfl rfl ?aP (fun _ hk => hk.elim) ?aF ?aO ?aB ?aS ?aL ?_; (case aP => exact k40_mkM _ _ _ ⟨x0, x1, x2, x3, true⟩); (case aB => exact HB5.out); (case aF => exact fun _ _ => trivial); (case aO => exact HO5.out); (case aS => exact HB5.out.size); (case aL => exact HLL.out); intro v4 w4 ho4 hb4 hg4 hat4; have HO4 := Aside0.mk ho4; have HB4 := Aside0.mk hb4; clear ho4 hb4 hg4 hat4)
        go_roundg (m.length - (i + 1))
        case measure => omega
        case rel => exact ⟨i + 1, by go_num, by omega, Nat.le_refl _, ⟨by rw [HST.out]; exact HO4.out⟩, HB4⟩
      · rw [kk, if_pos rfl] at HST
        clear kk
        have d1 : decide (wrap64 (a - x3) ≤ 60) = true := decide_eq_true k1
        subst hx
        go_upto_region 4 with ((with_reducible refine gate_dst (N := 8) rfl ?_); refine box_event ?hg (N := 8) ?hd (cs := #[.int .i64 0, .int .i64 0, .int .i64 0, .int .i64 0, .bool false]) (t := 43) ?hr ?_; (case hd => rfl); (case hg => rfl); (case hr => first | (go_simp; done) | (go_simp; rfl)); intro gb hg w3 hbox hb; have hcz0 : w3.cell? ⟨gb, 0, none⟩ = some (.int .i64 0) := (blk_cell hbox 0).trans rfl; have hcz1 : w3.cell? ⟨gb, 1, none⟩ = some (.int .i64 0) := (blk_cell hbox 1).trans rfl; have hcz2 : w3.cell? ⟨gb, 2, none⟩ = some (.int .i64 0) := (blk_cell hbox 2).trans rfl; have hcz3 : w3.cell? ⟨gb, 3, none⟩ = some (.int .i64 0) := (blk_cell hbox 3).trans rfl; have hcz4 : w3.cell? ⟨gb, 4, none⟩ = some (.bool false) := (blk_cell hbox 4).trans rfl; have hfz0 := blk_frozen hbox 0; have hfz1 := blk_frozen hbox 1; have hfz2 := blk_frozen hbox 2; have hfz3 := blk_frozen hbox 3; have hfz4 := blk_frozen hbox 4; have BX := Aside0.mk hbox; have KX := Aside0.mk hb; have HGB := Aside0.mk hg; clear hb hbox hg)
        have B5 := lay5_below KX.out (Nat.le_of_eq HGB.out.symm) ⟨x0, x1, x2, x3, false⟩
        have X5 := lay5_blk43 BX.out ⟨x0, x1, x2, x3, false⟩
        obtain ⟨W5, hW5⟩ : ∃ W5, W5 = lay5 w3 gb ⟨x0, x1, x2, x3, false⟩ := ⟨_, rfl⟩
        have hW5' := hW5
        unfold lay5 at hW5'
        rw [← hW5] at B5 X5
        dsimp only at hW5'
        rw [← hW5']
        obtain ⟨ht0, ht1, ht2, ht3, ht4⟩ := pcells_of X5
        have HB5 := Aside0.mk (below_step HB.out B5)
        have HO5 := Aside0.mk (Kd.R_below HO.out B5)
        clear hcz0 hcz1 hcz2 hcz3 hcz4 hfz0 hfz1 hfz2 hfz3 hfz4 BX KX HGB X5 B5 hW5 hW5' hx0 hx1 hx2 hx3 hx4
        go_wp2_with ((with_reducible refine gate_builtin (b := .append) (xs := #[.tmp 41, .tmp 43]) rfl ?_); at_builtin; refine Kd.R_append k40 (w0 := w) w.heap.size rfl (.tmp 41) (.tmp 43) 28 43 (.agg #[(.int .i64 0), (.int .i64 0), (.int .i64 0), (.int .i64 0), (.bool false)]) 40 rfl Try.underlying28 info43 rfl (by decide) (by omega) u6 Q ⟨x0, x1, x2, x3, false⟩ [.int .i64 x0, .int .i64 x1, .int .i64 x2, .int .i64 x3, .bool false] (fun _ => True) (fun _ => False) rfl rfl ?aP (fun _ hk => hk.elim) ?aF ?aO ?aB ?aS ?aL ?_; (case aP => exact k40_mkM _ _ _ ⟨x0, x1, x2, x3, false⟩); (case aB => exact HB5.out); (case aF => exact fun _ _ => trivial); (case aO => exact HO5.out); (case aS => exact HB5.out.size); (case aL => exact HLL.out); intro v4 w4 ho4 hb4 hg4 hat4; have HO4 := Aside0.mk ho4; have HB4 := Aside0.mk hb4; clear ho4 hb4 hg4 hat4)
        go_roundg (m.length - (i + 1))
        case measure => omega
        case rel => exact ⟨i + 1, by go_num, by omega, Nat.le_refl _, ⟨by rw [HST.out]; exact HO4.out⟩, HB4⟩
      · rw [kk, if_neg (by decide)] at HST
        clear kk
        have d1 : decide (wrap64 (a - x3) ≤ 60) = false := decide_eq_false k1
        subst hx
        go_wp2_with ((with_reducible refine gate_dst (N := 8) rfl ?_); refine box_event ?hg (N := 8) ?hd (cs := #[.int .i64 0, .int .i64 0, .int .i64 0, .int .i64 0, .bool false]) (t := 43) ?hr ?_; (case hd => rfl); (case hg => rfl); (case hr => first | (go_simp; done) | (go_simp; rfl)); intro gb hg w3 hbox hb; have hcz0 : w3.cell? ⟨gb, 0, none⟩ = some (.int .i64 0) := (blk_cell hbox 0).trans rfl; have hcz1 : w3.cell? ⟨gb, 1, none⟩ = some (.int .i64 0) := (blk_cell hbox 1).trans rfl; have hcz2 : w3.cell? ⟨gb, 2, none⟩ = some (.int .i64 0) := (blk_cell hbox 2).trans rfl; have hcz3 : w3.cell? ⟨gb, 3, none⟩ = some (.int .i64 0) := (blk_cell hbox 3).trans rfl; have hcz4 : w3.cell? ⟨gb, 4, none⟩ = some (.bool false) := (blk_cell hbox 4).trans rfl; have hfz0 := blk_frozen hbox 0; have hfz1 := blk_frozen hbox 1; have hfz2 := blk_frozen hbox 2; have hfz3 := blk_frozen hbox 3; have hfz4 := blk_frozen hbox 4; have BX := Aside0.mk hbox; have KX := Aside0.mk hb; have HGB := Aside0.mk hg; clear hb hbox hg)
        have B5 := lay5_below KX.out (Nat.le_of_eq HGB.out.symm) ⟨x0, x1, x2, x3, false⟩
        go_roundg (m.length - (i + 1))
        case measure => omega
        case rel => exact ⟨i + 1, by go_num, by omega, Nat.le_refl _, ⟨by rw [HST.out]; exact Kd.R_below HO.out B5⟩, ⟨below_step HB.out B5⟩⟩
    · have e : i = m.length := by omega
      subst e
      rw [List.take_length] at HO
      obtain ⟨hc4, hfin4⟩ := HTL.out wr u6 _ HB.out HO.out
      have hf4 := blk_frozen hc4 0
      have hy4 : wr.cell? ⟨h, 0, none⟩ = some (.slice A m.length c) := (blk_cell hc4 0).trans rfl
      have HT4 := Aside0.mk hfin4
      obtain ⟨A4, n4, c4, e4⟩ := RR_open HO.out
      clear hc4 hfin4
      subst e4
      go_wp2
      go_end0
      exact ⟨rfl, _, HT4.out⟩
set_option maxHeartbeats 8000000 in
set_option maxRecDepth 100000 in
theorem keep1_calls (base h : Nat) (u : Value) (m : List S40) (n : Int) (w0 w : World) (hB : Below base w0 w) (hs : base ≤ w.heap.size) (hr : RTbl w base h u m n) (hl : m.length ≤ 100000) (a : Int) :
    Calls Try.prog 22 #[.pointer (some ⟨h, 0, none⟩), .int .i64 1, .int .i64 a] w fun e w' => e = .returned (.tuple #[]) ∧ ∃ u', RTurn w0 w base h u u' (m.filter (keepB 1 a)) n w' := by
  have HTL := Aside0.mk (fun (W2 : World) (u2 : Value) => lay_key (RTurn.of_below hB hs hr (Below.refl _ _)) hs W2 u2)
  have HR := Aside0.mk hr
  obtain ⟨A, c, rfl, hc, hC⟩ := hr.open
  have hmx : m.length ≤ 9223372036854775807 := hC.2.1
  have hgc : w.cell? ⟨h, 0, none⟩ = some (.slice A m.length c) := (blk_cell hr.cell 0).trans rfl
  have HC := Aside0.mk hC
  clear hr hB hs hC
  go_enter Try.func22, Try.ntmps22
  go_wp2
  go_loopg [6, 14] m.length (fun gk s6 s14 wr => ∃ i : Nat, s14 = .int .i64 i ∧ i ≤ m.length ∧ m.length - i ≤ gk ∧ Aside0 (Kd.R k40 43 wr w.heap.size (fun _ => True) s6 ((m.take i).filter (keepB 1 a))) ∧ Aside0 (Below w.heap.size w wr))
  case atStart => exact ⟨0, rfl, Nat.zero_le _, by omega, ⟨Kd.R_nil _ _ _ _ _⟩, ⟨Below.refl _ _⟩⟩
  case round =>
    obtain ⟨i, rfl, hil, hgk, HO, HB⟩ := hrel
    by_cases hlt : i < m.length
    · have hlz : (i : Int) < (m.length : Int) := by omega
      obtain ⟨ad, ea, hx0, hx1, hx2, hx3, hx4⟩ := at_T40 (Kd.C_below HC.out HB.out) i hlt
      subst ea
      have HST := Aside0.mk (filter_take hlt (keepB 1 a))
      have HLL := Aside0.mk (show (((m.take i).filter (keepB 1 a)).length + 1) * 40 ≤ 140737488355328 by have h1 := List.length_filter_le (keepB 1 a) (m.take i); rw [List.length_take] at h1; omega)
      generalize m[i] = x at hx0 hx1 hx2 hx3 hx4 HST
      obtain ⟨x0, x1, x2, x3, x4⟩ := x
      dsimp only at hx0 hx1 hx2 hx3 hx4 HST
      have key : (x4 = true ∧ keepB 1 a ⟨x0, x1, x2, x3, x4⟩ = true) ∨ (x4 = false ∧ ¬ x2 = a ∧ keepB 1 a ⟨x0, x1, x2, x3, x4⟩ = true) ∨ (x4 = false ∧ x2 = a ∧ keepB 1 a ⟨x0, x1, x2, x3, x4⟩ = false) := by
        unfold keepB
        dsimp only
        cases x4 <;> simp <;> omega
      generalize (m.take i).filter (keepB 1 a) = Q at HO HST HLL
      rcases key with ⟨hx, kk⟩ | ⟨hx, k1, kk⟩ | ⟨hx, k1, kk⟩
      · rw [kk, if_pos rfl] at HST
        clear kk
        subst hx
        go_upto_region 4 with ((with_reducible refine gate_dst (N := 8) rfl ?_); refine box_event ?hg (N := 8) ?hd (cs := #[.int .i64 0, .int .i64 0, .int .i64 0, .int .i64 0, .bool false]) (t := 43) ?hr ?_; (case hd => rfl); (case hg => rfl); (case hr => first | (go_simp; done) | (go_simp; rfl)); intro gb hg w3 hbox hb; have hcz0 : w3.cell? ⟨gb, 0, none⟩ = some (.int .i64 0) := (blk_cell hbox 0).trans rfl; have hcz1 : w3.cell? ⟨gb, 1, none⟩ = some (.int .i64 0) := (blk_cell hbox 1).trans rfl; have hcz2 : w3.cell? ⟨gb, 2, none⟩ = some (.int .i64 0) := (blk_cell hbox 2).trans rfl; have hcz3 : w3.cell? ⟨gb, 3, none⟩ = some (.int .i64 0) := (blk_cell hbox 3).trans rfl; have hcz4 : w3.cell? ⟨gb, 4, none⟩ = some (.bool false) := (blk_cell hbox 4).trans rfl; have hfz0 := blk_frozen hbox 0; have hfz1 := blk_frozen hbox 1; have hfz2 := blk_frozen hbox 2; have hfz3 := blk_frozen hbox 3; have hfz4 := blk_frozen hbox 4; have BX := Aside0.mk hbox; have KX := Aside0.mk hb; have HGB := Aside0.mk hg; clear hb hbox hg)
        have B5 := lay5_below KX.out (Nat.le_of_eq HGB.out.symm) ⟨x0, x1, x2, x3, true⟩
        have X5 := lay5_blk43 BX.out ⟨x0, x1, x2, x3, true⟩
        obtain ⟨W5, hW5⟩ : ∃ W5, W5 = lay5 w3 gb ⟨x0, x1, x2, x3, true⟩ := ⟨_, rfl⟩
        have hW5' := hW5
        unfold lay5 at hW5'
        rw [← hW5] at B5 X5
        dsimp only at hW5'
        rw [← hW5']
        obtain ⟨ht0, ht1, ht2, ht3, ht4⟩ := pcells_of X5
        have HB5 := Aside0.mk (below_step HB.out B5)
        have HO5 := Aside0.mk (Kd.R_below HO.out B5)
        clear hcz0 hcz1 hcz2 hcz3 hcz4 hfz0 hfz1 hfz2 hfz3 hfz4 BX KX HGB X5 B5 hW5 hW5' hx0 hx1 hx2 hx3 hx4
        go_wp2_with ((with_reducible refine gate_builtin (b := .append) (xs := #[.tmp 41, .tmp 43]) rfl ?_); at_builtin; refine Kd.R_append k40 (w0 := w) w.heap.size rfl (.tmp 41) (.tmp 43) 28 43 (.agg #[(.int .i64 0), (.int .i64 0), (.int .i64 0), (.int .i64 0), (.bool false)]) 40 rfl Try.underlying28 info43 rfl (by decide) (by omega) u6 Q ⟨x0, x1, x2, x3, true⟩ [.int .i64 x0, .int .i64 x1, .int .i64 x2, .int .i64 x3, .bool true] (fun _ => True) (fun _ => False) rfl rfl ?aP (fun _ hk => hk.elim) ?aF ?aO ?aB ?aS ?aL ?_; (case aP => exact k40_mkM _ _ _ ⟨x0, x1, x2, x3, true⟩); (case aB => exact HB5.out); (case aF => exact fun _ _ => trivial); (case aO => exact HO5.out); (case aS => exact HB5.out.size); (case aL => exact HLL.out); intro v4 w4 ho4 hb4 hg4 hat4; have HO4 := Aside0.mk ho4; have HB4 := Aside0.mk hb4; clear ho4 hb4 hg4 hat4)
        go_roundg (m.length - (i + 1))
        case measure => omega
        case rel => exact ⟨i + 1, by go_num, by omega, Nat.le_refl _, ⟨by rw [HST.out]; exact HO4.out⟩, HB4⟩
      · rw [kk, if_pos rfl] at HST
        clear kk
        have d1 : (x2 == a) = false := by simpa using k1
        have d2 : (x2 != a) = true := by simpa using k1
        subst hx
        go_upto_region 4 with ((with_reducible refine gate_dst (N := 8) rfl ?_); refine box_event ?hg (N := 8) ?hd (cs := #[.int .i64 0, .int .i64 0, .int .i64 0, .int .i64 0, .bool false]) (t := 43) ?hr ?_; (case hd => rfl); (case hg => rfl); (case hr => first | (go_simp; done) | (go_simp; rfl)); intro gb hg w3 hbox hb; have hcz0 : w3.cell? ⟨gb, 0, none⟩ = some (.int .i64 0) := (blk_cell hbox 0).trans rfl; have hcz1 : w3.cell? ⟨gb, 1, none⟩ = some (.int .i64 0) := (blk_cell hbox 1).trans rfl; have hcz2 : w3.cell? ⟨gb, 2, none⟩ = some (.int .i64 0) := (blk_cell hbox 2).trans rfl; have hcz3 : w3.cell? ⟨gb, 3, none⟩ = some (.int .i64 0) := (blk_cell hbox 3).trans rfl; have hcz4 : w3.cell? ⟨gb, 4, none⟩ = some (.bool false) := (blk_cell hbox 4).trans rfl; have hfz0 := blk_frozen hbox 0; have hfz1 := blk_frozen hbox 1; have hfz2 := blk_frozen hbox 2; have hfz3 := blk_frozen hbox 3; have hfz4 := blk_frozen hbox 4; have BX := Aside0.mk hbox; have KX := Aside0.mk hb; have HGB := Aside0.mk hg; clear hb hbox hg)
        have B5 := lay5_below KX.out (Nat.le_of_eq HGB.out.symm) ⟨x0, x1, x2, x3, false⟩
        have X5 := lay5_blk43 BX.out ⟨x0, x1, x2, x3, false⟩
        obtain ⟨W5, hW5⟩ : ∃ W5, W5 = lay5 w3 gb ⟨x0, x1, x2, x3, false⟩ := ⟨_, rfl⟩
        have hW5' := hW5
        unfold lay5 at hW5'
        rw [← hW5] at B5 X5
        dsimp only at hW5'
        rw [← hW5']
        obtain ⟨ht0, ht1, ht2, ht3, ht4⟩ := pcells_of X5
        have HB5 := Aside0.mk (below_step HB.out B5)
        have HO5 := Aside0.mk (Kd.R_below HO.out B5)
        clear hcz0 hcz1 hcz2 hcz3 hcz4 hfz0 hfz1 hfz2 hfz3 hfz4 BX KX HGB X5 B5 hW5 hW5' hx0 hx1 hx2 hx3 hx4
        go_wp2_with ((with_reducible refine gate_builtin (b := .append) (xs := #[.tmp 41, .tmp 43]) rfl ?_); at_builtin; refine Kd.R_append k40 (w0 := w) w.heap.size rfl (.tmp 41) (.tmp 43) 28 43 (.agg #[(.int .i64 0), (.int .i64 0), (.int .i64 0), (.int .i64 0), (.bool false)]) 40 rfl Try.underlying28 info43 rfl (by decide) (by omega) u6 Q ⟨x0, x1, x2, x3, false⟩ [.int .i64 x0, .int .i64 x1, .int .i64 x2, .int .i64 x3, .bool false] (fun _ => True) (fun _ => False) rfl rfl ?aP (fun _ hk => hk.elim) ?aF ?aO ?aB ?aS ?aL ?_; (case aP => exact k40_mkM _ _ _ ⟨x0, x1, x2, x3, false⟩); (case aB => exact HB5.out); (case aF => exact fun _ _ => trivial); (case aO => exact HO5.out); (case aS => exact HB5.out.size); (case aL => exact HLL.out); intro v4 w4 ho4 hb4 hg4 hat4; have HO4 := Aside0.mk ho4; have HB4 := Aside0.mk hb4; clear ho4 hb4 hg4 hat4)
        go_roundg (m.length - (i + 1))
        case measure => omega
        case rel => exact ⟨i + 1, by go_num, by omega, Nat.le_refl _, ⟨by rw [HST.out]; exact HO4.out⟩, HB4⟩
      · rw [kk, if_neg (by decide)] at HST
        clear kk
        subst k1
        subst hx
        go_wp2_with ((with_reducible refine gate_dst (N := 8) rfl ?_); refine box_event ?hg (N := 8) ?hd (cs := #[.int .i64 0, .int .i64 0, .int .i64 0, .int .i64 0, .bool false]) (t := 43) ?hr ?_; (case hd => rfl); (case hg => rfl); (case hr => first | (go_simp; done) | (go_simp; rfl)); intro gb hg w3 hbox hb; have hcz0 : w3.cell? ⟨gb, 0, none⟩ = some (.int .i64 0) := (blk_cell hbox 0).trans rfl; have hcz1 : w3.cell? ⟨gb, 1, none⟩ = some (.int .i64 0) := (blk_cell hbox 1).trans rfl; have hcz2 : w3.cell? ⟨gb, 2, none⟩ = some (.int .i64 0) := (blk_cell hbox 2).trans rfl; have hcz3 : w3.cell? ⟨gb, 3, none⟩ = some (.int .i64 0) := (blk_cell hbox 3).trans rfl; have hcz4 : w3.cell? ⟨gb, 4, none⟩ = some (.bool false) := (blk_cell hbox 4).trans rfl; have hfz0 := blk_frozen hbox 0; have hfz1 := blk_frozen hbox 1; have hfz2 := blk_frozen hbox 2; have hfz3 := blk_frozen hbox 3; have hfz4 := blk_frozen hbox 4; have BX := Aside0.mk hbox; have KX := Aside0.mk hb; have HGB := Aside0.mk hg; clear hb hbox hg)
        have B5 := lay5_below KX.out (Nat.le_of_eq HGB.out.symm) ⟨x0, x1, x2, x3, false⟩
        go_roundg (m.length - (i + 1))
        case measure => omega
        case rel => exact ⟨i + 1, by go_num, by omega, Nat.le_refl _, ⟨by rw [HST.out]; exact Kd.R_below HO.out B5⟩, ⟨below_step HB.out B5⟩⟩
    · have e : i = m.length := by omega
      subst e
      rw [List.take_length] at HO
      obtain ⟨hc4, hfin4⟩ := HTL.out wr u6 _ HB.out HO.out
      have hf4 := blk_frozen hc4 0
      have hy4 : wr.cell? ⟨h, 0, none⟩ = some (.slice A m.length c) := (blk_cell hc4 0).trans rfl
      have HT4 := Aside0.mk hfin4
      obtain ⟨A4, n4, c4, e4⟩ := RR_open HO.out
      clear hc4 hfin4
      subst e4
      go_wp2
      go_end0
      exact ⟨rfl, _, HT4.out⟩
set_option maxHeartbeats 8000000 in
set_option maxRecDepth 100000 in
theorem keep2_calls (base h : Nat) (u : Value) (m : List S40) (n : Int) (w0 w : World) (hB : Below base w0 w) (hs : base ≤ w.heap.size) (hr : RTbl w base h u m n) (hl : m.length ≤ 100000)  :
    Calls Try.prog 22 #[.pointer (some ⟨h, 0, none⟩), .int .i64 2, .int .i64 0] w fun e w' => e = .returned (.tuple #[]) ∧ ∃ u', RTurn w0 w base h u u' (m.filter (keepB 2 0)) n w' := by
  have HTL := Aside0.mk (fun (W2 : World) (u2 : Value) => lay_key (RTurn.of_below hB hs hr (Below.refl _ _)) hs W2 u2)
  have HR := Aside0.mk hr
  obtain ⟨A, c, rfl, hc, hC⟩ := hr.open
  have hmx : m.length ≤ 9223372036854775807 := hC.2.1
  have hgc : w.cell? ⟨h, 0, none⟩ = some (.slice A m.length c) := (blk_cell hr.cell 0).trans rfl
  have HC := Aside0.mk hC
  clear hr hB hs hC
  go_enter Try.func22, Try.ntmps22
  go_wp2
  go_loopg [6, 14] m.length (fun gk s6 s14 wr => ∃ i : Nat, s14 = .int .i64 i ∧ i ≤ m.length ∧ m.length - i ≤ gk ∧ Aside0 (Kd.R k40 43 wr w.heap.size (fun _ => True) s6 ((m.take i).filter (keepB 2 0))) ∧ Aside0 (Below w.heap.size w wr))
  case atStart => exact ⟨0, rfl, Nat.zero_le _, by omega, ⟨Kd.R_nil _ _ _ _ _⟩, ⟨Below.refl _ _⟩⟩
  case round =>
    obtain ⟨i, rfl, hil, hgk, HO, HB⟩ := hrel
    by_cases hlt : i < m.length
    · have hlz : (i : Int) < (m.length : Int) := by omega
      obtain ⟨ad, ea, hx0, hx1, hx2, hx3, hx4⟩ := at_T40 (Kd.C_below HC.out HB.out) i hlt
      subst ea
      have HST := Aside0.mk (filter_take hlt (keepB 2 0))
      have HLL := Aside0.mk (show (((m.take i).filter (keepB 2 0)).length + 1) * 40 ≤ 140737488355328 by have h1 := List.length_filter_le (keepB 2 0) (m.take i); rw [List.length_take] at h1; omega)
      generalize m[i] = x at hx0 hx1 hx2 hx3 hx4 HST
      obtain ⟨x0, x1, x2, x3, x4⟩ := x
      dsimp only at hx0 hx1 hx2 hx3 hx4 HST
      have key : (x4 = true ∧ keepB 2 0 ⟨x0, x1, x2, x3, x4⟩ = true) ∨ (x4 = false ∧ keepB 2 0 ⟨x0, x1, x2, x3, x4⟩ = false) := by
        unfold keepB
        dsimp only
        cases x4 <;> simp <;> omega
      generalize (m.take i).filter (keepB 2 0) = Q at HO HST HLL
      rcases key with ⟨hx, kk⟩ | ⟨hx, kk⟩
      · rw [kk, if_pos rfl] at HST
        clear kk
        subst hx
        go_upto_region 4 with ((with_reducible refine gate_dst (N := 8) rfl ?_); refine box_event ?hg (N := 8) ?hd (cs := #[.int .i64 0, .int .i64 0, .int .i64 0, .int .i64 0, .bool false]) (t := 43) ?hr ?_; (case hd => rfl); (case hg => rfl); (case hr => first | (go_simp; done) | (go_simp; rfl)); intro gb hg w3 hbox hb; have hcz0 : w3.cell? ⟨gb, 0, none⟩ = some (.int .i64 0) := (blk_cell hbox 0).trans rfl; have hcz1 : w3.cell? ⟨gb, 1, none⟩ = some (.int .i64 0) := (blk_cell hbox 1).trans rfl; have hcz2 : w3.cell? ⟨gb, 2, none⟩ = some (.int .i64 0) := (blk_cell hbox 2).trans rfl; have hcz3 : w3.cell? ⟨gb, 3, none⟩ = some (.int .i64 0) := (blk_cell hbox 3).trans rfl; have hcz4 : w3.cell? ⟨gb, 4, none⟩ = some (.bool false) := (blk_cell hbox 4).trans rfl; have hfz0 := blk_frozen hbox 0; have hfz1 := blk_frozen hbox 1; have hfz2 := blk_frozen hbox 2; have hfz3 := blk_frozen hbox 3; have hfz4 := blk_frozen hbox 4; have BX := Aside0.mk hbox; have KX := Aside0.mk hb; have HGB := Aside0.mk hg; clear hb hbox hg)
        have B5 := lay5_below KX.out (Nat.le_of_eq HGB.out.symm) ⟨x0, x1, x2, x3, true⟩
        have X5 := lay5_blk43 BX.out ⟨x0, x1, x2, x3, true⟩
        obtain ⟨W5, hW5⟩ : ∃ W5, W5 = lay5 w3 gb ⟨x0, x1, x2, x3, true⟩ := ⟨_, rfl⟩
        have hW5' := hW5
        unfold lay5 at hW5'
        rw [← hW5] at B5 X5
        dsimp only at hW5'
        rw [← hW5']
        obtain ⟨ht0, ht1, ht2, ht3, ht4⟩ := pcells_of X5
        have HB5 := Aside0.mk (below_step HB.out B5)
        have HO5 := Aside0.mk (Kd.R_below HO.out B5)
        clear hcz0 hcz1 hcz2 hcz3 hcz4 hfz0 hfz1 hfz2 hfz3 hfz4 BX KX HGB X5 B5 hW5 hW5' hx0 hx1 hx2 hx3 hx4
        go_wp2_with ((with_reducible refine gate_builtin (b := .append) (xs := #[.tmp 41, .tmp 43]) rfl ?_); at_builtin; refine Kd.R_append k40 (w0 := w) w.heap.size rfl (.tmp 41) (.tmp 43) 28 43 (.agg #[(.int .i64 0), (.int .i64 0), (.int .i64 0), (.int .i64 0), (.bool false)]) 40 rfl Try.underlying28 info43 rfl (by decide) (by omega) u6 Q ⟨x0, x1, x2, x3, true⟩ [.int .i64 x0, .int .i64 x1, .int .i64 x2, .int .i64 x3, .bool true] (fun _ => True) (fun _ => False) rfl rfl ?aP (fun _ hk => hk.elim) ?aF ?aO ?aB ?aS ?aL ?_; (case aP => exact k40_mkM _ _ _ ⟨x0, x1, x2, x3, true⟩); (case aB => exact HB5.out); (case aF => exact fun _ _ => trivial); (case aO => exact HO5.out); (case aS => exact HB5.out.size); (case aL => exact HLL.out); intro v4 w4 ho4 hb4 hg4 hat4; have HO4 := Aside0.mk ho4; have HB4 := Aside0.mk hb4; clear ho4 hb4 hg4 hat4)
        go_roundg (m.length - (i + 1))
        case measure => omega
        case rel => exact ⟨i + 1, by go_num, by omega, Nat.le_refl _, ⟨by rw [HST.out]; exact HO4.out⟩, HB4⟩
      · rw [kk, if_neg (by decide)] at HST
        clear kk
        subst hx
        go_wp2_with ((with_reducible refine gate_dst (N := 8) rfl ?_); refine box_event ?hg (N := 8) ?hd (cs := #[.int .i64 0, .int .i64 0, .int .i64 0, .int .i64 0, .bool false]) (t := 43) ?hr ?_; (case hd => rfl); (case hg => rfl); (case hr => first | (go_simp; done) | (go_simp; rfl)); intro gb hg w3 hbox hb; have hcz0 : w3.cell? ⟨gb, 0, none⟩ = some (.int .i64 0) := (blk_cell hbox 0).trans rfl; have hcz1 : w3.cell? ⟨gb, 1, none⟩ = some (.int .i64 0) := (blk_cell hbox 1).trans rfl; have hcz2 : w3.cell? ⟨gb, 2, none⟩ = some (.int .i64 0) := (blk_cell hbox 2).trans rfl; have hcz3 : w3.cell? ⟨gb, 3, none⟩ = some (.int .i64 0) := (blk_cell hbox 3).trans rfl; have hcz4 : w3.cell? ⟨gb, 4, none⟩ = some (.bool false) := (blk_cell hbox 4).trans rfl; have hfz0 := blk_frozen hbox 0; have hfz1 := blk_frozen hbox 1; have hfz2 := blk_frozen hbox 2; have hfz3 := blk_frozen hbox 3; have hfz4 := blk_frozen hbox 4; have BX := Aside0.mk hbox; have KX := Aside0.mk hb; have HGB := Aside0.mk hg; clear hb hbox hg)
        have B5 := lay5_below KX.out (Nat.le_of_eq HGB.out.symm) ⟨x0, x1, x2, x3, false⟩
        go_roundg (m.length - (i + 1))
        case measure => omega
        case rel => exact ⟨i + 1, by go_num, by omega, Nat.le_refl _, ⟨by rw [HST.out]; exact Kd.R_below HO.out B5⟩, ⟨below_step HB.out B5⟩⟩
    · have e : i = m.length := by omega
      subst e
      rw [List.take_length] at HO
      obtain ⟨hc4, hfin4⟩ := HTL.out wr u6 _ HB.out HO.out
      have hf4 := blk_frozen hc4 0
      have hy4 : wr.cell? ⟨h, 0, none⟩ = some (.slice A m.length c) := (blk_cell hc4 0).trans rfl
      have HT4 := Aside0.mk hfin4
      obtain ⟨A4, n4, c4, e4⟩ := RR_open HO.out
      clear hc4 hfin4
      subst e4
      go_wp2
      go_end0
      exact ⟨rfl, _, HT4.out⟩
end Go.Proofs.Ytlehkobakddgbaa.QFdb
namespace Go.Proofs.Ytlehkobakddgbaa.QFdb
open Go.RowKit Go.Proofs.YtlehkobakddgbaaW.PrintWords Go.Proofs.YtlehkobakddgbaaW.PrintLast Go.Proofs.YtlehkobakddgbaaW.PrintMore
set_option linter.unusedVariables false
set_option linter.unusedSimpArgs false
structure Sim (l m : List S40) : Prop where
  perm : l.Perm m
  ord : l.Pairwise lx
theorem Sim.nil : Sim [] [] := ⟨List.Perm.refl _, List.Pairwise.nil⟩
theorem cons_eraseIdx : ∀ (l : List S40) (i : Nat) (hi : i < l.length), l.Perm (l[i] :: l.eraseIdx i)
  | x :: r, 0, _ => List.Perm.refl _
  | x :: r, i + 1, hi => by
    have := cons_eraseIdx r i (by simpa using hi)
    simp only [List.getElem_cons_succ, List.eraseIdx_cons_succ]
    exact (this.cons x).trans (List.Perm.swap _ _ _)
theorem set_eraseIdx : ∀ (l : List S40) (i : Nat) (p : S40), i < l.length → (l.set i p).Perm (p :: l.eraseIdx i)
  | x :: r, 0, p, _ => List.Perm.refl _
  | x :: r, i + 1, p, hi => by
    have := set_eraseIdx r i p (by simpa using hi)
    simp only [List.set_cons_succ, List.eraseIdx_cons_succ]
    exact (this.cons x).trans (List.Perm.swap _ _ _)
theorem same_eq {l : List S40} (h : l.Pairwise lx) {x y : S40} (hx : x ∈ l) (hy : y ∈ l) (hs : Same x y) : x = y := by
  induction l with
  | nil => cases hx
  | cons z r ih =>
    have hp := List.pairwise_cons.1 h
    have no : ∀ u v : S40, lx u v → ¬ Same u v := fun u v h1 h2 => by unfold lx at h1; unfold Same at h2; omega
    rcases List.mem_cons.1 hx with h1 | h1 <;> rcases List.mem_cons.1 hy with h2 | h2
    · rw [h1, h2]
    · subst h1; exact absurd hs (no _ _ (hp.1 y h2))
    · subst h2; exact absurd (show Same y x from ⟨hs.1.symm, hs.2.symm⟩) (no _ _ (hp.1 x h1))
    · exact ih hp.2 h1 h2
theorem pos_zero {r : List S40} {t : S40} (h : ∀ y ∈ r, ¬ lx y t) : pos r t = 0 := by
  unfold pos
  rw [List.countP_eq_zero]
  intro a ha
  simpa using h a ha
theorem pos_cons (x : S40) (r : List S40) (t : S40) : pos (x :: r) t = pos r t + if lx x t then 1 else 0 := by
  unfold pos
  rw [List.countP_cons]
  simp
theorem pos_split {l : List S40} (h : l.Pairwise lx) (t : S40) : (∀ x ∈ l.take (pos l t), lx x t) ∧ (∀ x ∈ l.drop (pos l t), ¬ lx x t) := by
  induction l with
  | nil => exact ⟨fun x hx => by simp at hx, fun x hx => by simp at hx⟩
  | cons y r ih =>
    have hp := List.pairwise_cons.1 h
    by_cases hy : lx y t
    · rw [pos_cons, if_pos hy, List.take_succ_cons, List.drop_succ_cons]
      obtain ⟨h1, h2⟩ := ih hp.2
      refine ⟨fun x hx => ?_, h2⟩
      rcases List.mem_cons.1 hx with rfl | hx
      · exact hy
      · exact h1 x hx
    · have hr : ∀ z ∈ r, ¬ lx z t := fun z hz h3 => hy (lx_trans (hp.1 z hz) h3)
      rw [pos_cons, if_neg hy, pos_zero hr]
      refine ⟨fun x hx => by simp at hx, fun x hx => ?_⟩
      rcases List.mem_cons.1 (by simpa using hx : x ∈ y :: r) with h3 | h3
      · rw [h3]; exact hy
      · exact hr x h3
theorem hit_of {l : List S40} (h : l.Pairwise lx) {t x : S40} (hx : x ∈ l) (hs : Same x t) : hit l t = true := by
  obtain ⟨h1, h2⟩ := pos_split h t
  have hn : ¬ lx x t := fun h3 => by unfold lx at h3; unfold Same at hs; omega
  have hd : x ∈ l.drop (pos l t) := by
    have : x ∈ l.take (pos l t) ++ l.drop (pos l t) := by rw [List.take_append_drop]; exact hx
    rcases List.mem_append.1 this with h3 | h3
    · exact absurd (h1 x h3) hn
    · exact h3
  have hlt : pos l t < l.length := by
    rcases Nat.lt_or_ge (pos l t) l.length with h3 | h3
    · exact h3
    · rw [List.drop_of_length_le h3] at hd; cases hd
  have e := List.drop_eq_getElem_cons hlt
  have hhead : ¬ lx l[pos l t] t := h2 _ (by rw [e]; exact List.mem_cons_self)
  have hsm : Same l[pos l t] t := by
    rw [e] at hd
    rcases List.mem_cons.1 hd with rfl | hd
    · exact hs
    · have hps : (l.drop (pos l t)).Pairwise lx := h.sublist (List.drop_sublist _ _)
      rw [e] at hps
      have := (List.pairwise_cons.1 hps).1 x hd
      refine absurd ?_ hhead
      unfold lx at this ⊢; unfold Same at hs; omega
  unfold hit
  rw [List.getElem?_eq_getElem hlt]
  simpa using hsm
theorem hit_none {l : List S40} (h : l.Pairwise lx) {t : S40} (hh : hit l t = false) : ∀ x ∈ l, ¬ Same x t := fun x hx hs => by rw [hit_of h hx hs] at hh; cases hh
theorem rix_some {m : List S40} {vid mac : Int} {j : Nat} (e : rix m vid mac = (j : Int)) (hj : j < m.length) (hk : keyP vid mac m[j] = true) : Same m[j] (tgt vid mac) := by
  unfold keyP at hk
  simp only [Bool.and_eq_true, beq_iff_eq] at hk
  exact hk
theorem Sim.look {l m : List S40} (h : Sim l m) (vid mac : Int) :
    (hit l (tgt vid mac) = false ∧ rix m vid mac = -1 ∧ (∀ x ∈ l, ¬ Same x (tgt vid mac))) ∨
    ∃ (i j : Nat) (hi : i < l.length) (hj : j < m.length), hit l (tgt vid mac) = true ∧ pos l (tgt vid mac) = i ∧ rix m vid mac = (j : Int) ∧ l[i] = m[j] ∧ Same l[i] (tgt vid mac) := by
  rcases ixP_cases m (keyP vid mac) with ⟨e, hb⟩ | ⟨j, e, hj, hk, _⟩
  · refine .inl ⟨?_, e, ?_⟩
    · rcases Bool.eq_false_or_eq_true (hit l (tgt vid mac)) with h1 | h1
      · obtain ⟨hp, hs⟩ := hit_at h1
        have hm : l[pos l (tgt vid mac)] ∈ m := h.perm.subset (List.getElem_mem hp)
        obtain ⟨q, hq, eq⟩ := List.mem_iff_getElem.1 hm
        have := hb q hq
        rw [eq] at this
        unfold keyP at this
        rw [hs.1, hs.2] at this
        simp at this
      · exact h1
    · intro x hx hs
      obtain ⟨q, hq, eq⟩ := List.mem_iff_getElem.1 (h.perm.subset hx)
      have := hb q hq
      rw [eq] at this
      unfold keyP at this
      rw [hs.1, hs.2] at this
      simp at this
  · have hs := rix_some e hj hk
    have hm : m[j] ∈ l := h.perm.symm.subset (List.getElem_mem hj)
    have hh := hit_of h.ord hm hs
    obtain ⟨hp, hs2⟩ := hit_at hh
    exact .inr ⟨_, j, hp, hj, hh, rfl, e, same_eq h.ord (List.getElem_mem hp) hm ⟨hs2.1.trans hs.1.symm, hs2.2.trans hs.2.symm⟩, hs2⟩
theorem Sim.len {l m : List S40} (h : Sim l m) : l.length = m.length := h.perm.length_eq
theorem Sim.erase {l m : List S40} (h : Sim l m) {i j : Nat} (hi : i < l.length) (hj : j < m.length) (e : l[i] = m[j]) : Sim (l.eraseIdx i) (m.eraseIdx j) := by
  refine ⟨?_, h.ord.sublist (List.eraseIdx_sublist _ _)⟩
  have h1 := (cons_eraseIdx l i hi).symm.trans (h.perm.trans (cons_eraseIdx m j hj))
  rw [e] at h1
  exact h1.cons_inv
theorem lx_key {x y x' y' : S40} (h1 : Same x x') (h2 : Same y y') (h : lx x y) : lx x' y' := by unfold lx at *; unfold Same at *; omega
theorem ord_set : ∀ {l : List S40} {i : Nat} {p : S40} (h : l.Pairwise lx) (hi : i < l.length) (hs : Same l[i] p), (l.set i p).Pairwise lx
  | x :: r, 0, p, h, hi, hs => by
    have hp := List.pairwise_cons.1 h
    exact List.pairwise_cons.2 ⟨fun y hy => lx_key hs ⟨rfl, rfl⟩ (hp.1 y hy), hp.2⟩
  | x :: r, i + 1, p, h, hi, hs => by
    have hp := List.pairwise_cons.1 h
    have hi2 : i < r.length := by simpa using hi
    refine List.pairwise_cons.2 ⟨fun y hy => ?_, ord_set hp.2 hi2 hs⟩
    rcases List.mem_or_eq_of_mem_set hy with h1 | rfl
    · exact hp.1 y h1
    · exact lx_key ⟨rfl, rfl⟩ hs (hp.1 _ (List.getElem_mem hi2))
theorem Sim.put {l m : List S40} (h : Sim l m) {i j : Nat} (hi : i < l.length) (hj : j < m.length) (e : l[i] = m[j]) {p : S40} (hs : Same l[i] p) : Sim (l.set i p) (m.eraseIdx j ++ [p]) :=
  ⟨(set_eraseIdx l i p hi).trans (((h.erase hi hj e).perm.cons p).trans (List.perm_append_comm (l₁ := [p]))), ord_set h.ord hi hs⟩
theorem Sim.ins {l m : List S40} (h : Sim l m) {p : S40} (hn : ∀ x ∈ l, ¬ Same x p) : Sim (ins40 l p) (m ++ [p]) := by
  obtain ⟨h1, h2⟩ := pos_split h.ord p
  constructor
  · unfold ins40
    rw [List.append_assoc]
    have h3 : (l.take (pos l p) ++ ([p] ++ l.drop (pos l p))).Perm (p :: (l.take (pos l p) ++ l.drop (pos l p))) := List.perm_middle
    rw [List.take_append_drop] at h3
    exact h3.trans ((h.perm.cons p).trans (List.perm_append_comm (l₁ := [p])))
  · unfold ins40
    rw [List.append_assoc, List.pairwise_append]
    refine ⟨h.ord.sublist (List.take_sublist _ _), ?_, ?_⟩
    · refine List.pairwise_cons.2 ⟨fun y hy => ?_, h.ord.sublist (List.drop_sublist _ _)⟩
      have hy2 : y ∈ l.drop (pos l p) := by simpa using hy
      rcases Classical.em (lx p y) with h3 | h3
      · exact h3
      · exact absurd (not_lx (h2 y hy2) h3) (hn y (List.mem_of_mem_drop hy2))
    · intro a ha b hb
      have la := h1 a ha
      rcases List.mem_cons.1 (by simpa using hb : b ∈ p :: l.drop (pos l p)) with rfl | hb
      · exact la
      · have : l = l.take (pos l p) ++ l.drop (pos l p) := (List.take_append_drop _ _).symm
        have hp := h.ord
        rw [this] at hp
        exact (List.pairwise_append.1 hp).2.2 a ha b hb
theorem Sim.filter {l m : List S40} (h : Sim l m) (p q : S40 → Bool) (e : ∀ x, (!p x) = q x) : Sim (dropP l p) (m.filter q) := by
  have : q = fun x => !p x := funext fun x => (e x).symm
  subst this
  exact ⟨h.perm.filter _, h.ord.filter _⟩
theorem goes_total {x y : S40} (h : ¬ Same x y) : goes x y = true ∨ goes y x = true := by unfold goes; unfold Same at h; simp only [decide_eq_true_eq]; omega
theorem goes_asym {x y : S40} (h : goes x y = true) : goes y x = false := by unfold goes at *; simp only [decide_eq_true_eq, decide_eq_false_iff_not] at *; omega
theorem goes_trans {x y z : S40} (h : goes x y = true) (k : goes y z = true) : goes x z = true := by unfold goes at *; simp only [decide_eq_true_eq] at *; omega
def First (l : List S40) (x : S40) : Prop := x ∈ l ∧ x.f4 = false ∧ ∀ y ∈ l, y.f4 = false → ¬ Same x y → goes x y = true
theorem First.eq {l m : List S40} (h : Sim l m) {x y : S40} (hx : First l x) (hy : First m y) : x = y := by
  have hyl : y ∈ l := h.perm.symm.subset hy.1
  rcases Classical.em (Same x y) with hs | hs
  · exact same_eq h.ord hx.1 hyl hs
  · have h1 := hx.2.2 y hyl hy.2.1 hs
    have h2 := hy.2.2 x (h.perm.subset hx.1) hx.2.1 (fun k => hs ⟨k.1.symm, k.2.symm⟩)
    rw [goes_asym h1] at h2
    cases h2
theorem oldG_spec {l : List S40} (h : l.Pairwise lx) : ∀ i, i ≤ l.length → (oldG l i = -1 ∧ ∀ k, (hk : k < l.length) → k < i → l[k].f4 = true) ∨ ∃ j : Nat, oldG l i = (j : Int) ∧ j < i ∧ ∃ hj : j < l.length, l[j].f4 = false ∧ ∀ k, (hk : k < l.length) → k < i → k ≠ j → l[k].f4 = false → l[j].f3 < l[k].f3 ∨ l[j].f3 = l[k].f3 ∧ j < k
  | 0, _ => .inl ⟨rfl, fun k _ h0 => absurd h0 (Nat.not_lt_zero _)⟩
  | i + 1, hi => by
    have hil : i < l.length := hi
    have estep : oldG l (i + 1) = if l[i].f4 = true then oldG l i else if oldG l i < 0 then (i : Int) else if l[i].f3 < seenAt l (oldG l i) then (i : Int) else oldG l i := by
      show oldS l (oldG l i) i = _
      unfold oldS
      rw [List.getElem?_eq_getElem hil]
    rcases oldG_spec h i (by omega) with ⟨e, hall⟩ | ⟨j, e, hji, hj, hjf, hmin⟩
    · by_cases hf : l[i].f4 = true
      · refine .inl ⟨by rw [estep, if_pos hf, e], fun k hk hki => ?_⟩
        by_cases hke : k = i
        · subst hke; exact hf
        · exact hall k hk (by omega)
      · refine .inr ⟨i, by rw [estep, if_neg hf, e, if_pos (by decide)], by omega, hil, by simpa using hf, fun k hk hki hne hkf => ?_⟩
        have := hall k hk (by omega)
        rw [this] at hkf; cases hkf
    · by_cases hf : l[i].f4 = true
      · refine .inr ⟨j, by rw [estep, if_pos hf, e], by omega, hj, hjf, fun k hk hki hne hkf => ?_⟩
        by_cases hke : k = i
        · subst hke; rw [hf] at hkf; cases hkf
        · exact hmin k hk (by omega) hne hkf
      · have hs : seenAt l (oldG l i) = l[j].f3 := by rw [e]; unfold seenAt; rw [Int.toNat_natCast, List.getElem?_eq_getElem hj]
        by_cases hc : l[i].f3 < l[j].f3
        · refine .inr ⟨i, by rw [estep, if_neg hf, hs, if_neg (by omega), if_pos hc], by omega, hil, by simpa using hf, fun k hk hki hne hkf => ?_⟩
          by_cases hkj : k = j
          · subst hkj; exact .inl hc
          · rcases hmin k hk (by omega) hkj hkf with h1 | h1
            · exact .inl (by omega)
            · exact .inl (by omega)
        · refine .inr ⟨j, by rw [estep, if_neg hf, hs, if_neg (by omega), if_neg hc, e], by omega, hj, hjf, fun k hk hki hne hkf => ?_⟩
          by_cases hke : k = i
          · subst hke
            rcases Int.lt_or_eq_of_le (Int.not_lt.1 hc) with h1 | h1
            · exact .inl h1
            · exact .inr ⟨h1, hji⟩
          · exact hmin k hk (by omega) hne hkf
theorem oldF_spec {l : List S40} (h : l.Pairwise lx) : (oldF l = -1 ∧ ∀ x ∈ l, x.f4 = true) ∨ ∃ (j : Nat) (hj : j < l.length), oldF l = (j : Int) ∧ First l l[j] := by
  rcases oldG_spec h l.length (Nat.le_refl _) with ⟨e, hall⟩ | ⟨j, e, _, hj, hjf, hmin⟩
  · refine .inl ⟨e, fun x hx => ?_⟩
    obtain ⟨k, hk, rfl⟩ := List.mem_iff_getElem.1 hx
    exact hall k hk hk
  · refine .inr ⟨j, hj, e, List.getElem_mem hj, hjf, fun y hy hyf hns => ?_⟩
    obtain ⟨k, hk, rfl⟩ := List.mem_iff_getElem.1 hy
    have hne : k ≠ j := fun e => hns (by subst e; exact ⟨rfl, rfl⟩)
    unfold goes
    simp only [decide_eq_true_eq]
    rcases hmin k hk hk hne hyf with h1 | ⟨h1, h2⟩
    · exact .inl h1
    · refine .inr ⟨h1, ?_⟩
      have := List.pairwise_iff_getElem.1 h j k hj hk h2
      exact this
theorem rold_spec {m : List S40} (hd : ∀ x ∈ m, ∀ y ∈ m, Same x y → x = y) : ∀ i, i ≤ m.length → (rold m i = -1 ∧ ∀ k, (hk : k < m.length) → k < i → m[k].f4 = true) ∨ ∃ j : Nat, rold m i = (j : Int) ∧ j < i ∧ ∃ hj : j < m.length, m[j].f4 = false ∧ ∀ k, (hk : k < m.length) → k < i → m[k].f4 = false → ¬ Same m[j] m[k] → goes m[j] m[k] = true
  | 0, _ => .inl ⟨rfl, fun k _ h0 => absurd h0 (Nat.not_lt_zero _)⟩
  | i + 1, hi => by
    have hil : i < m.length := hi
    have estep : rold m (i + 1) = if m[i].f4 = true then rold m i else if rold m i < 0 then (i : Int) else if goes m[i] (rplc m (rold m i)) = true then (i : Int) else rold m i := by
      show (match m[i]? with | some x => _ | none => _) = _
      rw [List.getElem?_eq_getElem hil]
    rcases rold_spec hd i (by omega) with ⟨e, hall⟩ | ⟨j, e, hji, hj, hjf, hmin⟩
    · by_cases hf : m[i].f4 = true
      · refine .inl ⟨by rw [estep, if_pos hf, e], fun k hk hki => ?_⟩
        by_cases hke : k = i
        · subst hke; exact hf
        · exact hall k hk (by omega)
      · refine .inr ⟨i, by rw [estep, if_neg hf, e, if_pos (by decide)], by omega, hil, by simpa using hf, fun k hk hki hkf hns => ?_⟩
        by_cases hke : k = i
        · subst hke; exact absurd ⟨rfl, rfl⟩ hns
        · have := hall k hk (by omega)
          rw [this] at hkf; cases hkf
    · by_cases hf : m[i].f4 = true
      · refine .inr ⟨j, by rw [estep, if_pos hf, e], by omega, hj, hjf, fun k hk hki hkf hns => ?_⟩
        by_cases hke : k = i
        · subst hke; rw [hf] at hkf; cases hkf
        · exact hmin k hk (by omega) hkf hns
      · have hs : rplc m (rold m i) = m[j] := by rw [e]; unfold rplc; rw [Int.toNat_natCast, List.getElem?_eq_getElem hj]; rfl
        by_cases hc : goes m[i] m[j] = true
        · refine .inr ⟨i, by rw [estep, if_neg hf, hs, if_neg (by omega), if_pos hc], by omega, hil, by simpa using hf, fun k hk hki hkf hns => ?_⟩
          by_cases hke : k = i
          · subst hke; exact absurd ⟨rfl, rfl⟩ hns
          · rcases Classical.em (Same m[j] m[k]) with h1 | h1
            · have := hd _ (List.getElem_mem hj) _ (List.getElem_mem hk) h1
              rw [← this]; exact hc
            · exact goes_trans hc (hmin k hk (by omega) hkf h1)
        · refine .inr ⟨j, by rw [estep, if_neg hf, hs, if_neg (by omega), if_neg hc, e], by omega, hj, hjf, fun k hk hki hkf hns => ?_⟩
          by_cases hke : k = i
          · subst hke
            rcases goes_total hns with h1 | h1
            · exact h1
            · exact absurd h1 hc
          · exact hmin k hk (by omega) hkf hns
theorem Sim.distinct {l m : List S40} (h : Sim l m) : ∀ x ∈ m, ∀ y ∈ m, Same x y → x = y := fun x hx y hy hs => same_eq h.ord (h.perm.symm.subset hx) (h.perm.symm.subset hy) hs
theorem Sim.old {l m : List S40} (h : Sim l m) : (oldF l < 0 ∧ roldF m < 0) ∨ ∃ (i j : Nat) (hi : i < l.length) (hj : j < m.length), oldF l = (i : Int) ∧ roldF m = (j : Int) ∧ l[i] = m[j] := by
  have hr := rold_spec h.distinct m.length (Nat.le_refl _)
  rcases oldF_spec h.ord with ⟨e, hall⟩ | ⟨i, hi, e, hF⟩
  · rcases hr with ⟨e2, _⟩ | ⟨j, e2, _, hj, hjf, _⟩
    · exact .inl ⟨by omega, by show rold m m.length < 0; omega⟩
    · have := hall _ (h.perm.symm.subset (List.getElem_mem hj))
      rw [this] at hjf; cases hjf
  · rcases hr with ⟨e2, hall⟩ | ⟨j, e2, _, hj, hjf, hmin⟩
    · obtain ⟨k, hk, ek⟩ := List.mem_iff_getElem.1 (h.perm.subset hF.1)
      have := hall k hk hk
      rw [ek, hF.2.1] at this; cases this
    · refine .inr ⟨i, j, hi, hj, e, e2, First.eq h hF ⟨List.getElem_mem hj, hjf, fun y hy hyf hns => ?_⟩⟩
      obtain ⟨k, hk, rfl⟩ := List.mem_iff_getElem.1 hy
      exact hmin k hk hk hyf hns
theorem Sim.putf {l m : List S40} (h : Sim l m) (n : Int) (p : S40) : (putf l n p).1 = (rputf m n p).1 ∧ (putf l n p).2.2 = (rputf m n p).2.2 ∧ Sim (putf l n p).2.1 (rputf m n p).2.1 := by
  unfold QFdb.putf rputf
  rw [hit_key, pos_key]
  rcases h.look p.f0 p.f1 with ⟨h1, h2, h3⟩ | ⟨i, j, hi, hj, h1, h2, h3, h4, h5⟩
  · rw [h1, h2, if_neg (show ¬ (false = true) by decide), if_neg (show ¬ (0 : Int) ≤ -1 by decide), ← h.len]
    have hns : ∀ x ∈ l, ¬ Same x p := fun x hx hs => h3 x hx hs
    by_cases hr : l.length < 24
    · rw [if_pos hr, if_pos hr]; exact ⟨rfl, rfl, h.ins hns⟩
    · rw [if_neg hr, if_neg hr]
      unfold rputR
      rcases h.old with ⟨e1, e2⟩ | ⟨i, j, hi, hj, e1, e2, e3⟩
      · rw [if_pos e1, if_pos e2]; exact ⟨rfl, rfl, h⟩
      · rw [e1, e2, if_neg (by omega), if_neg (by omega), Int.toNat_natCast, Int.toNat_natCast]
        exact ⟨rfl, rfl, (h.erase hi hj e3).ins (fun x hx => hns x ((List.eraseIdx_sublist _ _).subset hx))⟩
  · rw [h1, h2, h3, if_pos rfl, if_pos (by omega), Int.toNat_natCast]
    exact ⟨rfl, rfl, h.put hi hj h4 h5⟩
theorem Sim.fixf {l m : List S40} (h : Sim l m) (n vid mac port : Int) : (fixf l n vid mac port).1 = (rfixf m n vid mac port).1 ∧ (fixf l n vid mac port).2.2 = (rfixf m n vid mac port).2.2 ∧ Sim (fixf l n vid mac port).2.1 (rfixf m n vid mac port).2.1 := by
  unfold QFdb.fixf rfixf
  split
  · exact h.putf n _
  · exact ⟨rfl, rfl, h⟩
theorem Sim.stat {l m : List S40} (h : Sim l m) (vid mac : Int) : statB l vid mac = rstatB m vid mac := by
  unfold statB rstatB
  rcases h.look vid mac with ⟨h1, h2, h3⟩ | ⟨i, j, hi, hj, h1, h2, h3, h4, h5⟩
  · rw [h1, h2]; rfl
  · rw [h1, h2, h3, Int.toNat_natCast, List.getElem?_eq_getElem hi, List.getElem?_eq_getElem hj, h4]; simp
theorem Sim.learnf {l m : List S40} (h : Sim l m) (n vid mac port now : Int) : (learnf l n vid mac port now).1 = (rlearnf m n vid mac port now).1 ∧ (learnf l n vid mac port now).2.2 = (rlearnf m n vid mac port now).2.2 ∧ Sim (learnf l n vid mac port now).2.1 (rlearnf m n vid mac port now).2.1 := by
  unfold QFdb.learnf rlearnf
  rw [h.stat]
  split
  · split
    · exact ⟨rfl, rfl, h⟩
    · exact h.putf n _
  · exact ⟨rfl, rfl, h⟩
theorem Sim.dropf {l m : List S40} (h : Sim l m) (vid mac : Int) : (tdropf l vid mac).1 = (rdropf m vid mac).1 ∧ Sim (tdropf l vid mac).2 (rdropf m vid mac).2 := by
  unfold tdropf rdropf
  rcases h.look vid mac with ⟨h1, h2, h3⟩ | ⟨i, j, hi, hj, h1, h2, h3, h4, h5⟩
  · rw [h1, h2, if_neg (show ¬ (false = true) by decide), if_neg (show ¬ (0 : Int) ≤ -1 by decide)]; exact ⟨rfl, h⟩
  · rw [h1, h2, h3, if_pos rfl, if_pos (by omega), Int.toNat_natCast]; exact ⟨rfl, h.erase hi hj h4⟩
theorem Sim.age {l m : List S40} (h : Sim l m) (n : Int) : Sim (dropP l (goneP n)) (m.filter (keepB 0 n)) := h.filter _ _ (fun x => by
  unfold goneP keepB
  cases x.f4 <;> by_cases e : wrap64 (n - x.f3) ≤ 60 <;> simp [e] <;> omega)
theorem Sim.flush {l m : List S40} (h : Sim l m) (n : Int) : Sim (dropP l (flushP n)) (m.filter (if n < 0 then keepB 2 0 else keepB 1 n)) := h.filter _ _ (fun x => by
  unfold flushP keepB
  by_cases e : n < 0
  · rw [if_pos e]; cases x.f4 <;> simp [e]
  · rw [if_neg e]; cases x.f4 <;> by_cases e2 : x.f2 = n <;> simp [e, e2])
end Go.Proofs.Ytlehkobakddgbaa.QFdb
namespace Go.Proofs.Ytlehkobakddgbaa.QFdb
open Go.RowKit Go.Proofs.YtlehkobakddgbaaW.PrintWords Go.Proofs.YtlehkobakddgbaaW.PrintLast Go.Proofs.YtlehkobakddgbaaW.PrintMore
set_option linter.unusedVariables false
set_option linter.unusedSimpArgs false
structure Duo (w0 : World) (base g h : Nat) (v : Value) (l : List S40) (n : Int) (u : Value) (m : List S40) (k : Int) (W : World) : Prop where
  a : Tbl W base g v l n
  r : RTbl W base h u m k
  ne : g ≠ h
  n1 : ∀ q, Blk v q → q ≠ h ∧ ¬ Blk u q
  n2 : ¬ Blk u g
  bel : Below base w0 W
  sz : base ≤ W.heap.size
structure Step (W W' : World) (g h : Nat) (v u v' u' : Value) : Prop where
  kept : Kept W W' (fun q => q = g ∨ q = h ∨ Blk v q)
  own : ∀ q, Blk v' q ∨ Blk u' q → (Blk v q ∨ Blk u q) ∨ W.heap.size ≤ q
  own1 : ∀ q, Blk v' q → Blk v q ∨ W.heap.size ≤ q
section
variable {w0 W W' W2 : World} {base g h : Nat} {v v' v2 u u' u2 : Value} {l l' m m' : List S40} {n n' k k' : Int}
theorem Step.refl (W : World) (g h : Nat) (v u : Value) : Step W W g h v u v u := ⟨Kept.refl _ _, fun q hq => .inl hq, fun q hq => .inl hq⟩
theorem Step.of_below (hb : Below W.heap.size W W') (g h : Nat) (v u : Value) : Step W W' g h v u v u := ⟨Kept.of_below hb _, fun q hq => .inl hq, fun q hq => .inl hq⟩
theorem Step.trans (a : Step W W' g h v u v' u') (b : Step W' W2 g h v' u' v2 u2) : Step W W2 g h v u v2 u2 := by
  refine ⟨a.kept.then_ b.kept ?_, fun q hq => ?_, fun q hq => ?_⟩
  · rintro q (e | e | e)
    · exact .inl (.inl e)
    · exact .inl (.inr (.inl e))
    · exact (a.own1 q e).imp (fun h => .inr (.inr h)) id
  · rcases b.own q hq with h1 | h1
    · exact a.own q h1
    · exact .inr (Nat.le_trans a.kept.1 h1)
  · rcases b.own1 q hq with h1 | h1
    · exact a.own1 q h1
    · exact .inr (Nat.le_trans a.kept.1 h1)
theorem Duo.below (d : Duo w0 base g h v l n u m k W) (hb : Below W.heap.size W W') : Duo w0 base g h v l n u m k W' :=
  ⟨d.a.below hb, d.r.below hb, d.ne, d.n1, d.n2, Below.grown d.bel (grownBy_below (r := none) hb) d.sz (fun q hq => by cases hq), Nat.le_trans d.sz hb.size⟩
theorem Duo.turn (d : Duo w0 base g h v l n u m k W) (t : TTurn w0 W base g v v' l' n' W') : Duo w0 base g h v' l' n' u m k W' ∧ Step W W' g h v u v' u := by
  have own1 : ∀ q, Blk v' q → Blk v q ∨ W.heap.size ≤ q := fun q hq => by
    rcases t.own with e | e
    · exact .inl (e.symm.trans hq)
    · exact .inr (e q hq)
  refine ⟨⟨t.tbl, d.r.kept t.kept ?_ ?_, d.ne, ?_, d.n2, t.bel, Nat.le_trans d.sz t.kept.1⟩, ⟨t.kept.mono (fun q hq => hq.imp id .inr), ?_, own1⟩⟩
  · rintro (e | e)
    · exact d.ne e.symm
    · exact (d.n1 h e).1 rfl
  · rintro q hq (e | e)
    · exact d.n2 (e ▸ hq)
    · exact (d.n1 q e).2 hq
  · intro q hq
    rcases own1 q hq with e | e
    · exact d.n1 q e
    · have h1 := d.r.lt
      exact ⟨by omega, fun h2 => by have := d.r.row.lt q h2; omega⟩
  · rintro q (hq | hq)
    · exact (own1 q hq).imp .inl id
    · exact .inl (.inr hq)
theorem Duo.rturn (d : Duo w0 base g h v l n u m k W) (t : RTurn w0 W base h u u' m' k' W') : Duo w0 base g h v l n u' m' k' W' ∧ Step W W' g h v u v u' := by
  have own1 : ∀ q, Blk u' q → Blk u q ∨ W.heap.size ≤ q := fun q hq => by
    rcases t.own with e | e
    · exact .inl (e ▸ hq)
    · exact .inr (e q hq)
  refine ⟨⟨d.a.kept t.kept d.ne (fun q hq => (d.n1 q hq).1), t.tbl, d.ne, ?_, ?_, t.bel, Nat.le_trans d.sz t.kept.1⟩, ⟨t.kept.mono (fun q hq => .inr (.inl hq)), ?_, fun q hq => .inl hq⟩⟩
  · intro q hq
    refine ⟨(d.n1 q hq).1, fun h2 => ?_⟩
    rcases own1 q h2 with e | e
    · exact (d.n1 q hq).2 e
    · have := own_lt d.a.row q hq; omega
  · intro h2
    rcases own1 g h2 with e | e
    · exact d.n2 e
    · have := d.a.lt; omega
  · rintro q (hq | hq)
    · exact .inl (.inl hq)
    · exact (own1 q hq).imp .inr id
structure Apt (W : World) (g h : Nat) (v u : Value) (q : Nat) : Prop where
  lt : q < W.heap.size
  no : ¬ (q = g ∨ q = h ∨ Blk v q ∨ Blk u q)
theorem Apt.step {q : Nat} (a : Apt W g h v u q) (s : Step W W' g h v u v' u') : Apt W' g h v' u' q := by
  refine ⟨Nat.lt_of_lt_of_le a.lt s.kept.1, ?_⟩
  rintro (e | e | e | e)
  · exact a.no (.inl e)
  · exact a.no (.inr (.inl e))
  · rcases s.own q (.inl e) with (h1 | h1) | h1
    · exact a.no (.inr (.inr (.inl h1)))
    · exact a.no (.inr (.inr (.inr h1)))
    · have := a.lt; omega
  · rcases s.own q (.inr e) with (h1 | h1) | h1
    · exact a.no (.inr (.inr (.inl h1)))
    · exact a.no (.inr (.inr (.inr h1)))
    · have := a.lt; omega
theorem Apt.blk {q : Nat} {o : Obj} (a : Apt W g h v u q) (s : Step W W' g h v u v' u') (hb : W.heap[q]? = some o) : W'.heap[q]? = some o :=
  blk_kept hb s.kept (fun e => a.no (e.imp id (fun e => e.imp id .inl)))
theorem Apt.new (d : Duo w0 base g h v l n u m k W) (hb : Below W.heap.size W W') (q : Nat) (hq : W.heap.size ≤ q) (hl : q < W'.heap.size) : Apt W' g h v u q := by
  refine ⟨hl, ?_⟩
  rintro (e | e | e | e)
  · have := d.a.lt; omega
  · have := d.r.lt; omega
  · have := own_lt d.a.row q e; omega
  · have := d.r.row.lt q e; omega
end
theorem learn_duo {w0 W : World} {base g h : Nat} {v u : Value} {l m : List S40} {n k : Int} (d : Duo w0 base g h v l n u m k W) (hs : l.Pairwise lx) (hlen : l.length ≤ 100000) (hn0 : 0 ≤ n) (hn1 : n ≤ 1000000) (a b c e : Int) :
    Calls Try.prog 16 #[.pointer (some ⟨g, 0, none⟩), .int .i64 a, .int .i64 b, .int .i64 c, .int .i64 e] W fun x W' => ∃ v', x = .returned (.int .i64 (learnf l n a b c e).1) ∧ Duo w0 base g h v' (learnf l n a b c e).2.1 (learnf l n a b c e).2.2 u m k W' ∧ Step W W' g h v u v' u := by
  refine (learn_calls base g v l n w0 W d.bel d.sz d.a hs (by omega) hn0 hn1 a b c e).mono ?_
  rintro x W' ⟨rfl, v', ht⟩
  exact ⟨v', rfl, d.turn ht⟩
theorem rlearn_duo {w0 W : World} {base g h : Nat} {v u : Value} {l m : List S40} {n k : Int} (d : Duo w0 base g h v l n u m k W) (hlen : m.length ≤ 100000) (hn0 : 0 ≤ k) (hn1 : k ≤ 1000000) (a b c e : Int) :
    Calls Try.prog 19 #[.pointer (some ⟨h, 0, none⟩), .int .i64 a, .int .i64 b, .int .i64 c, .int .i64 e] W fun x W' => ∃ u', x = .returned (.int .i64 (rlearnf m k a b c e).1) ∧ Duo w0 base g h v l n u' (rlearnf m k a b c e).2.1 (rlearnf m k a b c e).2.2 W' ∧ Step W W' g h v u v u' := by
  refine (rlearn_calls base h u m k w0 W d.bel d.sz d.r hlen hn0 hn1 a b c e).mono ?_
  rintro x W' ⟨rfl, v', ht⟩
  exact ⟨v', rfl, d.rturn ht⟩
theorem fix_duo {w0 W : World} {base g h : Nat} {v u : Value} {l m : List S40} {n k : Int} (d : Duo w0 base g h v l n u m k W) (hs : l.Pairwise lx) (hlen : l.length ≤ 100000) (hn0 : 0 ≤ n) (hn1 : n ≤ 1000000) (a b c : Int) :
    Calls Try.prog 17 #[.pointer (some ⟨g, 0, none⟩), .int .i64 a, .int .i64 b, .int .i64 c] W fun x W' => ∃ v', x = .returned (.int .i64 (fixf l n a b c).1) ∧ Duo w0 base g h v' (fixf l n a b c).2.1 (fixf l n a b c).2.2 u m k W' ∧ Step W W' g h v u v' u := by
  refine (fix_calls base g v l n w0 W d.bel d.sz d.a hs (by omega) hn0 hn1 a b c).mono ?_
  rintro x W' ⟨rfl, v', ht⟩
  exact ⟨v', rfl, d.turn ht⟩
theorem rfix_duo {w0 W : World} {base g h : Nat} {v u : Value} {l m : List S40} {n k : Int} (d : Duo w0 base g h v l n u m k W) (hlen : m.length ≤ 100000) (hn0 : 0 ≤ k) (hn1 : k ≤ 1000000) (a b c : Int) :
    Calls Try.prog 20 #[.pointer (some ⟨h, 0, none⟩), .int .i64 a, .int .i64 b, .int .i64 c] W fun x W' => ∃ u', x = .returned (.int .i64 (rfixf m k a b c).1) ∧ Duo w0 base g h v l n u' (rfixf m k a b c).2.1 (rfixf m k a b c).2.2 W' ∧ Step W W' g h v u v u' := by
  refine (rfix_calls base h u m k w0 W d.bel d.sz d.r hlen hn0 hn1 a b c).mono ?_
  rintro x W' ⟨rfl, v', ht⟩
  exact ⟨v', rfl, d.rturn ht⟩
theorem drop_duo {w0 W : World} {base g h : Nat} {v u : Value} {l m : List S40} {n k : Int} (d : Duo w0 base g h v l n u m k W) (hs : l.Pairwise lx) (hlen : l.length ≤ 100000) (a b : Int) :
    Calls Try.prog 18 #[.pointer (some ⟨g, 0, none⟩), .int .i64 a, .int .i64 b] W fun x W' => ∃ v', x = .returned (.int .i64 (tdropf l a b).1) ∧ Duo w0 base g h v' (tdropf l a b).2 n u m k W' ∧ Step W W' g h v u v' u := by
  refine (tdrop_calls base g v l n w0 W d.bel d.sz d.a hs (by omega) a b).mono ?_
  rintro x W' ⟨rfl, v', ht⟩
  exact ⟨v', rfl, d.turn ht⟩
theorem rdrop_duo {w0 W : World} {base g h : Nat} {v u : Value} {l m : List S40} {n k : Int} (d : Duo w0 base g h v l n u m k W) (hlen : m.length ≤ 100000) (a b : Int) :
    Calls Try.prog 21 #[.pointer (some ⟨h, 0, none⟩), .int .i64 a, .int .i64 b] W fun x W' => ∃ u', x = .returned (.int .i64 (rdropf m a b).1) ∧ Duo w0 base g h v l n u' (rdropf m a b).2 k W' ∧ Step W W' g h v u v u' := by
  refine (rdrop_calls base h u m k w0 W d.bel d.sz d.r hlen a b).mono ?_
  rintro x W' ⟨rfl, v', ht⟩
  exact ⟨v', rfl, d.rturn ht⟩
theorem age_duo {w0 W : World} {base g h : Nat} {v u : Value} {l m : List S40} {n k : Int} (d : Duo w0 base g h v l n u m k W) (a : Int) :
    Calls Try.prog 12 #[.pointer (some ⟨g, 0, none⟩), .int .i64 a] W fun x W' => ∃ v', x = .returned (.tuple #[]) ∧ Duo w0 base g h v' (dropP l (goneP a)) n u m k W' ∧ Step W W' g h v u v' u := by
  refine (age_calls base g v l n w0 W d.bel d.sz d.a a).mono ?_
  rintro x W' ⟨rfl, v', ht⟩
  exact ⟨v', rfl, d.turn ht⟩
theorem flush_duo {w0 W : World} {base g h : Nat} {v u : Value} {l m : List S40} {n k : Int} (d : Duo w0 base g h v l n u m k W) (a : Int) :
    Calls Try.prog 13 #[.pointer (some ⟨g, 0, none⟩), .int .i64 a] W fun x W' => ∃ v', x = .returned (.tuple #[]) ∧ Duo w0 base g h v' (dropP l (flushP a)) n u m k W' ∧ Step W W' g h v u v' u := by
  refine (flush_calls base g v l n w0 W d.bel d.sz d.a a).mono ?_
  rintro x W' ⟨rfl, v', ht⟩
  exact ⟨v', rfl, d.turn ht⟩
theorem keep0_duo {w0 W : World} {base g h : Nat} {v u : Value} {l m : List S40} {n k : Int} (d : Duo w0 base g h v l n u m k W) (hlen : m.length ≤ 100000) (a : Int) :
    Calls Try.prog 22 #[.pointer (some ⟨h, 0, none⟩), .int .i64 0, .int .i64 a] W fun x W' => ∃ u', x = .returned (.tuple #[]) ∧ Duo w0 base g h v l n u' (m.filter (keepB 0 a)) k W' ∧ Step W W' g h v u v u' := by
  refine (keep0_calls base h u m k w0 W d.bel d.sz d.r hlen a).mono ?_
  rintro x W' ⟨rfl, v', ht⟩
  exact ⟨v', rfl, d.rturn ht⟩
theorem keep1_duo {w0 W : World} {base g h : Nat} {v u : Value} {l m : List S40} {n k : Int} (d : Duo w0 base g h v l n u m k W) (hlen : m.length ≤ 100000) (a : Int) :
    Calls Try.prog 22 #[.pointer (some ⟨h, 0, none⟩), .int .i64 1, .int .i64 a] W fun x W' => ∃ u', x = .returned (.tuple #[]) ∧ Duo w0 base g h v l n u' (m.filter (keepB 1 a)) k W' ∧ Step W W' g h v u v u' := by
  refine (keep1_calls base h u m k w0 W d.bel d.sz d.r hlen a).mono ?_
  rintro x W' ⟨rfl, v', ht⟩
  exact ⟨v', rfl, d.rturn ht⟩
theorem keep2_duo {w0 W : World} {base g h : Nat} {v u : Value} {l m : List S40} {n k : Int} (d : Duo w0 base g h v l n u m k W) (hlen : m.length ≤ 100000) :
    Calls Try.prog 22 #[.pointer (some ⟨h, 0, none⟩), .int .i64 2, .int .i64 0] W fun x W' => ∃ u', x = .returned (.tuple #[]) ∧ Duo w0 base g h v l n u' (m.filter (keepB 2 0)) k W' ∧ Step W W' g h v u v u' := by
  refine (keep2_calls base h u m k w0 W d.bel d.sz d.r hlen).mono ?_
  rintro x W' ⟨rfl, v', ht⟩
  exact ⟨v', rfl, d.rturn ht⟩
def tdoes (l : List S40) (n : Int) (c : S32) : Int × List S40 × Int :=
  if c.f0 = 0 then learnf l n c.f1 c.f2 c.f3 c.f4 else if c.f0 = 1 then fixf l n c.f1 c.f2 c.f3 else if c.f0 = 2 then ((tdropf l c.f1 c.f2).1, (tdropf l c.f1 c.f2).2, n)
  else if c.f0 = 3 then (0, dropP l (goneP c.f4), n) else if c.f0 = 4 then (0, dropP l (flushP c.f3), n) else (0, l, n)
def rdoes (m : List S40) (k : Int) (c : S32) : Int × List S40 × Int :=
  if c.f0 = 0 then rlearnf m k c.f1 c.f2 c.f3 c.f4 else if c.f0 = 1 then rfixf m k c.f1 c.f2 c.f3 else if c.f0 = 2 then ((rdropf m c.f1 c.f2).1, (rdropf m c.f1 c.f2).2, k)
  else if c.f0 = 3 then (0, m.filter (keepB 0 c.f4), k) else if c.f0 = 4 then (0, m.filter (if c.f3 < 0 then keepB 2 0 else keepB 1 c.f3), k) else (0, m, k)
abbrev aggc (c : S32) : Value := .agg #[.int .i64 c.f0, .int .i64 c.f1, .int .i64 c.f2, .int .i64 c.f3, .int .i64 c.f4]
theorem ccells_of {W : World} {pb : Nat} {p0 p1 p2 p3 p4 : Int} (h : W.heap[pb]? = some (.cells #[.int .i64 p0, .int .i64 p1, .int .i64 p2, .int .i64 p3, .int .i64 p4] 32 (0, 0))) :
    W.cell? ⟨pb, 0, none⟩ = some (.int .i64 p0) ∧ W.cell? ⟨pb, 1, none⟩ = some (.int .i64 p1) ∧ W.cell? ⟨pb, 2, none⟩ = some (.int .i64 p2) ∧ W.cell? ⟨pb, 3, none⟩ = some (.int .i64 p3) ∧ W.cell? ⟨pb, 4, none⟩ = some (.int .i64 p4) :=
  ⟨(blk_cell h 0).trans rfl, (blk_cell h 1).trans rfl, (blk_cell h 2).trans rfl, (blk_cell h 3).trans rfl, (blk_cell h 4).trans rfl⟩
end Go.Proofs.Ytlehkobakddgbaa.QFdb
namespace Go.Proofs.Ytlehkobakddgbaa.QFdb
open Go.RowKit Go.Proofs.YtlehkobakddgbaaW.PrintWords Go.Proofs.YtlehkobakddgbaaW.PrintLast Go.Proofs.YtlehkobakddgbaaW.PrintMore
set_option linter.unusedVariables false
set_option linter.unusedSimpArgs false
set_option maxHeartbeats 8000000 in
set_option maxRecDepth 100000 in
theorem does0 (base g h : Nat) (v u : Value) (l m : List S40) (n k : Int) (w0 w : World) (d : Duo w0 base g h v l n u m k w) (hs : l.Pairwise lx) (hl1 : l.length ≤ 100000) (hl2 : m.length ≤ 100000) (hn0 : 0 ≤ n) (hn1 : n ≤ 1000000) (hk0 : 0 ≤ k) (hk1 : k ≤ 1000000) (c : S32) (hc : c.f0 = 0) :
    Calls Try.prog 9 #[.pointer (some ⟨g, 0, none⟩), .pointer (some ⟨h, 0, none⟩), aggc c] w fun e w' => ∃ v' u', e = .returned (.bool ((tdoes l n c).1 == (rdoes m k c).1)) ∧ Duo w0 base g h v' (tdoes l n c).2.1 (tdoes l n c).2.2 u' (rdoes m k c).2.1 (rdoes m k c).2.2 w' ∧ Step w w' g h v u v' u' := by
  have mixed : Try.prog.follows .mixedOrders = true := by kernel_rfl
  have hd1 : tdoes l n c = learnf l n c.f1 c.f2 c.f3 c.f4 := by unfold tdoes; simp [hc]
  have hd2 : rdoes m k c = rlearnf m k c.f1 c.f2 c.f3 c.f4 := by unfold rdoes; simp [hc]
  rw [hd1, hd2]
  clear hd1 hd2
  obtain ⟨c0, c1, c2, c3, c4⟩ := c
  dsimp only at hc ⊢
  subst hc
  have HD := Aside0.mk d
  clear d
  have HA := Aside0.mk (fun (W : World) (v u : Value) (m : List S40) (k : Int) (d : Duo w0 base g h v l n u m k W) => learn_duo d hs hl1 hn0 hn1 c1 c2 c3 c4)
  have HR := Aside0.mk (fun (W : World) (v u : Value) (l : List S40) (n : Int) (d : Duo w0 base g h v l n u m k W) => rlearn_duo d hl2 hk0 hk1 c1 c2 c3 c4)
  generalize learnf l n c1 c2 c3 c4 = ra at *
  generalize rlearnf m k c1 c2 c3 c4 = rb at *
  obtain ⟨a0, a1, a2⟩ := ra
  obtain ⟨b0, b1, b2⟩ := rb
  dsimp only at HA HR ⊢
  go_enter Try.func9, Try.ntmps9
  go_wp2_with ((with_reducible refine gate_dst (N := 5) rfl ?_); refine box_event ?hg (N := 5) ?hd (cs := #[.int .i64 0, .int .i64 c1, .int .i64 c2, .int .i64 c3, .int .i64 c4]) (t := 32) ?hr ?_; (case hd => rfl); (case hg => rfl); (case hr => first | (go_simp; done) | (go_simp; rfl)); intro pb hg w1 hbox hb1; obtain ⟨hz0, hz1, hz2, hz3, hz4⟩ := ccells_of hbox; have HX := Aside0.mk hbox; have HB1 := Aside0.mk hb1; have HG := Aside0.mk hg; clear hbox hb1 hg)
  have hapt := Apt.new HD.out HB1.out pb (Nat.le_of_eq HG.out.symm) (blk_lt HX.out)
  have HAP := Aside0.mk hapt
  have HD1 := Aside0.mk (HD.out.below HB1.out)
  have HS1 := Aside0.mk (Step.of_below HB1.out g h v u)
  have hxd : w1.drew.heap[pb]? = some (.cells #[.int .i64 0, .int .i64 c1, .int .i64 c2, .int .i64 c3, .int .i64 c4] 32 (0, 0)) := HX.out
  have HDd : Aside0 (Duo w0 base g h v l n u m k w1.drew) := ⟨HD1.out.below (below_drew1 (Below.refl _ _))⟩
  have HDS : Aside0 (Step w1 w1.drew g h v u v u) := ⟨Step.of_below (below_drew1 (Below.refl _ _)) g h v u⟩
  have HAPd : Aside0 (Apt w1.drew g h v u pb) := ⟨hapt.step HDS.out⟩
  clear hapt
  go_wp2_with fail
  go_region_held3 (fun W => W.cell? ⟨pb, 1, none⟩ = some (.int .i64 c1) ∧ W.cell? ⟨pb, 2, none⟩ = some (.int .i64 c2) ∧ W.cell? ⟨pb, 3, none⟩ = some (.int .i64 c3) ∧ W.cell? ⟨pb, 4, none⟩ = some (.int .i64 c4)) (first | (exact (ccells_of (by assumption)).2)) (first
    | (go_at_call 16; with_reducible refine (HA.out _ _ _ _ _ HDb.out).mono ?_; rintro e w3 ⟨v3, rfl, d3, s3⟩; have hx3 := HAPb.out.blk s3 (by assumption); have HF := Aside0.mk (And.intro d3 (HSb.out.trans s3)); clear d3 s3)
    | (go_at_call 19; with_reducible refine (HR.out _ _ _ _ _ HDa.out).mono ?_; rintro e w3 ⟨u3, rfl, d3, s3⟩; have hx3 := HAPa.out.blk s3 (by assumption); have HF := Aside0.mk (And.intro d3 (HSa.out.trans s3)); clear d3 s3)
    | (go_at_call 16; with_reducible refine (HA.out _ _ _ _ _ HDd.out).mono ?_; rintro e w2 ⟨v2, rfl, d2, s2⟩; have hx2 := HAPd.out.blk s2 (by assumption); have HDa := Aside0.mk d2; have HAPa := Aside0.mk (HAPd.out.step s2); have HSa := Aside0.mk ((HS1.out.trans HDS.out).trans s2); clear d2 s2)
    | (go_at_call 19; with_reducible refine (HR.out _ _ _ _ _ HDd.out).mono ?_; rintro e w2 ⟨u2, rfl, d2, s2⟩; have hx2 := HAPd.out.blk s2 (by assumption); have HDb := Aside0.mk d2; have HAPb := Aside0.mk (HAPd.out.step s2); have HSb := Aside0.mk ((HS1.out.trans HDS.out).trans s2); clear d2 s2))
  all_goals (go_wp2; go_ret; exact ⟨_, _, rfl, HF.out.1, HF.out.2⟩)
set_option maxHeartbeats 8000000 in
set_option maxRecDepth 100000 in
theorem does1 (base g h : Nat) (v u : Value) (l m : List S40) (n k : Int) (w0 w : World) (d : Duo w0 base g h v l n u m k w) (hs : l.Pairwise lx) (hl1 : l.length ≤ 100000) (hl2 : m.length ≤ 100000) (hn0 : 0 ≤ n) (hn1 : n ≤ 1000000) (hk0 : 0 ≤ k) (hk1 : k ≤ 1000000) (c : S32) (hc : c.f0 = 1) :
    Calls Try.prog 9 #[.pointer (some ⟨g, 0, none⟩), .pointer (some ⟨h, 0, none⟩), aggc c] w fun e w' => ∃ v' u', e = .returned (.bool ((tdoes l n c).1 == (rdoes m k c).1)) ∧ Duo w0 base g h v' (tdoes l n c).2.1 (tdoes l n c).2.2 u' (rdoes m k c).2.1 (rdoes m k c).2.2 w' ∧ Step w w' g h v u v' u' := by
  have mixed : Try.prog.follows .mixedOrders = true := by kernel_rfl
  have hd1 : tdoes l n c = fixf l n c.f1 c.f2 c.f3 := by unfold tdoes; simp [hc]
  have hd2 : rdoes m k c = rfixf m k c.f1 c.f2 c.f3 := by unfold rdoes; simp [hc]
  rw [hd1, hd2]
  clear hd1 hd2
  obtain ⟨c0, c1, c2, c3, c4⟩ := c
  dsimp only at hc ⊢
  subst hc
  have HD := Aside0.mk d
  clear d
  have HA := Aside0.mk (fun (W : World) (v u : Value) (m : List S40) (k : Int) (d : Duo w0 base g h v l n u m k W) => fix_duo d hs hl1 hn0 hn1 c1 c2 c3)
  have HR := Aside0.mk (fun (W : World) (v u : Value) (l : List S40) (n : Int) (d : Duo w0 base g h v l n u m k W) => rfix_duo d hl2 hk0 hk1 c1 c2 c3)
  generalize fixf l n c1 c2 c3 = ra at *
  generalize rfixf m k c1 c2 c3 = rb at *
  obtain ⟨a0, a1, a2⟩ := ra
  obtain ⟨b0, b1, b2⟩ := rb
  dsimp only at HA HR ⊢
  go_enter Try.func9, Try.ntmps9
  go_wp2_with ((with_reducible refine gate_dst (N := 5) rfl ?_); refine box_event ?hg (N := 5) ?hd (cs := #[.int .i64 1, .int .i64 c1, .int .i64 c2, .int .i64 c3, .int .i64 c4]) (t := 32) ?hr ?_; (case hd => rfl); (case hg => rfl); (case hr => first | (go_simp; done) | (go_simp; rfl)); intro pb hg w1 hbox hb1; obtain ⟨hz0, hz1, hz2, hz3, hz4⟩ := ccells_of hbox; have HX := Aside0.mk hbox; have HB1 := Aside0.mk hb1; have HG := Aside0.mk hg; clear hbox hb1 hg)
  have hapt := Apt.new HD.out HB1.out pb (Nat.le_of_eq HG.out.symm) (blk_lt HX.out)
  have HAP := Aside0.mk hapt
  have HD1 := Aside0.mk (HD.out.below HB1.out)
  have HS1 := Aside0.mk (Step.of_below HB1.out g h v u)
  have hxd : w1.drew.heap[pb]? = some (.cells #[.int .i64 1, .int .i64 c1, .int .i64 c2, .int .i64 c3, .int .i64 c4] 32 (0, 0)) := HX.out
  have HDd : Aside0 (Duo w0 base g h v l n u m k w1.drew) := ⟨HD1.out.below (below_drew1 (Below.refl _ _))⟩
  have HDS : Aside0 (Step w1 w1.drew g h v u v u) := ⟨Step.of_below (below_drew1 (Below.refl _ _)) g h v u⟩
  have HAPd : Aside0 (Apt w1.drew g h v u pb) := ⟨hapt.step HDS.out⟩
  clear hapt
  go_wp2_with fail
  go_region_held3 (fun W => W.cell? ⟨pb, 1, none⟩ = some (.int .i64 c1) ∧ W.cell? ⟨pb, 2, none⟩ = some (.int .i64 c2) ∧ W.cell? ⟨pb, 3, none⟩ = some (.int .i64 c3) ∧ W.cell? ⟨pb, 4, none⟩ = some (.int .i64 c4)) (first | (exact (ccells_of (by assumption)).2)) (first
    | (go_at_call 17; with_reducible refine (HA.out _ _ _ _ _ HDb.out).mono ?_; rintro e w3 ⟨v3, rfl, d3, s3⟩; have hx3 := HAPb.out.blk s3 (by assumption); have HF := Aside0.mk (And.intro d3 (HSb.out.trans s3)); clear d3 s3)
    | (go_at_call 20; with_reducible refine (HR.out _ _ _ _ _ HDa.out).mono ?_; rintro e w3 ⟨u3, rfl, d3, s3⟩; have hx3 := HAPa.out.blk s3 (by assumption); have HF := Aside0.mk (And.intro d3 (HSa.out.trans s3)); clear d3 s3)
    | (go_at_call 17; with_reducible refine (HA.out _ _ _ _ _ HDd.out).mono ?_; rintro e w2 ⟨v2, rfl, d2, s2⟩; have hx2 := HAPd.out.blk s2 (by assumption); have HDa := Aside0.mk d2; have HAPa := Aside0.mk (HAPd.out.step s2); have HSa := Aside0.mk ((HS1.out.trans HDS.out).trans s2); clear d2 s2)
    | (go_at_call 20; with_reducible refine (HR.out _ _ _ _ _ HDd.out).mono ?_; rintro e w2 ⟨u2, rfl, d2, s2⟩; have hx2 := HAPd.out.blk s2 (by assumption); have HDb := Aside0.mk d2; have HAPb := Aside0.mk (HAPd.out.step s2); have HSb := Aside0.mk ((HS1.out.trans HDS.out).trans s2); clear d2 s2))
  all_goals (go_wp2; go_ret; exact ⟨_, _, rfl, HF.out.1, HF.out.2⟩)
set_option maxHeartbeats 8000000 in
set_option maxRecDepth 100000 in
theorem does2 (base g h : Nat) (v u : Value) (l m : List S40) (n k : Int) (w0 w : World) (d : Duo w0 base g h v l n u m k w) (hs : l.Pairwise lx) (hl1 : l.length ≤ 100000) (hl2 : m.length ≤ 100000) (hn0 : 0 ≤ n) (hn1 : n ≤ 1000000) (hk0 : 0 ≤ k) (hk1 : k ≤ 1000000) (c : S32) (hc : c.f0 = 2) :
    Calls Try.prog 9 #[.pointer (some ⟨g, 0, none⟩), .pointer (some ⟨h, 0, none⟩), aggc c] w fun e w' => ∃ v' u', e = .returned (.bool ((tdoes l n c).1 == (rdoes m k c).1)) ∧ Duo w0 base g h v' (tdoes l n c).2.1 (tdoes l n c).2.2 u' (rdoes m k c).2.1 (rdoes m k c).2.2 w' ∧ Step w w' g h v u v' u' := by
  have mixed : Try.prog.follows .mixedOrders = true := by kernel_rfl
  have hd1 : tdoes l n c = ((tdropf l c.f1 c.f2).1, (tdropf l c.f1 c.f2).2, n) := by unfold tdoes; simp [hc]
  have hd2 : rdoes m k c = ((rdropf m c.f1 c.f2).1, (rdropf m c.f1 c.f2).2, k) := by unfold rdoes; simp [hc]
  rw [hd1, hd2]
  clear hd1 hd2
  obtain ⟨c0, c1, c2, c3, c4⟩ := c
  dsimp only at hc ⊢
  subst hc
  have HD := Aside0.mk d
  clear d
  have HA := Aside0.mk (fun (W : World) (v u : Value) (m : List S40) (k : Int) (d : Duo w0 base g h v l n u m k W) => drop_duo d hs hl1 c1 c2)
  have HR := Aside0.mk (fun (W : World) (v u : Value) (l : List S40) (n : Int) (d : Duo w0 base g h v l n u m k W) => rdrop_duo d hl2 c1 c2)
  generalize tdropf l c1 c2 = ra at *
  generalize rdropf m c1 c2 = rb at *
  obtain ⟨a0, a1⟩ := ra
  obtain ⟨b0, b1⟩ := rb
  dsimp only at HA HR ⊢
  go_enter Try.func9, Try.ntmps9
  go_wp2_with ((with_reducible refine gate_dst (N := 5) rfl ?_); refine box_event ?hg (N := 5) ?hd (cs := #[.int .i64 2, .int .i64 c1, .int .i64 c2, .int .i64 c3, .int .i64 c4]) (t := 32) ?hr ?_; (case hd => rfl); (case hg => rfl); (case hr => first | (go_simp; done) | (go_simp; rfl)); intro pb hg w1 hbox hb1; obtain ⟨hz0, hz1, hz2, hz3, hz4⟩ := ccells_of hbox; have HX := Aside0.mk hbox; have HB1 := Aside0.mk hb1; have HG := Aside0.mk hg; clear hbox hb1 hg)
  have hapt := Apt.new HD.out HB1.out pb (Nat.le_of_eq HG.out.symm) (blk_lt HX.out)
  have HAP := Aside0.mk hapt
  have HD1 := Aside0.mk (HD.out.below HB1.out)
  have HS1 := Aside0.mk (Step.of_below HB1.out g h v u)
  have hxd : w1.drew.heap[pb]? = some (.cells #[.int .i64 2, .int .i64 c1, .int .i64 c2, .int .i64 c3, .int .i64 c4] 32 (0, 0)) := HX.out
  have HDd : Aside0 (Duo w0 base g h v l n u m k w1.drew) := ⟨HD1.out.below (below_drew1 (Below.refl _ _))⟩
  have HDS : Aside0 (Step w1 w1.drew g h v u v u) := ⟨Step.of_below (below_drew1 (Below.refl _ _)) g h v u⟩
  have HAPd : Aside0 (Apt w1.drew g h v u pb) := ⟨hapt.step HDS.out⟩
  clear hapt
  go_wp2_with fail
  go_region_held3 (fun W => W.cell? ⟨pb, 1, none⟩ = some (.int .i64 c1) ∧ W.cell? ⟨pb, 2, none⟩ = some (.int .i64 c2) ∧ W.cell? ⟨pb, 3, none⟩ = some (.int .i64 c3) ∧ W.cell? ⟨pb, 4, none⟩ = some (.int .i64 c4)) (first | (exact (ccells_of (by assumption)).2)) (first
    | (go_at_call 18; with_reducible refine (HA.out _ _ _ _ _ HDb.out).mono ?_; rintro e w3 ⟨v3, rfl, d3, s3⟩; have hx3 := HAPb.out.blk s3 (by assumption); have HF := Aside0.mk (And.intro d3 (HSb.out.trans s3)); clear d3 s3)
    | (go_at_call 21; with_reducible refine (HR.out _ _ _ _ _ HDa.out).mono ?_; rintro e w3 ⟨u3, rfl, d3, s3⟩; have hx3 := HAPa.out.blk s3 (by assumption); have HF := Aside0.mk (And.intro d3 (HSa.out.trans s3)); clear d3 s3)
    | (go_at_call 18; with_reducible refine (HA.out _ _ _ _ _ HDd.out).mono ?_; rintro e w2 ⟨v2, rfl, d2, s2⟩; have hx2 := HAPd.out.blk s2 (by assumption); have HDa := Aside0.mk d2; have HAPa := Aside0.mk (HAPd.out.step s2); have HSa := Aside0.mk ((HS1.out.trans HDS.out).trans s2); clear d2 s2)
    | (go_at_call 21; with_reducible refine (HR.out _ _ _ _ _ HDd.out).mono ?_; rintro e w2 ⟨u2, rfl, d2, s2⟩; have hx2 := HAPd.out.blk s2 (by assumption); have HDb := Aside0.mk d2; have HAPb := Aside0.mk (HAPd.out.step s2); have HSb := Aside0.mk ((HS1.out.trans HDS.out).trans s2); clear d2 s2))
  all_goals (go_wp2; go_ret; exact ⟨_, _, rfl, HF.out.1, HF.out.2⟩)
set_option maxHeartbeats 8000000 in
set_option maxRecDepth 100000 in
theorem does3 (base g h : Nat) (v u : Value) (l m : List S40) (n k : Int) (w0 w : World) (d : Duo w0 base g h v l n u m k w) (hs : l.Pairwise lx) (hl1 : l.length ≤ 100000) (hl2 : m.length ≤ 100000) (hn0 : 0 ≤ n) (hn1 : n ≤ 1000000) (hk0 : 0 ≤ k) (hk1 : k ≤ 1000000) (c : S32) (hc : c.f0 = 3) :
    Calls Try.prog 9 #[.pointer (some ⟨g, 0, none⟩), .pointer (some ⟨h, 0, none⟩), aggc c] w fun e w' => ∃ v' u', e = .returned (.bool ((tdoes l n c).1 == (rdoes m k c).1)) ∧ Duo w0 base g h v' (tdoes l n c).2.1 (tdoes l n c).2.2 u' (rdoes m k c).2.1 (rdoes m k c).2.2 w' ∧ Step w w' g h v u v' u' := by
  have mixed : Try.prog.follows .mixedOrders = true := by kernel_rfl
  have e12 : ∀ args w, (callFunc 12 args).run Try.prog w = .ok (.enter 12 args) w := enters_of Try.func12 (by kernel_rfl) rfl
  have e22 : ∀ args w, (callFunc 22 args).run Try.prog w = .ok (.enter 22 args) w := enters_of Try.func22 (by kernel_rfl) rfl
  have hd1 : tdoes l n c = (0, dropP l (goneP c.f4), n) := by unfold tdoes; simp [hc]
  have hd2 : rdoes m k c = (0, m.filter (keepB 0 c.f4), k) := by unfold rdoes; simp [hc]
  rw [hd1, hd2]
  clear hd1 hd2
  obtain ⟨c0, c1, c2, c3, c4⟩ := c
  dsimp only at hc ⊢
  subst hc
  have HD := Aside0.mk d
  clear d
  go_enter Try.func9, Try.ntmps9
  go_wp2_with (first
    | ((with_reducible refine gate_dst (N := 5) rfl ?_); refine box_event ?hg (N := 5) ?hd (cs := #[.int .i64 3, .int .i64 c1, .int .i64 c2, .int .i64 c3, .int .i64 c4]) (t := 32) ?hr ?_; (case hd => rfl); (case hg => rfl); (case hr => first | (go_simp; done) | (go_simp; rfl)); intro pb hg w1 hbox hb1; obtain ⟨hz0, hz1, hz2, hz3, hz4⟩ := ccells_of hbox; have HX := Aside0.mk hbox; have HB1 := Aside0.mk hb1; have HG := Aside0.mk hg; clear hbox hb1 hg)
    | (go_at_fn 12; refine (age_duo (HD.out.below HB1.out) c4).mono ?_; rintro e w2 ⟨v2, rfl, d2, s2⟩; have hap := Apt.new HD.out HB1.out pb (Nat.le_of_eq HG.out.symm) (blk_lt HX.out); obtain ⟨hz0, hz1, hz2, hz3, hz4⟩ := ccells_of (hap.blk s2 HX.out); have HD2 := Aside0.mk d2; have HS2 := Aside0.mk ((Step.of_below HB1.out g h v u).trans s2); clear d2 s2 hap)
    | (go_at_fn 22; refine (keep0_duo HD2.out hl2 c4).mono ?_; rintro e w3 ⟨u3, rfl, d3, s3⟩; have HF := Aside0.mk (And.intro d3 (HS2.out.trans s3)); clear d3 s3))
  go_ret
  exact ⟨_, _, rfl, HF.out.1, HF.out.2⟩
set_option maxHeartbeats 8000000 in
set_option maxRecDepth 100000 in
theorem does4n (base g h : Nat) (v u : Value) (l m : List S40) (n k : Int) (w0 w : World) (d : Duo w0 base g h v l n u m k w) (hs : l.Pairwise lx) (hl1 : l.length ≤ 100000) (hl2 : m.length ≤ 100000) (hn0 : 0 ≤ n) (hn1 : n ≤ 1000000) (hk0 : 0 ≤ k) (hk1 : k ≤ 1000000) (c : S32) (hc : c.f0 = 4) (hp : c.f3 < 0) :
    Calls Try.prog 9 #[.pointer (some ⟨g, 0, none⟩), .pointer (some ⟨h, 0, none⟩), aggc c] w fun e w' => ∃ v' u', e = .returned (.bool ((tdoes l n c).1 == (rdoes m k c).1)) ∧ Duo w0 base g h v' (tdoes l n c).2.1 (tdoes l n c).2.2 u' (rdoes m k c).2.1 (rdoes m k c).2.2 w' ∧ Step w w' g h v u v' u' := by
  have mixed : Try.prog.follows .mixedOrders = true := by kernel_rfl
  have e13 : ∀ args w, (callFunc 13 args).run Try.prog w = .ok (.enter 13 args) w := enters_of Try.func13 (by kernel_rfl) rfl
  have e22 : ∀ args w, (callFunc 22 args).run Try.prog w = .ok (.enter 22 args) w := enters_of Try.func22 (by kernel_rfl) rfl
  have hd1 : tdoes l n c = (0, dropP l (flushP c.f3), n) := by unfold tdoes; simp [hc]
  have hd2 : rdoes m k c = (0, m.filter (keepB 2 0), k) := by unfold rdoes; simp [hc, hp]
  rw [hd1, hd2]
  clear hd1 hd2
  obtain ⟨c0, c1, c2, c3, c4⟩ := c
  dsimp only at hc hp ⊢
  subst hc
  have HD := Aside0.mk d
  clear d
  go_enter Try.func9, Try.ntmps9
  go_wp2_with (first
    | ((with_reducible refine gate_dst (N := 5) rfl ?_); refine box_event ?hg (N := 5) ?hd (cs := #[.int .i64 4, .int .i64 c1, .int .i64 c2, .int .i64 c3, .int .i64 c4]) (t := 32) ?hr ?_; (case hd => rfl); (case hg => rfl); (case hr => first | (go_simp; done) | (go_simp; rfl)); intro pb hg w1 hbox hb1; obtain ⟨hz0, hz1, hz2, hz3, hz4⟩ := ccells_of hbox; have HX := Aside0.mk hbox; have HB1 := Aside0.mk hb1; have HG := Aside0.mk hg; clear hbox hb1 hg)
    | (go_at_fn 13; refine (flush_duo (HD.out.below HB1.out) c3).mono ?_; rintro e w2 ⟨v2, rfl, d2, s2⟩; have hap := Apt.new HD.out HB1.out pb (Nat.le_of_eq HG.out.symm) (blk_lt HX.out); obtain ⟨hz0, hz1, hz2, hz3, hz4⟩ := ccells_of (hap.blk s2 HX.out); have HD2 := Aside0.mk d2; have HS2 := Aside0.mk ((Step.of_below HB1.out g h v u).trans s2); clear d2 s2 hap)
    | (go_at_fn 22; refine (keep2_duo HD2.out hl2).mono ?_; rintro e w3 ⟨u3, rfl, d3, s3⟩; have HF := Aside0.mk (And.intro d3 (HS2.out.trans s3)); clear d3 s3))
  go_ret
  exact ⟨_, _, rfl, HF.out.1, HF.out.2⟩
set_option maxHeartbeats 8000000 in
set_option maxRecDepth 100000 in
theorem does4p (base g h : Nat) (v u : Value) (l m : List S40) (n k : Int) (w0 w : World) (d : Duo w0 base g h v l n u m k w) (hs : l.Pairwise lx) (hl1 : l.length ≤ 100000) (hl2 : m.length ≤ 100000) (hn0 : 0 ≤ n) (hn1 : n ≤ 1000000) (hk0 : 0 ≤ k) (hk1 : k ≤ 1000000) (c : S32) (hc : c.f0 = 4) (hp : ¬ c.f3 < 0) :
    Calls Try.prog 9 #[.pointer (some ⟨g, 0, none⟩), .pointer (some ⟨h, 0, none⟩), aggc c] w fun e w' => ∃ v' u', e = .returned (.bool ((tdoes l n c).1 == (rdoes m k c).1)) ∧ Duo w0 base g h v' (tdoes l n c).2.1 (tdoes l n c).2.2 u' (rdoes m k c).2.1 (rdoes m k c).2.2 w' ∧ Step w w' g h v u v' u' := by
  have mixed : Try.prog.follows .mixedOrders = true := by kernel_rfl
  have e13 : ∀ args w, (callFunc 13 args).run Try.prog w = .ok (.enter 13 args) w := enters_of Try.func13 (by kernel_rfl) rfl
  have e22 : ∀ args w, (callFunc 22 args).run Try.prog w = .ok (.enter 22 args) w := enters_of Try.func22 (by kernel_rfl) rfl
  have hd1 : tdoes l n c = (0, dropP l (flushP c.f3), n) := by unfold tdoes; simp [hc]
  have hd2 : rdoes m k c = (0, m.filter (keepB 1 c.f3), k) := by unfold rdoes; simp [hc, hp]
  rw [hd1, hd2]
  clear hd1 hd2
  obtain ⟨c0, c1, c2, c3, c4⟩ := c
  dsimp only at hc hp ⊢
  subst hc
  have HD := Aside0.mk d
  clear d
  go_enter Try.func9, Try.ntmps9
  go_wp2_with (first
    | ((with_reducible refine gate_dst (N := 5) rfl ?_); refine box_event ?hg (N := 5) ?hd (cs := #[.int .i64 4, .int .i64 c1, .int .i64 c2, .int .i64 c3, .int .i64 c4]) (t := 32) ?hr ?_; (case hd => rfl); (case hg => rfl); (case hr => first | (go_simp; done) | (go_simp; rfl)); intro pb hg w1 hbox hb1; obtain ⟨hz0, hz1, hz2, hz3, hz4⟩ := ccells_of hbox; have HX := Aside0.mk hbox; have HB1 := Aside0.mk hb1; have HG := Aside0.mk hg; clear hbox hb1 hg)
    | (go_at_fn 13; refine (flush_duo (HD.out.below HB1.out) c3).mono ?_; rintro e w2 ⟨v2, rfl, d2, s2⟩; have hap := Apt.new HD.out HB1.out pb (Nat.le_of_eq HG.out.symm) (blk_lt HX.out); obtain ⟨hz0, hz1, hz2, hz3, hz4⟩ := ccells_of (hap.blk s2 HX.out); have HD2 := Aside0.mk d2; have HS2 := Aside0.mk ((Step.of_below HB1.out g h v u).trans s2); clear d2 s2 hap)
    | (go_at_fn 22; refine (keep1_duo HD2.out hl2 c3).mono ?_; rintro e w3 ⟨u3, rfl, d3, s3⟩; have HF := Aside0.mk (And.intro d3 (HS2.out.trans s3)); clear d3 s3))
  go_ret
  exact ⟨_, _, rfl, HF.out.1, HF.out.2⟩
set_option maxHeartbeats 8000000 in
set_option maxRecDepth 100000 in
theorem does5 (base g h : Nat) (v u : Value) (l m : List S40) (n k : Int) (w0 w : World) (d : Duo w0 base g h v l n u m k w) (hs : l.Pairwise lx) (hl1 : l.length ≤ 100000) (hl2 : m.length ≤ 100000) (hn0 : 0 ≤ n) (hn1 : n ≤ 1000000) (hk0 : 0 ≤ k) (hk1 : k ≤ 1000000) (c : S32) (h0 : ¬ c.f0 = 0) (h1 : ¬ c.f0 = 1) (h2 : ¬ c.f0 = 2) (h3 : ¬ c.f0 = 3) (h4 : ¬ c.f0 = 4) :
    Calls Try.prog 9 #[.pointer (some ⟨g, 0, none⟩), .pointer (some ⟨h, 0, none⟩), aggc c] w fun e w' => ∃ v' u', e = .returned (.bool ((tdoes l n c).1 == (rdoes m k c).1)) ∧ Duo w0 base g h v' (tdoes l n c).2.1 (tdoes l n c).2.2 u' (rdoes m k c).2.1 (rdoes m k c).2.2 w' ∧ Step w w' g h v u v' u' := by
  have mixed : Try.prog.follows .mixedOrders = true := by kernel_rfl
  have hd1 : tdoes l n c = (0, l, n) := by unfold tdoes; simp [h0, h1, h2, h3, h4]
  have hd2 : rdoes m k c = (0, m, k) := by unfold rdoes; simp [h0, h1, h2, h3, h4]
  rw [hd1, hd2]
  clear hd1 hd2
  obtain ⟨c0, c1, c2, c3, c4⟩ := c
  dsimp only at h0 h1 h2 h3 h4 ⊢
  have HD := Aside0.mk d
  clear d
  go_enter Try.func9, Try.ntmps9
  go_wp2_with ((with_reducible refine gate_dst (N := 5) rfl ?_); refine box_event ?hg (N := 5) ?hd (cs := #[.int .i64 c0, .int .i64 c1, .int .i64 c2, .int .i64 c3, .int .i64 c4]) (t := 32) ?hr ?_; (case hd => rfl); (case hg => rfl); (case hr => first | (go_simp; done) | (go_simp; rfl)); intro pb hg w1 hbox hb1; obtain ⟨hz0, hz1, hz2, hz3, hz4⟩ := ccells_of hbox; have HX := Aside0.mk hbox; have HB1 := Aside0.mk hb1; have HG := Aside0.mk hg; clear hbox hb1 hg)
  go_ret
  exact ⟨_, _, rfl, HD.out.below HB1.out, Step.of_below HB1.out g h v u⟩
theorem does_calls (base g h : Nat) (v u : Value) (l m : List S40) (n k : Int) (w0 w : World) (d : Duo w0 base g h v l n u m k w) (hs : l.Pairwise lx) (hl1 : l.length ≤ 100000) (hl2 : m.length ≤ 100000) (hn0 : 0 ≤ n) (hn1 : n ≤ 1000000) (hk0 : 0 ≤ k) (hk1 : k ≤ 1000000) (c : S32) :
    Calls Try.prog 9 #[.pointer (some ⟨g, 0, none⟩), .pointer (some ⟨h, 0, none⟩), aggc c] w fun e w' => ∃ v' u', e = .returned (.bool ((tdoes l n c).1 == (rdoes m k c).1)) ∧ Duo w0 base g h v' (tdoes l n c).2.1 (tdoes l n c).2.2 u' (rdoes m k c).2.1 (rdoes m k c).2.2 w' ∧ Step w w' g h v u v' u' := by
  by_cases h0 : c.f0 = 0
  · exact does0 base g h v u l m n k w0 w d hs hl1 hl2 hn0 hn1 hk0 hk1 c h0
  by_cases h1 : c.f0 = 1
  · exact does1 base g h v u l m n k w0 w d hs hl1 hl2 hn0 hn1 hk0 hk1 c h1
  by_cases h2 : c.f0 = 2
  · exact does2 base g h v u l m n k w0 w d hs hl1 hl2 hn0 hn1 hk0 hk1 c h2
  by_cases h3 : c.f0 = 3
  · exact does3 base g h v u l m n k w0 w d hs hl1 hl2 hn0 hn1 hk0 hk1 c h3
  by_cases h4 : c.f0 = 4
  · by_cases hp : c.f3 < 0
    · exact does4n base g h v u l m n k w0 w d hs hl1 hl2 hn0 hn1 hk0 hk1 c h4 hp
    · exact does4p base g h v u l m n k w0 w d hs hl1 hl2 hn0 hn1 hk0 hk1 c h4 hp
  exact does5 base g h v u l m n k w0 w d hs hl1 hl2 hn0 hn1 hk0 hk1 c h0 h1 h2 h3 h4
end Go.Proofs.Ytlehkobakddgbaa.QFdb
namespace Go.Proofs.Ytlehkobakddgbaa.QFdb
open Go.RowKit Go.Proofs.YtlehkobakddgbaaW.PrintWords Go.Proofs.YtlehkobakddgbaaW.PrintLast Go.Proofs.YtlehkobakddgbaaW.PrintMore
set_option linter.unusedVariables false
set_option linter.unusedSimpArgs false
abbrev pl0 : S40 := ⟨1, 5, 2, 10, false⟩
theorem alive1 : learnf [] 0 1 5 2 10 = (0, [pl0], 0) := by rfl
theorem alive2 : findF [pl0] 1 5 = 2 := by rfl
theorem alive3 : dropP [pl0] (goneP 71) = [] := by
  have e : goneP 71 pl0 = true := by unfold goneP wrap64; simp
  unfold dropP; rw [List.filter_cons_of_neg (by rw [e]; decide)]; rfl
theorem alive4 : findF [] 1 5 = -1 := by rfl
set_option maxHeartbeats 8000000 in
set_option maxRecDepth 100000 in
theorem alive_calls (w : World) : Calls Try.prog 6 #[] w fun e w' => e = .returned (.bool true) ∧ Below w.heap.size w w' := by
  have e8 : ∀ args w, (callFunc 8 args).run Try.prog w = .ok (.enter 8 args) w := enters_of Try.func8 (by kernel_rfl) rfl
  have e10 : ∀ args w, (callFunc 10 args).run Try.prog w = .ok (.enter 10 args) w := enters_of Try.func10 (by kernel_rfl) rfl
  have e12 : ∀ args w, (callFunc 12 args).run Try.prog w = .ok (.enter 12 args) w := enters_of Try.func12 (by kernel_rfl) rfl
  have e16 : ∀ args w, (callFunc 16 args).run Try.prog w = .ok (.enter 16 args) w := enters_of Try.func16 (by kernel_rfl) rfl
  have HL := Aside0.mk (fun (W : World) (g : Nat) (hB : Below w.heap.size w W) (ht : Tbl W w.heap.size g (.slice none 0 0) [] 0) => learn_calls w.heap.size g _ [] 0 w W hB hB.size ht List.Pairwise.nil (by decide) (by decide) (by decide) 1 5 2 10)
  rw [alive1] at HL
  have HF := Aside0.mk (fun (W : World) (g : Nat) (v : Value) (ht : Tbl W w.heap.size g v [pl0] 0) => Find_calls w.heap.size g v [pl0] 0 W ht (List.pairwise_singleton _ _) (by decide) 1 5)
  rw [alive2] at HF
  have HA := Aside0.mk (fun (W : World) (g : Nat) (v : Value) (hB : Below w.heap.size w W) (ht : Tbl W w.heap.size g v [pl0] 0) => age_calls w.heap.size g v [pl0] 0 w W hB hB.size ht 71)
  rw [alive3] at HA
  have HF2 := Aside0.mk (fun (W : World) (g : Nat) (v : Value) (ht : Tbl W w.heap.size g v [] 0) => Find_calls w.heap.size g v [] 0 W ht List.Pairwise.nil (by decide) 1 5)
  rw [alive4] at HF2
  go_enter Try.func6, Try.ntmps6
  go_wp2_with (first
    | (go_at_fn 8; refine (New_calls w.heap.size w (Nat.le_refl _)).mono ?_; rintro e w1 ⟨g, rfl, ht, hb, hg⟩; have HT1 := Aside0.mk ht; have HB1 := Aside0.mk hb; clear ht hb hg)
    | (go_at_fn 16; with_reducible refine (HL.out w1 g HB1.out HT1.out).mono ?_; rintro e w2 ⟨rfl, v2, ht⟩; have HT2 := Aside0.mk ht; clear ht)
    | (go_at_fn 10; with_reducible refine (HF.out w2 g v2 HT2.out.tbl).mono ?_; rintro e w3 ⟨rfl, hb⟩; have HT3 := Aside0.mk (HT2.out.tbl.below hb); have HB3 := Aside0.mk (below_step HT2.out.bel hb); clear hb)
    | (go_at_fn 12; with_reducible refine (HA.out w3 g v2 HB3.out HT3.out).mono ?_; rintro e w4 ⟨rfl, v4, ht⟩; have HT4 := Aside0.mk ht; clear ht)
    | (go_at_fn 10; with_reducible refine (HF2.out w4 g v4 HT4.out.tbl).mono ?_; rintro e w5 ⟨rfl, hb⟩; have HB5 := Aside0.mk (below_step HT4.out.bel hb); clear hb))
  go_ret
  exact ⟨rfl, HB5.out⟩
def greatB (l : List S32) : Bool := l.any (fun c => decide (c.f4 < 0 ∨ c.f4 > 1099511627776)) || decide ((l.length : Int) > 120)
theorem rd32 {l : List S32} {i : Nat} (h : i < l.length) : rd_T32 l (i : Int) = l[i] := by
  unfold rd_T32
  rw [Int.toNat_natCast, List.getD_eq_getElem?_getD, List.getElem?_eq_getElem h]
  rfl
theorem great_loop (l : List S32) (hm : l.length ≤ maxLen) : ∀ (k i : Nat), l.length - i < k → i ≤ l.length → kissgatelaw18_great.l0 k l l (l.length : Int) (i : Int) = some ((l.drop i).any (fun c => decide (c.f4 < 0 ∨ c.f4 > 1099511627776)) || decide ((l.length : Int) > 120))
  | 0, i, h, _ => absurd h (Nat.not_lt_zero _)
  | k + 1, i, h, hi => by
    unfold kissgatelaw18_great.l0
    by_cases hl : i < l.length
    · have hz : (i : Int) < (l.length : Int) := by omega
      have h0 : (0 : Int) ≤ (i : Int) := by omega
      rw [if_pos hz, if_pos h0, if_pos hz, rd32 hl, List.drop_eq_getElem_cons hl, List.any_cons]
      by_cases h1 : l[i].f4 < 0
      · rw [if_pos h1]; simp [h1]
      · rw [if_neg h1]
        by_cases h2 : l[i].f4 > 1099511627776
        · rw [if_pos h2]; simp [h2]
        · rw [if_neg h2]
          have hw : wrap64 ((i : Int) + 1) = ((i + 1 : Nat) : Int) := by unfold maxLen at hm; unfold wrap64; omega
          rw [hw, great_loop l hm k (i + 1) (by omega) (by omega)]
          have hd : decide (l[i].f4 < 0 ∨ l[i].f4 > 1099511627776) = false := by simp; omega
          rw [hd, Bool.false_or]
    · have e : i = l.length := by omega
      subst e
      rw [if_neg (Int.lt_irrefl _), List.drop_length]
      rfl
theorem great_calls (A : Option Addr) (c : Nat) (l : List S32) (w : World) (hr : Kd.C k32 w A l.length l) (hc : l.length ≤ c) (hm : l.length ≤ maxLen) :
    Calls Try.prog 7 #[.slice A l.length c] w fun e w' => e = .returned (.bool (greatB l)) ∧ Below w.heap.size w w' := by
  refine kissgatelaw18_great.calls (l.length + 1) A c l (greatB l) w hr hc ?_
  have := great_loop l hm (l.length + 1) 0 (by omega) (Nat.zero_le _)
  rw [List.drop_zero] at this
  exact this
theorem Duo.start {w0 W W' : World} {base g h : Nat} {v : Value} {l : List S40} {n : Int} (hB : Below base w0 W) (hs : base ≤ W.heap.size) (ht : Tbl W base g v l n) (hb : Below W.heap.size W W') (hx : W'.heap[h]? = some (.cells #[.slice none 0 0, .int .i64 0] 30 (0, 0))) (hh : W.heap.size ≤ h) :
    Duo w0 base g h v l n (.slice none 0 0) [] 0 W' := by
  refine ⟨ht.below hb, ⟨hx, Nat.le_trans hs hh, Kd.R_nil _ _ _ _ _⟩, ?_, ?_, nil_no' g, Below.grown hB (grownBy_below (r := none) hb) hs (fun q hq => by cases hq), Nat.le_trans hs hb.size⟩
  · have := ht.lt; omega
  · intro q hq
    have := own_lt ht.row q hq
    exact ⟨by omega, nil_no' q⟩
where nil_no' (q : Nat) : ¬ Blk (.slice none 0 0) q := fun h => by cases h
end Go.Proofs.Ytlehkobakddgbaa.QFdb
namespace Go.Proofs.Ytlehkobakddgbaa.QFdb
open Go.RowKit Go.Proofs.YtlehkobakddgbaaW.PrintWords Go.Proofs.YtlehkobakddgbaaW.PrintLast Go.Proofs.YtlehkobakddgbaaW.PrintMore
set_option linter.unusedVariables false
set_option linter.unusedSimpArgs false
theorem Sim.self {l : List S40} (h : l.Pairwise lx) : Sim l l := ⟨List.Perm.refl _, h⟩
theorem Sim.does {l m : List S40} (h : Sim l m) (n : Int) (c : S32) : (tdoes l n c).1 = (rdoes m n c).1 ∧ (tdoes l n c).2.2 = (rdoes m n c).2.2 ∧ Sim (tdoes l n c).2.1 (rdoes m n c).2.1 := by
  unfold tdoes rdoes
  split
  · exact h.learnf n _ _ _ _
  · split
    · exact h.fixf n _ _ _
    · split
      · exact ⟨(h.dropf _ _).1, rfl, (h.dropf _ _).2⟩
      · split
        · exact ⟨rfl, rfl, h.age _⟩
        · split
          · exact ⟨rfl, rfl, h.flush _⟩
          · exact ⟨rfl, rfl, h⟩
theorem ins_len (l : List S40) (p : S40) : (ins40 l p).length = l.length + 1 := by
  unfold ins40
  have := pos_le l p
  simp only [List.length_append, List.length_take, List.length_drop, List.length_cons, List.length_nil]
  omega
theorem putf_len {l : List S40} (hl : l.length ≤ 24) (n : Int) (p : S40) : (putf l n p).2.1.length ≤ 24 ∧ (n ≤ (putf l n p).2.2 ∧ (putf l n p).2.2 ≤ n + 1) := by
  unfold putf
  by_cases h1 : hit l p = true
  · rw [if_pos h1]; exact ⟨by simpa using hl, by show n ≤ n; omega, by show n ≤ n + 1; omega⟩
  · rw [if_neg h1]
    by_cases h2 : l.length < 24
    · rw [if_pos h2]; exact ⟨by show (ins40 l p).length ≤ 24; rw [ins_len]; omega, by show n ≤ n; omega, by show n ≤ n + 1; omega⟩
    · rw [if_neg h2]
      by_cases h3 : oldF l < 0
      · rw [if_pos h3]; exact ⟨hl, by show n ≤ n + 1; omega, by show n + 1 ≤ n + 1; omega⟩
      · rw [if_neg h3]
        refine ⟨?_, by show n ≤ n; omega, by show n ≤ n + 1; omega⟩
        show (ins40 (l.eraseIdx (oldF l).toNat) p).length ≤ 24
        rcases oldG_range l l.length with e | ⟨j, e, hj⟩
        · have e2 : oldF l = -1 := e
          omega
        · rw [ins_len, show oldF l = (j : Int) from e, Int.toNat_natCast, List.length_eraseIdx_of_lt hj]; omega
theorem tdoes_len {l : List S40} (hl : l.length ≤ 24) (n : Int) (c : S32) : (tdoes l n c).2.1.length ≤ 24 ∧ (n ≤ (tdoes l n c).2.2 ∧ (tdoes l n c).2.2 ≤ n + 1) := by
  have id2 : n ≤ n ∧ n ≤ n + 1 := ⟨by omega, by omega⟩
  unfold tdoes
  split
  · unfold learnf
    split
    · split
      · exact ⟨hl, id2⟩
      · exact putf_len hl n _
    · exact ⟨hl, id2⟩
  · split
    · unfold fixf
      split
      · exact putf_len hl n _
      · exact ⟨hl, id2⟩
    · split
      · unfold tdropf
        split
        · exact ⟨Nat.le_trans (List.length_eraseIdx_le _ _) hl, id2⟩
        · exact ⟨hl, id2⟩
      · split
        · exact ⟨Nat.le_trans (List.length_filter_le _ _) hl, id2⟩
        · split
          · exact ⟨Nat.le_trans (List.length_filter_le _ _) hl, id2⟩
          · exact ⟨hl, id2⟩
theorem lay5_blk32 {W : World} {gb : Nat} (h : W.heap[gb]? = some (.cells #[.int .i64 0, .int .i64 0, .int .i64 0, .int .i64 0, .int .i64 0] 32 (0, 0))) (x : S32) : ((((((W.setCell ⟨gb, 0, none⟩ (.int .i64 x.f0)).setCell ⟨gb, 1, none⟩ (.int .i64 x.f1)).setCell ⟨gb, 2, none⟩ (.int .i64 x.f2)).setCell ⟨gb, 3, none⟩ (.int .i64 x.f3)).setCell ⟨gb, 4, none⟩ (.int .i64 x.f4))).heap[gb]? = some (.cells #[.int .i64 x.f0, .int .i64 x.f1, .int .i64 x.f2, .int .i64 x.f3, .int .i64 x.f4] 32 (0, 0)) :=
  blk_put (blk_put (blk_put (blk_put (blk_put h 0 _ rfl) 1 _ rfl) 2 _ rfl) 3 _ rfl) 4 _ rfl
theorem lay5_bel32 {w W : World} {gb : Nat} (h : Below w.heap.size w W) (hg : w.heap.size ≤ gb) (x : S32) : Below w.heap.size w (((((W.setCell ⟨gb, 0, none⟩ (.int .i64 x.f0)).setCell ⟨gb, 1, none⟩ (.int .i64 x.f1)).setCell ⟨gb, 2, none⟩ (.int .i64 x.f2)).setCell ⟨gb, 3, none⟩ (.int .i64 x.f3)).setCell ⟨gb, 4, none⟩ (.int .i64 x.f4)) := below_set (below_set (below_set (below_set (below_set h hg) hg) hg) hg) hg
end Go.Proofs.Ytlehkobakddgbaa.QFdb
namespace Go.Proofs.Ytlehkobakddgbaa.QFdb
open Go.RowKit Go.Proofs.YtlehkobakddgbaaW.PrintWords Go.Proofs.YtlehkobakddgbaaW.PrintLast Go.Proofs.YtlehkobakddgbaaW.PrintMore
set_option linter.unusedVariables false
set_option linter.unusedSimpArgs false
theorem eq_of_mem : ∀ {l1 l2 : List S40}, l1.Pairwise lx → l2.Pairwise lx → (∀ x, x ∈ l1 ↔ x ∈ l2) → l1 = l2
  | [], [], _, _, _ => rfl
  | [], y :: s, _, _, h => by have := (h y).2 List.mem_cons_self; cases this
  | x :: r, [], _, _, h => by have := (h x).1 List.mem_cons_self; cases this
  | x :: r, y :: s, h1, h2, h => by
    have p1 := List.pairwise_cons.1 h1
    have p2 := List.pairwise_cons.1 h2
    have e : x = y := by
      rcases List.mem_cons.1 ((h x).1 List.mem_cons_self) with e | e
      · exact e
      · rcases List.mem_cons.1 ((h y).2 List.mem_cons_self) with k | k
        · exact k.symm
        · exact absurd (lx_trans (p1.1 y k) (p2.1 x e)) (lx_irrefl x)
    subst e
    rw [eq_of_mem p1.2 p2.2 (fun z => ⟨fun hz => ?_, fun hz => ?_⟩)]
    · rcases List.mem_cons.1 ((h z).1 (List.mem_cons_of_mem _ hz)) with k | k
      · subst k; exact absurd (p1.1 _ hz) (lx_irrefl _)
      · exact k
    · rcases List.mem_cons.1 ((h z).2 (List.mem_cons_of_mem _ hz)) with k | k
      · subst k; exact absurd (p2.1 _ hz) (lx_irrefl _)
      · exact k
def ofVid (vid : Int) (l : List S40) : List S40 := l.filter fun x => decide (x.f0 = vid)
theorem mem_ofVid {vid : Int} {l : List S40} {x : S40} : x ∈ ofVid vid l ↔ x ∈ l ∧ x.f0 = vid := by unfold ofVid; rw [List.mem_filter]; simp
theorem ofVid_sorted {vid : Int} {l : List S40} (h : l.Pairwise lx) : (ofVid vid l).Pairwise lx := h.filter _
theorem ofVid_len (vid : Int) (l : List S40) : (ofVid vid l).length ≤ l.length := List.length_filter_le _ _
theorem mem_erase {l : List S40} (h : l.Pairwise lx) {i : Nat} (hi : i < l.length) (x : S40) : x ∈ l.eraseIdx i ↔ x ∈ l ∧ ¬ Same x l[i] := by
  have hp := cons_eraseIdx l i hi
  have hs : ∀ y ∈ l.eraseIdx i, y ∈ l := fun y hy => (List.eraseIdx_sublist l i).subset hy
  constructor
  · intro hx
    refine ⟨hs x hx, fun hsm => ?_⟩
    have e := same_eq h (hs x hx) (List.getElem_mem hi) hsm
    subst e
    have hnd : l.Nodup := List.Pairwise.imp (fun {a b} (hab : lx a b) (e : a = b) => lx_irrefl a (e ▸ hab)) h
    have := (hp.nodup_iff).1 hnd
    exact (List.nodup_cons.1 this).1 hx
  · rintro ⟨hx, hn⟩
    rcases List.mem_cons.1 (hp.subset hx) with e | e
    · subst e; exact absurd ⟨rfl, rfl⟩ hn
    · exact e
theorem mem_put {l : List S40} (h : l.Pairwise lx) (hl : l.length < 24) (n : Int) (p x : S40) : x ∈ (putf l n p).2.1 ↔ x = p ∨ x ∈ l ∧ ¬ Same x p := by
  unfold putf
  by_cases hh : hit l p = true
  · rw [if_pos hh]
    obtain ⟨hp, hs⟩ := hit_at hh
    have hm := (set_eraseIdx l (pos l p) p hp).mem_iff (a := x)
    show x ∈ l.set (pos l p) p ↔ _
    rw [hm, List.mem_cons, mem_erase h hp]
    have : Same x l[pos l p] ↔ Same x p := by unfold Same at *; omega
    rw [this]
  · rw [if_neg hh, if_pos hl]
    have hns := hit_none h (t := p) (by simpa using hh)
    show x ∈ ins40 l p ↔ _
    have hm : x ∈ ins40 l p ↔ x = p ∨ x ∈ l := by
      unfold ins40
      have e : l = l.take (pos l p) ++ l.drop (pos l p) := (List.take_append_drop _ _).symm
      constructor
      · intro hx
        rcases List.mem_append.1 hx with hx | hx
        · rcases List.mem_append.1 hx with hx | hx
          · exact .inr (List.mem_of_mem_take hx)
          · exact .inl (by simpa using hx)
        · exact .inr (List.mem_of_mem_drop hx)
      · rintro (rfl | hx)
        · simp
        · rw [e] at hx
          rcases List.mem_append.1 hx with hx | hx
          · exact List.mem_append_left _ (List.mem_append_left _ hx)
          · exact List.mem_append_right _ hx
    rw [hm]
    exact ⟨fun hx => hx.imp id (fun hx => ⟨hx, hns x hx⟩), fun hx => hx.imp id And.left⟩
theorem put_sorted {l : List S40} (h : l.Pairwise lx) (n : Int) (p : S40) : (putf l n p).2.1.Pairwise lx := ((Sim.self h).putf n p).2.2.ord
theorem put_in {l : List S40} (h : l.Pairwise lx) (hl : l.length < 24) (n n2 : Int) (p : S40) : ofVid p.f0 (putf l n p).2.1 = (putf (ofVid p.f0 l) n2 p).2.1 := by
  refine eq_of_mem (ofVid_sorted (put_sorted h n p)) (put_sorted (ofVid_sorted h) n2 p) (fun x => ?_)
  rw [mem_ofVid, mem_put h hl, mem_put (ofVid_sorted h) (Nat.lt_of_le_of_lt (ofVid_len _ _) hl), mem_ofVid]
  constructor
  · rintro ⟨e | ⟨h1, h2⟩, h3⟩
    · exact .inl e
    · exact .inr ⟨⟨h1, h3⟩, h2⟩
  · rintro (e | ⟨⟨h1, h3⟩, h2⟩)
    · subst e; exact ⟨.inl rfl, rfl⟩
    · exact ⟨.inr ⟨h1, h2⟩, h3⟩
theorem put_out {l : List S40} (h : l.Pairwise lx) (hl : l.length < 24) (n : Int) (p : S40) (vid : Int) (hv : p.f0 ≠ vid) : ofVid vid (putf l n p).2.1 = ofVid vid l := by
  refine eq_of_mem (ofVid_sorted (put_sorted h n p)) (ofVid_sorted h) (fun x => ?_)
  rw [mem_ofVid, mem_put h hl, mem_ofVid]
  constructor
  · rintro ⟨e | ⟨h1, h2⟩, h3⟩
    · subst e; exact absurd h3 hv
    · exact ⟨h1, h3⟩
  · rintro ⟨h1, h3⟩
    exact ⟨.inr ⟨h1, fun hs => hv (hs.1.symm.trans h3)⟩, h3⟩
theorem hit_some {l : List S40} {t : S40} (hh : hit l t = true) : ∃ x ∈ l, Same x t ∧ l[pos l t]? = some x := by
  obtain ⟨hp, hs⟩ := hit_at hh
  exact ⟨_, List.getElem_mem hp, hs, List.getElem?_eq_getElem hp⟩
theorem look_vid {l : List S40} (h : l.Pairwise lx) (vid mac : Int) : (hit l (tgt vid mac) = false ∧ hit (ofVid vid l) (tgt vid mac) = false) ∨ ∃ x, hit l (tgt vid mac) = true ∧ hit (ofVid vid l) (tgt vid mac) = true ∧ l[pos l (tgt vid mac)]? = some x ∧ (ofVid vid l)[pos (ofVid vid l) (tgt vid mac)]? = some x := by
  rcases Bool.eq_false_or_eq_true (hit l (tgt vid mac)) with hh | hh
  · obtain ⟨x, hx, hs, e⟩ := hit_some hh
    have hx2 : x ∈ ofVid vid l := mem_ofVid.2 ⟨hx, hs.1⟩
    have hh2 := hit_of (ofVid_sorted h) hx2 hs
    obtain ⟨y, hy, hs2, e2⟩ := hit_some hh2
    have : y = x := same_eq h (mem_ofVid.1 hy).1 hx ⟨hs2.1.trans hs.1.symm, hs2.2.trans hs.2.symm⟩
    subst this
    exact .inr ⟨y, hh, hh2, e, e2⟩
  · refine .inl ⟨hh, ?_⟩
    rcases Bool.eq_false_or_eq_true (hit (ofVid vid l) (tgt vid mac)) with hh2 | hh2
    · obtain ⟨y, hy, hs2, _⟩ := hit_some hh2
      exact absurd hs2 (hit_none h hh y (mem_ofVid.1 hy).1)
    · exact hh2
theorem find_vid {l : List S40} (h : l.Pairwise lx) (vid mac : Int) : findF (ofVid vid l) vid mac = findF l vid mac := by
  unfold findF
  rcases look_vid h vid mac with ⟨h1, h2⟩ | ⟨x, h1, h2, h3, h4⟩
  · rw [h1, h2]; rfl
  · rw [h1, h2, h3, h4]
theorem stat_vid {l : List S40} (h : l.Pairwise lx) (vid mac : Int) : statB (ofVid vid l) vid mac = statB l vid mac := by
  unfold statB
  rcases look_vid h vid mac with ⟨h1, h2⟩ | ⟨x, h1, h2, h3, h4⟩
  · rw [h1, h2]; rfl
  · rw [h1, h2, h3, h4]
theorem drop_mem {l : List S40} (h : l.Pairwise lx) (vid mac : Int) (x : S40) : x ∈ (tdropf l vid mac).2 ↔ x ∈ l ∧ ¬ Same x (tgt vid mac) := by
  unfold tdropf
  by_cases hh : hit l (tgt vid mac) = true
  · rw [if_pos hh]
    obtain ⟨hp, hs⟩ := hit_at hh
    show x ∈ l.eraseIdx _ ↔ _
    rw [mem_erase h hp]
    have : Same x l[pos l (tgt vid mac)] ↔ Same x (tgt vid mac) := by unfold Same at *; omega
    rw [this]
  · rw [if_neg hh]
    exact ⟨fun hx => ⟨hx, hit_none h (by simpa using hh) x hx⟩, And.left⟩
theorem drop_sorted {l : List S40} (h : l.Pairwise lx) (vid mac : Int) : (tdropf l vid mac).2.Pairwise lx := ((Sim.self h).dropf vid mac).2.ord
theorem filter_vid (l : List S40) (p : S40 → Bool) (vid : Int) : ofVid vid (dropP l p) = dropP (ofVid vid l) p := by
  unfold ofVid dropP
  rw [List.filter_filter, List.filter_filter]
  congr 1
  funext x
  exact Bool.and_comm _ _
theorem does_in {l : List S40} (h : l.Pairwise lx) (hl : l.length < 24) (n n2 : Int) (c : S32) (vid : Int) (hc : c.f1 = vid ∨ 2 < c.f0) : (tdoes (ofVid vid l) n2 c).2.1 = ofVid vid (tdoes l n c).2.1 := by
  unfold tdoes
  by_cases h0 : c.f0 = 0
  · have hv : c.f1 = vid := hc.elim id (fun h => by omega)
    rw [if_pos h0, if_pos h0]
    unfold learnf
    rw [hv, stat_vid h]
    split
    · split
      · rfl
      · exact (put_in h hl n n2 ⟨vid, c.f2, c.f3, c.f4, false⟩).symm
    · rfl
  · rw [if_neg h0, if_neg h0]
    by_cases h1 : c.f0 = 1
    · have hv : c.f1 = vid := hc.elim id (fun h => by omega)
      rw [if_pos h1, if_pos h1]
      unfold fixf
      rw [hv]
      split
      · exact (put_in h hl n n2 ⟨vid, c.f2, c.f3, 0, true⟩).symm
      · rfl
    · rw [if_neg h1, if_neg h1]
      by_cases h2 : c.f0 = 2
      · have hv : c.f1 = vid := hc.elim id (fun h => by omega)
        rw [if_pos h2, if_pos h2, hv]
        refine eq_of_mem (drop_sorted (ofVid_sorted h) _ _) (ofVid_sorted (drop_sorted h _ _)) (fun x => ?_)
        show x ∈ (tdropf (ofVid vid l) vid c.f2).2 ↔ x ∈ ofVid vid (tdropf l vid c.f2).2
        rw [drop_mem (ofVid_sorted h), mem_ofVid, mem_ofVid, drop_mem h]
        constructor
        · rintro ⟨⟨a, b⟩, d⟩; exact ⟨⟨a, d⟩, b⟩
        · rintro ⟨⟨a, d⟩, b⟩; exact ⟨⟨a, b⟩, d⟩
      · rw [if_neg h2, if_neg h2]
        by_cases h3 : c.f0 = 3
        · rw [if_pos h3, if_pos h3]; exact (filter_vid l _ vid).symm
        · rw [if_neg h3, if_neg h3]
          by_cases h4 : c.f0 = 4
          · rw [if_pos h4, if_pos h4]; exact (filter_vid l _ vid).symm
          · rw [if_neg h4, if_neg h4]
theorem does_out {l : List S40} (h : l.Pairwise lx) (hl : l.length < 24) (n : Int) (c : S32) (vid : Int) (hv : c.f1 ≠ vid) (hk : ¬ 2 < c.f0) : ofVid vid (tdoes l n c).2.1 = ofVid vid l := by
  unfold tdoes
  by_cases h0 : c.f0 = 0
  · rw [if_pos h0]
    unfold learnf
    split
    · split
      · rfl
      · exact put_out h hl n ⟨c.f1, c.f2, c.f3, c.f4, false⟩ vid hv
    · rfl
  · rw [if_neg h0]
    by_cases h1 : c.f0 = 1
    · rw [if_pos h1]
      unfold fixf
      split
      · exact put_out h hl n ⟨c.f1, c.f2, c.f3, 0, true⟩ vid hv
      · rfl
    · rw [if_neg h1]
      by_cases h2 : c.f0 = 2
      · rw [if_pos h2]
        refine eq_of_mem (ofVid_sorted (drop_sorted h _ _)) (ofVid_sorted h) (fun x => ?_)
        show x ∈ ofVid vid (tdropf l c.f1 c.f2).2 ↔ x ∈ ofVid vid l
        rw [mem_ofVid, mem_ofVid, drop_mem h]
        constructor
        · rintro ⟨⟨a, d⟩, b⟩; exact ⟨a, b⟩
        · rintro ⟨a, b⟩; exact ⟨⟨a, fun hs => hv (hs.1.symm.trans b)⟩, b⟩
      · rw [if_neg h2, if_neg (by omega), if_neg (by omega)]
structure Tri (w0 : World) (base g h : Nat) (v : Value) (l : List S40) (n : Int) (u : Value) (m : List S40) (k : Int) (g2 : Nat) (v2 : Value) (l2 : List S40) (n2 : Int) (W : World) : Prop where
  d : Duo w0 base g h v l n u m k W
  b : Tbl W base g2 v2 l2 n2
  n3 : Apt W g h v u g2
  n4 : ∀ q, Blk v2 q → Apt W g h v u q
section
variable {w0 W W' : World} {base g h g2 h2 : Nat} {v v' v2 v2' u u' x x' : Value} {l l' l2 l2' m m' : List S40} {n n' n2 n2' k k' : Int}
theorem Apt.grow {q : Nat} (a : Apt W g h v u q) (hs : W.heap.size ≤ W'.heap.size) : Apt W' g h v u q := ⟨Nat.lt_of_lt_of_le a.lt hs, a.no⟩
theorem Tri.below (t : Tri w0 base g h v l n u m k g2 v2 l2 n2 W) (hb : Below W.heap.size W W') : Tri w0 base g h v l n u m k g2 v2 l2 n2 W' :=
  ⟨t.d.below hb, t.b.below hb, t.n3.grow hb.size, fun q hq => (t.n4 q hq).grow hb.size⟩
theorem Tri.one (t : Tri w0 base g h v l n u m k g2 v2 l2 n2 W) (d : Duo w0 base g h v' l' n' u' m' k' W') (s : Step W W' g h v u v' u') : Tri w0 base g h v' l' n' u' m' k' g2 v2 l2 n2 W' :=
  ⟨d, t.b.kept s.kept (fun e => t.n3.no (e.imp id (fun e => e.imp id .inl))) (fun q hq e => (t.n4 q hq).no (e.imp id (fun e => e.imp id .inl))), t.n3.step s, fun q hq => (t.n4 q hq).step s⟩
end
def kissgatelaw18_FdbApart.f (l0 : List S32) (a1 : Int) : Option Bool := some true
set_option maxHeartbeats 8000000 in
set_option maxRecDepth 100000 in
theorem apart_great (A0 : Option Addr) (c0 : Nat) (l0 : List S32) (a1 : Int) (w : World) (hr0 : Kd.C k32 w A0 l0.length l0) (hc0 : l0.length ≤ c0) (hm : l0.length ≤ maxLen) (h : greatB l0 = true) :
    Calls Try.prog 3 #[.slice A0 l0.length c0, .int .i64 a1] w fun e w' => e = .returned (.bool true) ∧ Below w.heap.size w w' := by
  have e6 : ∀ args w, (callFunc 6 args).run Try.prog w = .ok (.enter 6 args) w := enters_of Try.func6 (by kernel_rfl) rfl
  have e7 : ∀ args w, (callFunc 7 args).run Try.prog w = .ok (.enter 7 args) w := enters_of Try.func7 (by kernel_rfl) rfl
  have HGR := Aside0.mk (fun (W : World) (hb : Below w.heap.size w W) => great_calls A0 c0 l0 W (Kd.C_below hr0 hb) hc0 hm)
  rw [h] at HGR
  clear h hr0
  go_enter Try.func3, Try.ntmps3
  go_wp2_with (first
    | (go_at_fn 6; refine (alive_calls w).mono ?_; rintro e w1 ⟨rfl, hb1⟩; have HB1 := Aside0.mk hb1; clear hb1)
    | (go_at_fn 7; refine (HGR.out w1 HB1.out).mono ?_; rintro e w2 ⟨rfl, hb2⟩; have HB2 := Aside0.mk (below_step HB1.out hb2); clear hb2))
  go_ret
  exact ⟨rfl, HB2.out⟩
theorem nil_apt {W : World} {g h : Nat} {v u : Value} (q : Nat) (hq : Blk (.slice none 0 0) q) : Apt W g h v u q := by cases hq
theorem Tri.new {w0 W W' : World} {base g h g2 h2 : Nat} {v v2 u : Value} {l l2 m : List S40} {n n2 k : Int} (t : Tri w0 base g h v l n u m k g2 v2 l2 n2 W) (hb : Below W.heap.size W W') (hx : W'.heap[h2]? = some (.cells #[.slice none 0 0, .int .i64 0] 30 (0, 0))) (hh : h2 = W.heap.size) :
    Duo w0 base g2 h2 v2 l2 n2 (.slice none 0 0) [] 0 W' ∧ Tri w0 base g h v l n u m k g2 v2 l2 n2 W' ∧ (g < h2 ∧ h < h2 ∧ (∀ q, Blk v q → q < h2) ∧ (∀ q, Blk u q → q < h2)) := by
  refine ⟨Duo.start t.d.bel t.d.sz t.b hb hx (Nat.le_of_eq hh.symm), t.below hb, ?_, ?_, ?_, ?_⟩
  · have := t.d.a.lt; omega
  · have := t.d.r.lt; omega
  · intro q hq; have := own_lt t.d.a.row q hq; omega
  · intro q hq; have := t.d.r.row.lt q hq; omega
theorem Tri.two' {w0 W W' : World} {base g h g2 h2 : Nat} {v v2 v2' u x x' : Value} {l l2 l2' m m' : List S40} {n n2 n2' k k' : Int} (t : Tri w0 base g h v l n u m k g2 v2 l2 n2 W) (hh2 : g < h2 ∧ h < h2 ∧ (∀ q, Blk v q → q < h2) ∧ (∀ q, Blk u q → q < h2)) (d : Duo w0 base g2 h2 v2' l2' n2' x' m' k' W') (s : Step W W' g2 h2 v2 x v2' x') : Tri w0 base g h v l n u m k g2 v2' l2' n2' W' := by
  have out : ∀ q, q < h2 → (q = g ∨ q = h ∨ Blk v q ∨ Blk u q) → ¬ (q = g2 ∨ q = h2 ∨ Blk v2 q) := by
    rintro q hq hc (e | e | e)
    · subst e; exact t.n3.no hc
    · omega
    · exact (t.n4 q e).no hc
  have hsz := s.kept.1
  refine ⟨⟨t.d.a.kept s.kept (out g hh2.1 (.inl rfl)) (fun q hq => out q (hh2.2.2.1 q hq) (.inr (.inr (.inl hq)))), t.d.r.kept s.kept (out h hh2.2.1 (.inr (.inl rfl))) (fun q hq => out q (hh2.2.2.2 q hq) (.inr (.inr (.inr hq)))), t.d.ne, t.d.n1, t.d.n2, d.bel, d.sz⟩, d.a, t.n3.grow hsz, fun q hq => ?_⟩
  rcases s.own1 q hq with e | e
  · exact (t.n4 q e).grow hsz
  · refine ⟨own_lt d.a.row q hq, ?_⟩
    rintro (c | c | c | c)
    · have := t.d.a.lt; omega
    · have := t.d.r.lt; omega
    · have := own_lt t.d.a.row q c; omega
    · have := t.d.r.row.lt q c; omega
set_option maxHeartbeats 16000000 in
set_option maxRecDepth 100000 in
theorem apart_walk (A0 : Option Addr) (c0 : Nat) (l0 : List S32) (vid : Int) (w : World) (hr0 : Kd.C k32 w A0 l0.length l0) (hc0 : l0.length ≤ c0) (hl0 : l0.length ≤ 120) (hg : greatB l0 = false) :
    Calls Try.prog 3 #[.slice A0 l0.length c0, .int .i64 vid] w fun e w' => e = .returned (.bool true) ∧ Below w.heap.size w w' := by
  have mixed : Try.prog.follows .mixedOrders = true := by kernel_rfl
  have e6 : ∀ args w, (callFunc 6 args).run Try.prog w = .ok (.enter 6 args) w := enters_of Try.func6 (by kernel_rfl) rfl
  have e7 : ∀ args w, (callFunc 7 args).run Try.prog w = .ok (.enter 7 args) w := enters_of Try.func7 (by kernel_rfl) rfl
  have e8 : ∀ args w, (callFunc 8 args).run Try.prog w = .ok (.enter 8 args) w := enters_of Try.func8 (by kernel_rfl) rfl
  have e9 : ∀ args w, (callFunc 9 args).run Try.prog w = .ok (.enter 9 args) w := enters_of Try.func9 (by kernel_rfl) rfl
  have e10 : ∀ args w, (callFunc 10 args).run Try.prog w = .ok (.enter 10 args) w := enters_of Try.func10 (by kernel_rfl) rfl
  have HGR := Aside0.mk (fun (W : World) (hb : Below w.heap.size w W) => great_calls A0 c0 l0 W (Kd.C_below hr0 hb) hc0 (by unfold maxLen; omega))
  rw [hg] at HGR
  have HR0 := Aside0.mk hr0
  clear hr0 hg
  go_enter Try.func3, Try.ntmps3
  go_wp2_with (first
    | (go_at_fn 6; refine (alive_calls w).mono ?_; rintro e w1 ⟨rfl, hb1⟩; have HB1 := Aside0.mk hb1; clear hb1)
    | (go_at_fn 7; refine (HGR.out w1 HB1.out).mono ?_; rintro e w2 ⟨rfl, hb2⟩; have HB2 := Aside0.mk (below_step HB1.out hb2); clear hb2)
    | (go_at_fn 8; with_reducible refine (New_calls w.heap.size w2 HB2.out.size).mono ?_; rintro e w3 ⟨g, rfl, ht3, hb3, _⟩; have HT3 := Aside0.mk ht3; have HB3 := Aside0.mk (below_step HB2.out hb3); clear ht3 hb3)
    | (go_at_fn 8; with_reducible refine (New_calls w.heap.size w3 HB3.out.size).mono ?_; rintro e w4 ⟨g2, rfl, ht4, hb4, hg4⟩; have HT4 := Aside0.mk ht4; have HB4 := Aside0.mk hb4; have HG4 := Aside0.mk hg4; clear ht4 hb4 hg4)
    | ((with_reducible refine gate_dst (N := 17) rfl ?_); refine box_event ?hg (N := 17) ?hd (cs := #[.slice none 0 0, .int .i64 0]) (t := 30) ?hr ?_; (case hd => rfl); (case hg => rfl); (case hr => first | (go_simp; done) | (go_simp; rfl)); intro h hg w6 hbox hb6; have HX6 := Aside0.mk hbox; have HB6 := Aside0.mk hb6; have HH6 := Aside0.mk hg; clear hbox hb6 hg))
  have B34 := below_step HB4.out HB6.out
  have BW4 := below_step HB3.out HB4.out
  have D6 : Duo w w.heap.size g h (.slice none 0 0) [] 0 (.slice none 0 0) [] 0 w6 := Duo.start BW4 BW4.size (HT3.out.below HB4.out) HB6.out HX6.out (Nat.le_of_eq HH6.out.symm)
  have T6 : Tri w w.heap.size g h (.slice none 0 0) [] 0 (.slice none 0 0) [] 0 g2 (.slice none 0 0) [] 0 w6 := by
    refine ⟨D6, HT4.out.below HB6.out, ⟨(HT4.out.below HB6.out).lt, ?_⟩, fun q hq => nil_apt q hq⟩
    rintro (e | e | e | e)
    · have h1 := HT3.out.lt; have h2 := HG4.out; omega
    · have h1 := HT4.out.lt; have h2 := HH6.out; omega
    · cases e
    · cases e
  have HT6 := Aside0.mk T6
  clear B34 BW4 D6 T6 HB1 HB2 HB3 HT3 HT4 HB4 HG4 HX6 HB6 HH6 HGR
  go_loopg [20] l0.length (fun gk s20 wr => ∃ (i : Nat) (v : Value) (L : List S40) (n : Int) (u : Value) (M : List S40) (v2 : Value) (n2 : Int), s20 = .int .i64 i ∧ i ≤ l0.length ∧ l0.length - i ≤ gk ∧ L.length < 24 ∧ Aside0 (Sim L M) ∧ 0 ≤ n ∧ n ≤ i ∧ 0 ≤ n2 ∧ n2 ≤ i ∧ Aside0 (Tri w w.heap.size g h v L n u M n g2 v2 (ofVid vid L) n2 wr))
  case atStart => exact ⟨0, _, [], 0, _, [], _, 0, rfl, Nat.zero_le _, by omega, by decide, ⟨Sim.nil⟩, by decide, by decide, by decide, by decide, HT6⟩
  case round =>
    clear HT6
    obtain ⟨i, v, L, n, u, M, v2, n2, rfl, hil, hgk, hLl, HSM, hn0, hn1, hm0, hm1, HT⟩ := hrel
    by_cases hlt : i < l0.length
    · have hlz : (i : Int) < (l0.length : Int) := by omega
      obtain ⟨ad, ea, hx0, hx1, hx2, hx3, hx4⟩ := at_T32 (Kd.C_below HR0.out HT.out.d.bel) (i : Int) (by omega) hlz
      rw [rd32 hlt, Int.toNat_natCast] at hx0 hx1 hx2 hx3 hx4
      subst ea
      have htl := tdoes_len (Nat.le_of_lt hLl) n l0[i]
      have hul : (ofVid vid L).length ≤ 24 := Nat.le_trans (ofVid_len vid L) (Nat.le_of_lt hLl)
      have htl2 := tdoes_len hul n2 l0[i]
      obtain ⟨hs1, hs2, hs3⟩ := HSM.out.does n l0[i]
      have HDC := Aside0.mk (fun (W : World) (d : Duo w w.heap.size g h v L n u M n W) => does_calls w.heap.size g h v u L M n n w W d HSM.out.ord (by omega) (by have := HSM.out.len; omega) hn0 (by omega) hn0 (by omega) l0[i])
      rw [← hs1, ← hs2] at HDC
      have HD2 := Aside0.mk (fun (W : World) (h2 : Nat) (d : Duo w w.heap.size g2 h2 v2 (ofVid vid L) n2 (.slice none 0 0) [] 0 W) => does_calls w.heap.size g2 h2 v2 (.slice none 0 0) (ofVid vid L) [] n2 0 w W d (ofVid_sorted HSM.out.ord) (by omega) (by decide) hm0 (by omega) (by decide) (by decide) l0[i])
      have HIN := Aside0.mk (fun (hc : l0[i].f1 = vid ∨ 2 < l0[i].f0) => does_in HSM.out.ord hLl n n2 l0[i] vid hc)
      have HOUT := Aside0.mk (fun (hv : l0[i].f1 ≠ vid) (hk : ¬ 2 < l0[i].f0) => does_out HSM.out.ord hLl n l0[i] vid hv hk)
      have hord := hs3.ord
      have hlen := hs3.len
      generalize (rdoes M n l0[i]).2.1 = z at *
      generalize ((tdoes (ofVid vid L) n2 l0[i]).1 == (rdoes [] 0 l0[i]).1) = bb at HD2
      generalize (rdoes [] 0 l0[i]).2.1 = zz at *
      generalize (rdoes [] 0 l0[i]).2.2 = zk at *
      generalize tdoes L n l0[i] = y at *
      generalize tdoes (ofVid vid L) n2 l0[i] = y' at *
      generalize l0[i] = x at *
      obtain ⟨y0, y1, y2⟩ := y
      obtain ⟨t0, t1, t2⟩ := y'
      obtain ⟨x0, x1, x2, x3, x4⟩ := x
      dsimp only at hx0 hx1 hx2 hx3 hx4 HDC HD2 htl htl2 hs3 hlen hord HIN HOUT
      have HSZ := Aside0.mk hs3
      have hyl : y1.length ≤ 24 := htl.1
      have hzz : (z.length : Int) = (y1.length : Int) := by omega
      have HFC := Aside0.mk (fun (W : World) (v' : Value) (t : Tbl W w.heap.size g v' y1 y2) => Find_calls w.heap.size g v' y1 y2 W t hord (by omega) vid x2)
      have HFC2 := Aside0.mk (fun (W : World) (v' : Value) (m' : Int) (t : Tbl W w.heap.size g2 v' (ofVid vid y1) m') => Find_calls w.heap.size g2 v' (ofVid vid y1) m' W t (ofVid_sorted hord) (by have := ofVid_len vid y1; omega) vid x2)
      rw [find_vid hord] at HFC2
      generalize findF y1 vid x2 = ff at *
      have HTL := Aside0.mk htl
      have HTL2 := Aside0.mk htl2
      clear htl htl2 hs1 hs2 hs3 hord hlen hul
      go_upto_region 9 with (first
        | ((with_reducible refine gate_dst (N := 9) rfl ?_); refine box_event ?hg (N := 9) ?hd (cs := #[.int .i64 0, .int .i64 0, .int .i64 0, .int .i64 0, .int .i64 0]) (t := 32) ?hr ?_; (case hd => rfl); (case hg => rfl); (case hr => first | (go_simp; done) | (go_simp; rfl)); intro cb hg w4 hbox hb4; obtain ⟨hcz0, hcz1, hcz2, hcz3, hcz4⟩ := ccells_of hbox; have hfz0 := blk_frozen hbox 0; have hfz1 := blk_frozen hbox 1; have hfz2 := blk_frozen hbox 2; have hfz3 := blk_frozen hbox 3; have hfz4 := blk_frozen hbox 4; have BX := Aside0.mk hbox; have KX := Aside0.mk hb4; have HGB := Aside0.mk hg; clear hbox hb4 hg))
      have B5 := lay5_bel32 KX.out (Nat.le_of_eq HGB.out.symm) ⟨x0, x1, x2, x3, x4⟩
      have X5 := lay5_blk32 BX.out ⟨x0, x1, x2, x3, x4⟩
      dsimp only at B5 X5
      generalize ((((w4.setCell ⟨cb, 0, none⟩ (.int .i64 x0)).setCell ⟨cb, 1, none⟩ (.int .i64 x1)).setCell ⟨cb, 2, none⟩ (.int .i64 x2)).setCell ⟨cb, 3, none⟩ (.int .i64 x3)).setCell ⟨cb, 4, none⟩ (.int .i64 x4) = w5 at *
      obtain ⟨hz0, hz1, hz2, hz3, hz4⟩ := ccells_of X5
      have hap := Apt.new HT.out.d B5 cb (Nat.le_of_eq HGB.out.symm) (blk_lt X5)
      have hcg2 : cb ≠ g2 := fun e => by have h1 := HT.out.b.lt; have h2 := HGB.out; omega
      have hcv2 : ¬ Blk v2 cb := fun e => by have h1 := own_lt HT.out.b.row cb e; have h2 := HGB.out; omega
      have HX5 := Aside0.mk X5
      have HAP := Aside0.mk hap
      have HT5 := Aside0.mk (HT.out.below B5)
      clear hcz0 hcz1 hcz2 hcz3 hcz4 hfz0 hfz1 hfz2 hfz3 hfz4 BX KX HGB X5 B5 hx0 hx1 hx2 hx3 hx4 hap HT HSM HR0
      go_upto_region 10 with (go_at_fn 9; refine (HDC.out w5 HT5.out.d).mono ?_; rintro e w7 ⟨v', u', rfl, d7, s7⟩; have hx7 := HAP.out.blk s7 HX5.out; obtain ⟨hy0, hy1, hy2, hy3, hy4⟩ := ccells_of hx7; have HX7 := Aside0.mk hx7; have HT7 := Aside0.mk (HT5.out.one d7 s7); clear hx7 d7 s7)
      clear HDC HT5 HAP HX5
      have key : (x1 = vid) ∨ (x1 ≠ vid ∧ 2 < x0) ∨ (x1 ≠ vid ∧ ¬ 2 < x0) := by omega
      rcases key with k1 | ⟨k1, k2⟩ | ⟨k1, k2⟩
      · have ENT := Aside0.mk (show x1 = vid ∨ 2 < x0 from .inl k1)
        have d1 : (x1 == vid) = true := by simpa using k1
        clear k1
        by_cases h24 : z.length < 24
        · have hz24 : ¬ ((z.length : Int) ≥ 24) := by omega
          go_wp2_with (first
            | ((with_reducible refine gate_dst (N := 39) rfl ?_); refine box_event ?hg (N := 39) ?hd (cs := #[.slice none 0 0, .int .i64 0]) (t := 30) ?hr ?_; (case hd => rfl); (case hg => rfl); (case hr => first | (go_simp; done) | (go_simp; rfl)); intro h2 hg w8 hbox hb8; obtain ⟨D8, T8, lt8⟩ := HT7.out.new hb8 hbox hg; have HD8 := Aside0.mk D8; have HT8 := Aside0.mk T8; have HL8 := Aside0.mk lt8; have hx8 := blk_below HX7.out hb8; obtain ⟨hv0, hv1, hv2, hv3, hv4⟩ := ccells_of hx8; have HX8 := Aside0.mk hx8; have hch2 : cb ≠ h2 := (fun e => by have h1 := blk_lt HX7.out; omega); clear hbox hb8 hg D8 T8 lt8 hx8)
            | (go_at_fn 9; refine (HD2.out w8 h2 HD8.out).mono ?_; rintro e w9 ⟨v2', un, rfl, d9, s9⟩; have hx9 := blk_kept HX8.out s9.kept (fun e => e.elim hcg2 (fun e => e.elim hch2 hcv2)); have T9 := HT8.out.two' HL8.out d9 s9; rw [HIN.out ENT.out] at T9; have HX9 := Aside0.mk hx9; obtain ⟨ha0, ha1, ha2, ha3, ha4⟩ := ccells_of hx9; obtain ⟨A9, c9, e9, _, hC9⟩ := T9.d.r.open; have hu9 : w9.cell? ⟨h, 0, none⟩ = some (.slice A9 z.length c9) := (blk_cell T9.d.r.cell 0).trans (by rw [e9]; rfl); have HT9 := Aside0.mk T9; clear hx9 d9 s9 T9 e9 hC9))
          go_wp2_with fail
          have HTd : Aside0 (Tri w w.heap.size g h v' y1 y2 u' z y2 g2 v2' (ofVid vid y1) t2 w9.drew) := ⟨HT9.out.below (below_drew1 (Below.refl _ _))⟩
          have hxd : w9.drew.heap[cb]? = some (.cells #[.int .i64 x0, .int .i64 x1, .int .i64 x2, .int .i64 x3, .int .i64 x4] 32 (0, 0)) := HX9.out
          go_region_held3 (fun W => W.cell? ⟨cb, 2, none⟩ = some (.int .i64 x2)) (first | (exact (ccells_of (by assumption)).2.2.1)) (first
            | (go_at_call 10; with_reducible refine (HFC.out _ _ HTb.out.d.a).mono ?_; rintro e wB ⟨rfl, hbB⟩; have hxB := blk_below hxA hbB; have HTF := Aside0.mk (HTb.out.below hbB); clear hbB)
            | (go_at_call 10; with_reducible refine (HFC2.out _ _ _ HTa.out.b).mono ?_; rintro e wB ⟨rfl, hbB⟩; have hxB := blk_below hxA hbB; have HTF := Aside0.mk (HTa.out.below hbB); clear hbB)
            | (go_at_call 10; with_reducible refine (HFC.out _ _ HTd.out.d.a).mono ?_; rintro e wA ⟨rfl, hbA⟩; have hxA := blk_below hxd hbA; have HTa := Aside0.mk (HTd.out.below hbA); clear hbA)
            | (go_at_call 10; with_reducible refine (HFC2.out _ _ _ HTd.out.b).mono ?_; rintro e wA ⟨rfl, hbA⟩; have hxA := blk_below hxd hbA; have HTb := Aside0.mk (HTd.out.below hbA); clear hbA))
          all_goals
            go_wp2
            go_roundg (l0.length - (i + 1))
            case measure => omega
            case rel => exact ⟨i + 1, v', y1, y2, u', z, v2', t2, by go_num, by omega, Nat.le_refl _, by omega, HSZ, by have := HTL.out.2; omega, by have := HTL.out.2; omega, by have := HTL2.out.2; omega, by have := HTL2.out.2; omega, HTF⟩
        · have hz24 : ((z.length : Int) ≥ 24) := by omega
          go_wp2_with (first
            | ((with_reducible refine gate_dst (N := 39) rfl ?_); refine box_event ?hg (N := 39) ?hd (cs := #[.slice none 0 0, .int .i64 0]) (t := 30) ?hr ?_; (case hd => rfl); (case hg => rfl); (case hr => first | (go_simp; done) | (go_simp; rfl)); intro h2 hg w8 hbox hb8; obtain ⟨D8, T8, lt8⟩ := HT7.out.new hb8 hbox hg; have HD8 := Aside0.mk D8; have HT8 := Aside0.mk T8; have HL8 := Aside0.mk lt8; have hx8 := blk_below HX7.out hb8; obtain ⟨hv0, hv1, hv2, hv3, hv4⟩ := ccells_of hx8; have HX8 := Aside0.mk hx8; have hch2 : cb ≠ h2 := (fun e => by have h1 := blk_lt HX7.out; omega); clear hbox hb8 hg D8 T8 lt8 hx8)
            | (go_at_fn 9; refine (HD2.out w8 h2 HD8.out).mono ?_; rintro e w9 ⟨v2', un, rfl, d9, s9⟩; have hx9 := blk_kept HX8.out s9.kept (fun e => e.elim hcg2 (fun e => e.elim hch2 hcv2)); have T9 := HT8.out.two' HL8.out d9 s9; rw [HIN.out ENT.out] at T9; have HX9 := Aside0.mk hx9; obtain ⟨ha0, ha1, ha2, ha3, ha4⟩ := ccells_of hx9; obtain ⟨A9, c9, e9, _, hC9⟩ := T9.d.r.open; have hu9 : w9.cell? ⟨h, 0, none⟩ = some (.slice A9 z.length c9) := (blk_cell T9.d.r.cell 0).trans (by rw [e9]; rfl); have HT9 := Aside0.mk T9; clear hx9 d9 s9 T9 e9 hC9))
          go_ret
          exact ⟨rfl, HT9.out.d.bel⟩
      · have ENT := Aside0.mk (show x1 = vid ∨ 2 < x0 from .inr k2)
        have d1 : (x1 == vid) = false := by simpa using k1
        have d2 : decide (2 < x0) = true := decide_eq_true k2
        clear k1
        by_cases h24 : z.length < 24
        · have hz24 : ¬ ((z.length : Int) ≥ 24) := by omega
          go_wp2_with (first
            | ((with_reducible refine gate_dst (N := 39) rfl ?_); refine box_event ?hg (N := 39) ?hd (cs := #[.slice none 0 0, .int .i64 0]) (t := 30) ?hr ?_; (case hd => rfl); (case hg => rfl); (case hr => first | (go_simp; done) | (go_simp; rfl)); intro h2 hg w8 hbox hb8; obtain ⟨D8, T8, lt8⟩ := HT7.out.new hb8 hbox hg; have HD8 := Aside0.mk D8; have HT8 := Aside0.mk T8; have HL8 := Aside0.mk lt8; have hx8 := blk_below HX7.out hb8; obtain ⟨hv0, hv1, hv2, hv3, hv4⟩ := ccells_of hx8; have HX8 := Aside0.mk hx8; have hch2 : cb ≠ h2 := (fun e => by have h1 := blk_lt HX7.out; omega); clear hbox hb8 hg D8 T8 lt8 hx8)
            | (go_at_fn 9; refine (HD2.out w8 h2 HD8.out).mono ?_; rintro e w9 ⟨v2', un, rfl, d9, s9⟩; have hx9 := blk_kept HX8.out s9.kept (fun e => e.elim hcg2 (fun e => e.elim hch2 hcv2)); have T9 := HT8.out.two' HL8.out d9 s9; rw [HIN.out ENT.out] at T9; have HX9 := Aside0.mk hx9; obtain ⟨ha0, ha1, ha2, ha3, ha4⟩ := ccells_of hx9; obtain ⟨A9, c9, e9, _, hC9⟩ := T9.d.r.open; have hu9 : w9.cell? ⟨h, 0, none⟩ = some (.slice A9 z.length c9) := (blk_cell T9.d.r.cell 0).trans (by rw [e9]; rfl); have HT9 := Aside0.mk T9; clear hx9 d9 s9 T9 e9 hC9))
          go_wp2_with fail
          have HTd : Aside0 (Tri w w.heap.size g h v' y1 y2 u' z y2 g2 v2' (ofVid vid y1) t2 w9.drew) := ⟨HT9.out.below (below_drew1 (Below.refl _ _))⟩
          have hxd : w9.drew.heap[cb]? = some (.cells #[.int .i64 x0, .int .i64 x1, .int .i64 x2, .int .i64 x3, .int .i64 x4] 32 (0, 0)) := HX9.out
          go_region_held3 (fun W => W.cell? ⟨cb, 2, none⟩ = some (.int .i64 x2)) (first | (exact (ccells_of (by assumption)).2.2.1)) (first
            | (go_at_call 10; with_reducible refine (HFC.out _ _ HTb.out.d.a).mono ?_; rintro e wB ⟨rfl, hbB⟩; have hxB := blk_below hxA hbB; have HTF := Aside0.mk (HTb.out.below hbB); clear hbB)
            | (go_at_call 10; with_reducible refine (HFC2.out _ _ _ HTa.out.b).mono ?_; rintro e wB ⟨rfl, hbB⟩; have hxB := blk_below hxA hbB; have HTF := Aside0.mk (HTa.out.below hbB); clear hbB)
            | (go_at_call 10; with_reducible refine (HFC.out _ _ HTd.out.d.a).mono ?_; rintro e wA ⟨rfl, hbA⟩; have hxA := blk_below hxd hbA; have HTa := Aside0.mk (HTd.out.below hbA); clear hbA)
            | (go_at_call 10; with_reducible refine (HFC2.out _ _ _ HTd.out.b).mono ?_; rintro e wA ⟨rfl, hbA⟩; have hxA := blk_below hxd hbA; have HTb := Aside0.mk (HTd.out.below hbA); clear hbA))
          all_goals
            go_wp2
            go_roundg (l0.length - (i + 1))
            case measure => omega
            case rel => exact ⟨i + 1, v', y1, y2, u', z, v2', t2, by go_num, by omega, Nat.le_refl _, by omega, HSZ, by have := HTL.out.2; omega, by have := HTL.out.2; omega, by have := HTL2.out.2; omega, by have := HTL2.out.2; omega, HTF⟩
        · have hz24 : ((z.length : Int) ≥ 24) := by omega
          go_wp2_with (first
            | ((with_reducible refine gate_dst (N := 39) rfl ?_); refine box_event ?hg (N := 39) ?hd (cs := #[.slice none 0 0, .int .i64 0]) (t := 30) ?hr ?_; (case hd => rfl); (case hg => rfl); (case hr => first | (go_simp; done) | (go_simp; rfl)); intro h2 hg w8 hbox hb8; obtain ⟨D8, T8, lt8⟩ := HT7.out.new hb8 hbox hg; have HD8 := Aside0.mk D8; have HT8 := Aside0.mk T8; have HL8 := Aside0.mk lt8; have hx8 := blk_below HX7.out hb8; obtain ⟨hv0, hv1, hv2, hv3, hv4⟩ := ccells_of hx8; have HX8 := Aside0.mk hx8; have hch2 : cb ≠ h2 := (fun e => by have h1 := blk_lt HX7.out; omega); clear hbox hb8 hg D8 T8 lt8 hx8)
            | (go_at_fn 9; refine (HD2.out w8 h2 HD8.out).mono ?_; rintro e w9 ⟨v2', un, rfl, d9, s9⟩; have hx9 := blk_kept HX8.out s9.kept (fun e => e.elim hcg2 (fun e => e.elim hch2 hcv2)); have T9 := HT8.out.two' HL8.out d9 s9; rw [HIN.out ENT.out] at T9; have HX9 := Aside0.mk hx9; obtain ⟨ha0, ha1, ha2, ha3, ha4⟩ := ccells_of hx9; obtain ⟨A9, c9, e9, _, hC9⟩ := T9.d.r.open; have hu9 : w9.cell? ⟨h, 0, none⟩ = some (.slice A9 z.length c9) := (blk_cell T9.d.r.cell 0).trans (by rw [e9]; rfl); have HT9 := Aside0.mk T9; clear hx9 d9 s9 T9 e9 hC9))
          go_ret
          exact ⟨rfl, HT9.out.d.bel⟩
      · have hw := HOUT.out k1 (by omega)
        have d1 : (x1 == vid) = false := by simpa using k1
        have d2 : decide (2 < x0) = false := decide_eq_false k2
        rw [← hw] at HT7
        obtain ⟨A9, c9, e9, _, hC9⟩ := HT7.out.d.r.open
        have hu9 : w7.cell? ⟨h, 0, none⟩ = some (.slice A9 z.length c9) := (blk_cell HT7.out.d.r.cell 0).trans (by rw [e9]; rfl)
        clear k1 hw e9 hC9
        by_cases h24 : z.length < 24
        · have hz24 : ¬ ((z.length : Int) ≥ 24) := by omega
          go_wp2_with fail
          have HTd : Aside0 (Tri w w.heap.size g h v' y1 y2 u' z y2 g2 v2 (ofVid vid y1) n2 w7.drew) := ⟨HT7.out.below (below_drew1 (Below.refl _ _))⟩
          have hxd : w7.drew.heap[cb]? = some (.cells #[.int .i64 x0, .int .i64 x1, .int .i64 x2, .int .i64 x3, .int .i64 x4] 32 (0, 0)) := HX7.out
          go_region_held3 (fun W => W.cell? ⟨cb, 2, none⟩ = some (.int .i64 x2)) (first | (exact (ccells_of (by assumption)).2.2.1)) (first
            | (go_at_call 10; with_reducible refine (HFC.out _ _ HTb.out.d.a).mono ?_; rintro e wB ⟨rfl, hbB⟩; have hxB := blk_below hxA hbB; have HTF := Aside0.mk (HTb.out.below hbB); clear hbB)
            | (go_at_call 10; with_reducible refine (HFC2.out _ _ _ HTa.out.b).mono ?_; rintro e wB ⟨rfl, hbB⟩; have hxB := blk_below hxA hbB; have HTF := Aside0.mk (HTa.out.below hbB); clear hbB)
            | (go_at_call 10; with_reducible refine (HFC.out _ _ HTd.out.d.a).mono ?_; rintro e wA ⟨rfl, hbA⟩; have hxA := blk_below hxd hbA; have HTa := Aside0.mk (HTd.out.below hbA); clear hbA)
            | (go_at_call 10; with_reducible refine (HFC2.out _ _ _ HTd.out.b).mono ?_; rintro e wA ⟨rfl, hbA⟩; have hxA := blk_below hxd hbA; have HTb := Aside0.mk (HTd.out.below hbA); clear hbA))
          all_goals
            go_wp2
            go_roundg (l0.length - (i + 1))
            case measure => omega
            case rel => exact ⟨i + 1, v', y1, y2, u', z, v2, n2, by go_num, by omega, Nat.le_refl _, by omega, HSZ, by have := HTL.out.2; omega, by have := HTL.out.2; omega, hm0, by omega, HTF⟩
        · have hz24 : ((z.length : Int) ≥ 24) := by omega
          go_wp2
          go_ret
          exact ⟨rfl, HT7.out.d.bel⟩
    · have e : i = l0.length := by omega
      subst e
      go_wp2
      go_ret
      exact ⟨rfl, HT.out.d.bel⟩
theorem kissgatelaw18_FdbApart.calls (A0 : Option Addr) (c0 : Nat) (l0 : List S32) (a1 : Int) (r : Bool) (w : World) (hr0 : Kd.C k32 w A0 l0.length l0) (hc0 : l0.length ≤ c0) (hT : r = true) (h : kissgatelaw18_FdbApart.f l0 a1 = some r) :
    Calls Try.prog 3 #[.slice A0 l0.length c0, .int .i64 a1] w fun e w' => e = .returned (.bool r) ∧ Below w.heap.size w w' := by
  subst hT
  rcases Bool.eq_false_or_eq_true (greatB l0) with hg | hg
  · exact apart_great A0 c0 l0 a1 w hr0 hc0 hr0.2.1 hg
  · have hl : l0.length ≤ 120 := by
      unfold greatB at hg
      simp only [Bool.or_eq_false_iff, decide_eq_false_iff_not] at hg
      omega
    exact apart_walk A0 c0 l0 a1 w hr0 hc0 hl hg
end Go.Proofs.Ytlehkobakddgbaa.QFdb
namespace Go.Proofs.Ytlehkobakddgbaa.Opn
open Go.ChangeShapes Go.WideShapes Go.Proofs.YtlehkobakddgbaaW.PrintWords
variable {P : Program}
def Opens {α : Type} (P : Program) (t : TypeId) (d : Kd α) (good : α → Prop) : Prop :=
  ∀ (H : Type) (enc : TypeId × Value → H) (w : World) (fuel : Nat) (cs : List Value) (x : DataW H × List MemPlace),
    DataW.trod enc P w 0 (fun _ => true) true fuel t cs = some x → (∀ n ∈ x.1.weights P t, n ≤ reachBytes) → ∃ a : α, d.K w a cs ∧ good a
theorem opens_int {t : TypeId} {k : IntKind} (hu : P.underlying t = some (.int k)) : Opens P t (Kd.int k) (fun n => (Lit.int k n).wf = true) := by
  intro H enc w fuel cs x h _
  obtain ⟨n, rfl, _, hw⟩ := DataW.trod_int hu h
  exact ⟨n, rfl, hw⟩
theorem weightsAll_mem {H : Type} {e : TypeId} : ∀ {l : List (DataW H)} {d : DataW H}, d ∈ l → ∀ n ∈ d.weights P e, n ∈ DataW.weightsAll P e l
  | [], d, h, _, _ => by simp at h
  | d0 :: l, d, h, n, hn => by
    simp only [DataW.weightsAll, List.mem_append]
    rcases List.mem_cons.1 h with rfl | h
    · exact Or.inl hn
    · exact Or.inr (weightsAll_mem h n hn)
theorem add_at_ (a : Addr) (i j : Nat) : (a.add i).add j = a.add (i + j) := by
  unfold Addr.add
  by_cases hi : i = 0
  · subst hi; simp
  · by_cases hj : j = 0
    · subst hj; simp
    · simp [hi, hj, Nat.add_assoc]
theorem choose_list {α : Type} {Q : Nat → α → Prop} : ∀ (n : Nat), (∀ i, i < n → ∃ a, Q i a) → ∃ l : List α, l.length = n ∧ ∀ i a, l[i]? = some a → Q i a
  | 0, _ => ⟨[], rfl, fun i a h => by simp at h⟩
  | n + 1, h => by
    obtain ⟨l, hl, hq⟩ := choose_list n (fun i hi => h i (by omega))
    obtain ⟨a, ha⟩ := h n (by omega)
    refine ⟨l ++ [a], by simp [hl], fun i b hb => ?_⟩
    rcases Nat.lt_or_ge i l.length with hi | hi
    · rw [List.getElem?_append_left hi] at hb
      exact hq i b hb
    · rw [List.getElem?_append_right hi] at hb
      have hlt := (List.getElem?_eq_some_iff.1 hb).1
      simp at hlt
      have e : i = n := by omega
      subst e
      rw [show i - l.length = 0 from by omega] at hb
      have hb' : a = b := by simpa using hb
      subst hb'
      exact ha
theorem opens_slice_row {α : Type} {t e : TypeId} {d : Kd α} {good : α → Prop} (hu : P.underlying t = some (.slice e)) (hC : P.cellsOf e = d.sz) {B : Nat} (hB : P.bytesOf e = B) (ho : Opens P e d good)
    (H : Type) (enc : TypeId × Value → H) (w : World) (fuel : Nat) (A : Option Addr) (len cap : Nat) (x : DataW H × List MemPlace)
    (h : DataW.trod enc P w 0 (fun _ => true) true fuel t [.slice A len cap] = some x) (hz : ∀ n ∈ x.1.weights P t, n ≤ reachBytes) :
    ∃ l : List α, l.length = len ∧ len ≤ cap ∧ d.C w A len l ∧ len ≤ maxLen ∧ len * B ≤ 140737488351232 ∧ ∀ a ∈ l, good a := by
  rcases DataW.trod_slice hu h with ⟨h0, _⟩ | ⟨a, len', cap', elems, rest, n, _, hcs, hx, _, hl, hm, hlen, hel, _, _⟩
  · simp only [List.cons.injEq, Value.slice.injEq, and_true] at h0
    obtain ⟨rfl, rfl, rfl⟩ := h0
    exact ⟨[], rfl, Nat.le_refl _, ⟨rfl, Nat.zero_le _, fun h => absurd h (by omega)⟩, Nat.zero_le _, by simp, fun a ha => by simp at ha⟩
  · simp only [List.cons.injEq, Value.slice.injEq, and_true] at hcs
    obtain ⟨rfl, rfl, rfl⟩ := hcs
    have each : ∀ i, i < len → ∃ b : α, (∃ c, c.length = d.sz ∧ d.K w b c ∧ ∀ j u, c[j]? = some u → w.cell? (a.add (i * d.sz + j)) = some u) ∧ good b := by
      intro i hi
      have h1 := hel i hi
      have hie : i < elems.length := by omega
      rw [List.getElem?_eq_getElem hie, Option.bind_eq_some_iff] at h1
      obtain ⟨cs', hc, ht'⟩ := h1
      have hw' : ∀ n ∈ (elems[i]).1.weights P e, n ≤ reachBytes := by
        intro m hm'
        refine hz m ?_
        rw [hx]
        simp only [DataW.weights, hu]
        refine List.mem_cons_of_mem _ (List.mem_append_left _ ?_)
        exact weightsAll_mem (List.mem_map.2 ⟨elems[i], List.getElem_mem hie, rfl⟩) m hm'
      obtain ⟨b, hb, hg⟩ := ho H enc w _ cs' _ ht' hw'
      obtain ⟨_, hcl, hat⟩ := World.cells?_some hc
      refine ⟨b, ⟨cs', by rw [hcl, hC], hb, fun j u hu' => ?_⟩, hg⟩
      have hj : j < P.cellsOf e := by
        have := (List.getElem?_eq_some_iff.1 hu').1
        omega
      have := hat j hj
      rw [hC] at this
      rw [← add_at_, this, hu']
    obtain ⟨l, hll, hq⟩ := choose_list len each
    refine ⟨l, hll, hl, ⟨hll, by simp only [maxLen] at hm; omega, fun _ => ⟨a, rfl, fun j p hj => (hq j p hj).1⟩⟩, by omega, ?_, fun b hb => ?_⟩
    · have h1 := hz ((elems.length + rest.length) * P.bytesOf e) (by rw [hx]; simp [DataW.weights, hu])
      rw [hB] at h1
      simp only [reachBytes] at h1
      refine Nat.le_trans (Nat.mul_le_mul_right _ ?_) h1
      omega
    · obtain ⟨i, hi⟩ := List.getElem?_of_mem hb
      exact (hq i b hi).2
def OpensFs {α : Type} (P : Program) (off : Nat) (fs : List Field) (d : Kd α) (good : α → Prop) : Prop :=
  ∀ (H : Type) (enc : TypeId × Value → H) (w : World) (fuel : Nat) (cs : List Value) (ys : List (DataW H × List MemPlace)),
    cs.length = off + d.sz → ys.length = fs.length → (∀ (i : Nat) (f : Field), fs[i]? = some f → DataW.trod enc P w 0 (fun _ => true) true fuel f.type ((cs.drop f.offset).take (P.cellsOf f.type)) = ys[i]?) →
    (∀ n ∈ DataW.weightsEach P (fs.map (·.type)) (ys.map (·.1)), n ≤ reachBytes) → ∃ a : α, d.K w a (cs.drop off) ∧ good a
theorem opensFs_one {α : Type} {off : Nat} {f : Field} {d : Kd α} {good : α → Prop} (ho : f.offset = off) (hC : P.cellsOf f.type = d.sz) (h : Opens P f.type d good) : OpensFs P off [f] d good := by
  intro H enc w fuel cs ys hcs hy hf hz
  match ys, hy with
  | [y], _ =>
    have h1 := hf 0 f rfl
    rw [ho, hC, List.take_of_length_le (by simp [List.length_drop]; omega)] at h1
    exact h H enc w fuel _ y h1 (fun n hn => hz n (by simp only [List.map_cons, DataW.weightsEach, List.mem_append]; exact Or.inl hn))
theorem opensFs_cons {α β : Type} {off : Nat} {f : Field} {fs : List Field} {d : Kd α} {e : Kd β} {g1 : α → Prop} {g2 : β → Prop} (ho : f.offset = off) (hC : P.cellsOf f.type = d.sz) (h : Opens P f.type d g1) (hs : OpensFs P (off + d.sz) fs e g2) :
    OpensFs P off (f :: fs) (Kd.pair d e) (fun p => g1 p.1 ∧ g2 p.2) := by
  intro H enc w fuel cs ys hcs hy hf hz
  match ys, hy with
  | y :: ys, hy =>
    have hsz : (Kd.pair d e).sz = d.sz + e.sz := rfl
    rw [hsz] at hcs
    have h1 := hf 0 f rfl
    rw [ho, hC] at h1
    obtain ⟨a, ha, hga⟩ := h H enc w fuel _ y h1 (fun n hn => hz n (by simp only [List.map_cons, DataW.weightsEach, List.mem_append]; exact Or.inl hn))
    obtain ⟨b, hb, hgb⟩ := hs H enc w fuel cs ys (by omega) (by simpa using hy) (fun i f' hi => by simpa using hf (i + 1) f' (by simpa using hi)) (fun n hn => hz n (by simp only [List.map_cons, DataW.weightsEach, List.mem_append]; exact Or.inr hn))
    refine ⟨(a, b), ⟨(cs.drop off).take d.sz, cs.drop (off + d.sz), ?_, ha, hb⟩, hga, hgb⟩
    rw [← List.drop_drop, List.take_append_drop]
theorem opens_struct {α : Type} {t : TypeId} {fs : Array Field} {d : Kd α} {good : α → Prop} (hu : P.underlying t = some (.struct fs)) (hC : P.cellsOf t = d.sz) (h : OpensFs P 0 fs.toList d good) : Opens P t d good := by
  intro H enc w fuel cs x hx hz
  obtain ⟨ys, n, _, hxe, hlen, hyl, hf⟩ := DataW.trod_struct hu hx
  obtain ⟨a, ha, hg⟩ := h H enc w n cs ys (by omega) (by simpa using hyl) (fun i f hi => hf i f (by simpa using hi)) (fun m hm => hz m (by rw [hxe]; simp only [DataW.weights, hu]; exact hm))
  exact ⟨a, by simpa using ha, hg⟩
theorem opens_iso {α β : Type} {t : TypeId} {d : Kd α} {good : α → Prop} (f : β → α) (g : α → β) (hfg : ∀ a, f (g a) = a) (h : Opens P t d good) : Opens P t (Kd.iso d f) (fun b => good (f b)) := by
  intro H enc w fuel cs x hx hz
  obtain ⟨a, ha, hga⟩ := h H enc w fuel cs x hx hz
  refine ⟨g a, ?_, by show good (f (g a)); rw [hfg]; exact hga⟩
  show d.K w (f (g a)) cs
  rw [hfg]
  exact ha
theorem opens_imp {α : Type} {t : TypeId} {d : Kd α} {g1 g2 : α → Prop} (h : Opens P t d g1) (hg : ∀ a, g1 a → g2 a) : Opens P t d g2 := by
  intro H enc w fuel cs x hx hz
  obtain ⟨a, ha, hga⟩ := h H enc w fuel cs x hx hz
  exact ⟨a, ha, hg a hga⟩
theorem weights_of {H : Type} {ts : List TypeId} {ds : List (DataW H)} (h : (DataW.weightsEach P ts ds).all (· ≤ reachBytes) = true) {j : Nat} {t : TypeId} {d : DataW H} (ht : ts[j]? = some t) (hd : ds[j]? = some d) : ∀ n ∈ d.weights P t, n ≤ reachBytes := by
  intro n hn
  have := List.all_eq_true.1 h _ (DataW.weights_mem_each ht hd n hn)
  simpa using this
theorem arg_slice {α : Type} {t e : TypeId} {d : Kd α} {good : α → Prop} (hu : P.underlying t = some (.slice e)) (hC : P.cellsOf e = d.sz) {B : Nat} (hB : P.bytesOf e = B) (ho : Opens P e d good)
    {H : Type} {enc : TypeId × Value → H} {w : World} {r : Reach} {b0 : Nat} {v : Value} {x : DataW H} {ps : List MemPlace} (hv : Value.okWide P w r b0 t v)
    (h : DataW.Trod enc P w 0 (fun _ => true) true t v x ps) (hz : ∀ n ∈ x.weights P t, n ≤ reachBytes) :
    ∃ (A : Option Addr) (c : Nat) (l : List α), v = .slice A l.length c ∧ l.length ≤ c ∧ d.C w A l.length l ∧ l.length ≤ maxLen ∧ l.length * B ≤ 140737488351232 ∧ ∀ a ∈ l, good a := by
  obtain ⟨A, len, c, rfl⟩ := okWide_slice hu hv
  obtain ⟨fuel, hf⟩ := h
  have hf' : DataW.trod enc P w 0 (fun _ => true) true fuel t [.slice A len c] = some (x, ps) := by simpa [Value.cells] using hf
  obtain ⟨l, rfl, hlc, hC', hm, hb, hg⟩ := opens_slice_row hu hC hB ho H enc w fuel A len c _ hf' hz
  exact ⟨A, c, l, rfl, hlc, hC', hm, hb, hg⟩
theorem arg_int {t : TypeId} {k : IntKind} (hu : P.underlying t = some (.int k))
    {H : Type} {enc : TypeId × Value → H} {w : World} {r : Reach} {b0 : Nat} {v : Value} {x : DataW H} {ps : List MemPlace} (hv : Value.okWide P w r b0 t v)
    (h : DataW.Trod enc P w 0 (fun _ => true) true t v x ps) : ∃ n, v = .int k n ∧ (Lit.int k n).wf = true := by
  obtain ⟨n, rfl⟩ := okWide_int hu hv
  obtain ⟨fuel, hf⟩ := h
  obtain ⟨m, hcs, _, hw⟩ := DataW.trod_int hu hf
  simp only [Value.cells] at hcs
  have e : n = m := by simpa using hcs
  subst e
  exact ⟨n, rfl, hw⟩
end Go.Proofs.Ytlehkobakddgbaa.Opn
namespace Go.Proofs.Ytlehkobakddgbaa.fdbApart
open Go.RowKit Go.Proofs.YtlehkobakddgbaaW.PrintWords Go.Proofs.YtlehkobakddgbaaW.PrintLast Go.Proofs.YtlehkobakddgbaaW.PrintMore Go.Proofs.Ytlehkobakddgbaa.QFdb
set_option linter.unusedVariables false
def G32 (x : S32) : Prop := (Lit.int .i64 x.f0).wf = true ∧ (Lit.int .i64 x.f1).wf = true ∧ (Lit.int .i64 x.f2).wf = true ∧ (Lit.int .i64 x.f3).wf = true ∧ (Lit.int .i64 x.f4).wf = true
def Pure : Prop := ∀ (x0 : (List S32)) (x1 : Int), (x0.length ≤ maxLen ∧ x0.length * 40 ≤ 140737488351232 ∧ ∀ a ∈ x0, G32 a) → (Lit.int .i64 x1).wf = true → kissgatelaw18_FdbApart.f x0 x1 = some true
end Go.Proofs.Ytlehkobakddgbaa.fdbApart
namespace Go.Proofs.Ytlehkobakddgbaa.fdbApart
open Go.RowKit Go.Proofs.YtlehkobakddgbaaW.PrintWords Go.Proofs.YtlehkobakddgbaaW.PrintLast Go.Proofs.YtlehkobakddgbaaW.PrintMore Go.Proofs.Ytlehkobakddgbaa.QFdb
theorem pure : Pure := by
  intro _ _ _ _
  rfl
end Go.Proofs.Ytlehkobakddgbaa.fdbApart
