/- Functions of the program as plain Lean functions, what their calls do, and what follows of it. Conditions: each theorem's own. -/
import Derived.Test.YtkahciadkgjbbaaDoorCPartyTalks0
namespace Go.Proofs.YtkahciadkgjbbaaDoor.QPty
open Go.RowKit Go.Proofs.YtkahciadkgjbbaaDoorW.PrintWords Go.Proofs.YtkahciadkgjbbaaDoorW.PrintLast Go.Proofs.YtkahciadkgjbbaaDoorW.PrintMore Gen
set_option linter.unusedVariables false
set_option linter.unusedSimpArgs false
instance : Inhabited Ent := ⟨⟨0, 0, 0, 0, 0, 0, ⟨0, 0, 0, 0⟩⟩⟩
def cmpi (a b : Int) : Int := if a < b then -1 else if a > b then 1 else 0
def cf (x0 x1 t0 t1 : Int) : Int := if cmpi x0 t0 = 0 then cmpi x1 t1 else cmpi x0 t0
def lx (e : Ent) (t0 t1 : Int) : Prop := e.a0 < t0 ∨ e.a0 = t0 ∧ e.a1 < t1
instance (e : Ent) (t0 t1 : Int) : Decidable (lx e t0 t1) := by unfold lx; infer_instance
def Same (e : Ent) (t0 t1 : Int) : Prop := e.a0 = t0 ∧ e.a1 = t1
instance (e : Ent) (t0 t1 : Int) : Decidable (Same e t0 t1) := by unfold Same; infer_instance
abbrev Srt (l : List Ent) : Prop := l.Pairwise fun x y => lx x y.a0 y.a1
theorem cmpi_eq (a b : Int) : cmpi a b = 0 ↔ a = b := by unfold cmpi; split <;> (try split) <;> omega
theorem cmpi_lt (a b : Int) : cmpi a b < 0 ↔ a < b := by unfold cmpi; split <;> (try split) <;> omega
theorem cf_lt (e : Ent) (t0 t1 : Int) : cf e.a0 e.a1 t0 t1 < 0 ↔ lx e t0 t1 := by
  unfold cf lx
  by_cases h0 : cmpi e.a0 t0 = 0
  · have e0 := (cmpi_eq _ _).1 h0
    rw [if_pos h0, cmpi_lt]; omega
  · have e0 := mt (cmpi_eq _ _).2 h0
    rw [if_neg h0, cmpi_lt]; omega
theorem cf_zero (e : Ent) (t0 t1 : Int) : (cf e.a0 e.a1 t0 t1 == 0) = decide (Same e t0 t1) := by
  unfold cf Same
  by_cases h0 : cmpi e.a0 t0 = 0
  · have e0 := (cmpi_eq _ _).1 h0
    rw [if_pos h0]
    by_cases h1 : cmpi e.a1 t1 = 0
    · have e1 := (cmpi_eq _ _).1 h1
      rw [h1]; simp [e0, e1]
    · have e1 := mt (cmpi_eq _ _).2 h1
      simp [h1, e1]
  · have e0 := mt (cmpi_eq _ _).2 h0
    rw [if_neg h0]
    simp [h0, e0]
theorem lx_trans {x y : Ent} {t0 t1 : Int} (h1 : lx x y.a0 y.a1) (h2 : lx y t0 t1) : lx x t0 t1 := by unfold lx at *; omega
theorem cmp_ev (x0 x1 t0 t1 : Int) : mrpdu_Compare.f 4 x0 x1 t0 t1 = some (cf x0 x1 t0 t1) := by
  have hc : ∀ a b, cmp_Compare_int.f a b = some (cmpi a b) := fun a b => by
    unfold cmp_Compare_int.f cmp_isNaN_int.f cmpi; simp; split <;> (try split) <;> rfl
  simp only [mrpdu_Compare.f, hc, Option.bind_some]
  unfold cf
  have e0 : rd [cmpi x0 t0, cmpi x1 t1] 0 = cmpi x0 t0 := rfl
  have e1 : rd [cmpi x0 t0, cmpi x1 t1] 1 = cmpi x1 t1 := rfl
  have w1 : wrap64 (0 + 1) = 1 := by decide +kernel
  have w2 : wrap64 (1 + 1) = 2 := by decide +kernel
  simp only [cmp_Or_int.f, cmp_Or_int.l0, List.length_cons, List.length_nil, e0, e1, w1, w2]
  by_cases h0 : cmpi x0 t0 = 0
  · by_cases h1 : cmpi x1 t1 = 0 <;> simp [h0, h1]
  · simp [h0]
theorem cmpAttr_calls (x0 x1 t0 t1 : Int) (w : World) : Calls Tryd.prog 51 #[.agg #[.int .i64 x0, .int .i64 x1], .agg #[.int .i64 t0, .int .i64 t1]] w fun e w' => e = .returned (.int .i64 (cf x0 x1 t0 t1)) ∧ Below w.heap.size w w' :=
  mrpdu_Compare.calls 4 _ _ _ _ _ w (cmp_ev x0 x1 t0 t1)
set_option maxHeartbeats 4000000 in
set_option maxRecDepth 100000 in
theorem cmp50_calls (e : Ent) (t0 t1 : Int) (w : World) (h : EntAt w e) :
    Calls Tryd.prog 50 #[pv e, .agg #[.int .i64 t0, .int .i64 t1]] w fun x w' => x = .returned (.int .i64 (cf e.a0 e.a1 t0 t1)) ∧ Below w.heap.size w w' := by
  have mixed : Tryd.prog.follows .mixedOrders = true := by kernel_rfl
  have e51 : ∀ args w, (callFunc 51 args).run Tryd.prog w = .ok (.enter 51 args) w := enters_of Tryd.func51 (by kernel_rfl) rfl
  have hu28 := Tryd.underlying28
  have H := Aside0.mk h.sl
  clear h
  go_enter Tryd.func50, Tryd.ntmps50
  go_wp2_with ((with_reducible refine gate_dst (N := 3) rfl ?_); refine box_event ?hg (N := 3) ?hd (cs := #[.int .i64 t0, .int .i64 t1]) (t := 28) ?hr ?_; (case hd => rfl); (case hg => rfl); (case hr => first | (go_simp; done) | (go_simp; rfl)); intro tb hg w1 hbox hb; have HB := Aside0.mk hb; have BX := Aside0.mk hbox; clear hb hbox hg)
  have HS := Aside0.mk (blk_below H.out HB.out)
  have HC0 := Aside0.mk (fun W (hb : Below w1.heap.size w1 W) => show W.cell? ⟨e.sb, 0, none⟩ = some (.int .i64 e.a0) from (blk_cell (blk_below HS.out hb) 0).trans rfl)
  have HC1 := Aside0.mk (fun W (hb : Below w1.heap.size w1 W) => show W.cell? ⟨e.sb, 1, none⟩ = some (.int .i64 e.a1) from (blk_cell (blk_below HS.out hb) 1).trans rfl)
  have HT0 := Aside0.mk (fun W (hb : Below w1.heap.size w1 W) => show W.cell? ⟨tb, 0, none⟩ = some (.int .i64 t0) from (blk_cell (blk_below BX.out hb) 0).trans rfl)
  have HT1 := Aside0.mk (fun W (hb : Below w1.heap.size w1 W) => show W.cell? ⟨tb, 1, none⟩ = some (.int .i64 t1) from (blk_cell (blk_below BX.out hb) 1).trans rfl)
  have hc0 := HC0.out w1 (Below.refl _ _)
  have hc1 := HC1.out w1 (Below.refl _ _)
  have ht0 := HT0.out w1 (Below.refl _ _)
  have ht1 := HT1.out w1 (Below.refl _ _)
  obtain ⟨sb, rb, a0, a1, st, bo, rg⟩ := e
  dsimp only at *
  go_region_held3 (fun W => W.cell? ⟨sb, 0, none⟩ = some (.int .i64 a0) ∧ W.cell? ⟨sb, 1, none⟩ = some (.int .i64 a1) ∧ W.cell? ⟨tb, 0, none⟩ = some (.int .i64 t0) ∧ W.cell? ⟨tb, 1, none⟩ = some (.int .i64 t1) ∧ Below w1.heap.size w1 W) (first | exact ⟨HC0.out _ (by repeat (with_reducible first | assumption | exact Below.refl _ _ | apply below_alloc | apply pw_below_drewN | apply below_drew1 | refine below_set ?_ (by first | exact Nat.le_refl _ | assumption))), HC1.out _ (by repeat (with_reducible first | assumption | exact Below.refl _ _ | apply below_alloc | apply pw_below_drewN | apply below_drew1 | refine below_set ?_ (by first | exact Nat.le_refl _ | assumption))), HT0.out _ (by repeat (with_reducible first | assumption | exact Below.refl _ _ | apply below_alloc | apply pw_below_drewN | apply below_drew1 | refine below_set ?_ (by first | exact Nat.le_refl _ | assumption))), HT1.out _ (by repeat (with_reducible first | assumption | exact Below.refl _ _ | apply below_alloc | apply pw_below_drewN | apply below_drew1 | refine below_set ?_ (by first | exact Nat.le_refl _ | assumption))), (by repeat (with_reducible first | assumption | exact Below.refl _ _ | apply below_alloc | apply pw_below_drewN | apply below_drew1 | refine below_set ?_ (by first | exact Nat.le_refl _ | assumption)))⟩)
    (first | (go_at_call 51; with_reducible refine (cmpAttr_calls _ _ _ _ _).mono ?_; rintro x w2 ⟨rfl, hb2⟩; replace hb2 := below_step (show Below w1.heap.size w1 _ from (by repeat (with_reducible first | assumption | exact Below.refl _ _ | apply below_alloc | apply pw_below_drewN | apply below_drew1 | refine below_set ?_ (by first | exact Nat.le_refl _ | assumption)))) hb2; have hs2 := hb2.size))
  all_goals
    rename_i hS9
    have HB9 := Aside0.mk (below_step HB.out hS9.2.2.2.2)
    clear hS9
    go_wp2
    go_ret
    exact ⟨rfl, HB9.out⟩
set_option maxHeartbeats 4000000 in
set_option maxRecDepth 100000 in
theorem cmp53_calls (e : Ent) (t0 t1 : Int) (w : World) (h : EntAt w e) :
    Calls Tryd.prog 53 #[pv e, .agg #[.int .i64 t0, .int .i64 t1]] w fun x w' => x = .returned (.int .i64 (cf e.a0 e.a1 t0 t1)) ∧ Below w.heap.size w w' := by
  have mixed : Tryd.prog.follows .mixedOrders = true := by kernel_rfl
  have e51 : ∀ args w, (callFunc 51 args).run Tryd.prog w = .ok (.enter 51 args) w := enters_of Tryd.func51 (by kernel_rfl) rfl
  have hu28 := Tryd.underlying28
  have H := Aside0.mk h.sl
  clear h
  go_enter Tryd.func53, Tryd.ntmps53
  go_wp2_with ((with_reducible refine gate_dst (N := 3) rfl ?_); refine box_event ?hg (N := 3) ?hd (cs := #[.int .i64 t0, .int .i64 t1]) (t := 28) ?hr ?_; (case hd => rfl); (case hg => rfl); (case hr => first | (go_simp; done) | (go_simp; rfl)); intro tb hg w1 hbox hb; have HB := Aside0.mk hb; have BX := Aside0.mk hbox; clear hb hbox hg)
  have HS := Aside0.mk (blk_below H.out HB.out)
  have HC0 := Aside0.mk (fun W (hb : Below w1.heap.size w1 W) => show W.cell? ⟨e.sb, 0, none⟩ = some (.int .i64 e.a0) from (blk_cell (blk_below HS.out hb) 0).trans rfl)
  have HC1 := Aside0.mk (fun W (hb : Below w1.heap.size w1 W) => show W.cell? ⟨e.sb, 1, none⟩ = some (.int .i64 e.a1) from (blk_cell (blk_below HS.out hb) 1).trans rfl)
  have HT0 := Aside0.mk (fun W (hb : Below w1.heap.size w1 W) => show W.cell? ⟨tb, 0, none⟩ = some (.int .i64 t0) from (blk_cell (blk_below BX.out hb) 0).trans rfl)
  have HT1 := Aside0.mk (fun W (hb : Below w1.heap.size w1 W) => show W.cell? ⟨tb, 1, none⟩ = some (.int .i64 t1) from (blk_cell (blk_below BX.out hb) 1).trans rfl)
  have hc0 := HC0.out w1 (Below.refl _ _)
  have hc1 := HC1.out w1 (Below.refl _ _)
  have ht0 := HT0.out w1 (Below.refl _ _)
  have ht1 := HT1.out w1 (Below.refl _ _)
  obtain ⟨sb, rb, a0, a1, st, bo, rg⟩ := e
  dsimp only at *
  go_region_held3 (fun W => W.cell? ⟨sb, 0, none⟩ = some (.int .i64 a0) ∧ W.cell? ⟨sb, 1, none⟩ = some (.int .i64 a1) ∧ W.cell? ⟨tb, 0, none⟩ = some (.int .i64 t0) ∧ W.cell? ⟨tb, 1, none⟩ = some (.int .i64 t1) ∧ Below w1.heap.size w1 W) (first | exact ⟨HC0.out _ (by repeat (with_reducible first | assumption | exact Below.refl _ _ | apply below_alloc | apply pw_below_drewN | apply below_drew1 | refine below_set ?_ (by first | exact Nat.le_refl _ | assumption))), HC1.out _ (by repeat (with_reducible first | assumption | exact Below.refl _ _ | apply below_alloc | apply pw_below_drewN | apply below_drew1 | refine below_set ?_ (by first | exact Nat.le_refl _ | assumption))), HT0.out _ (by repeat (with_reducible first | assumption | exact Below.refl _ _ | apply below_alloc | apply pw_below_drewN | apply below_drew1 | refine below_set ?_ (by first | exact Nat.le_refl _ | assumption))), HT1.out _ (by repeat (with_reducible first | assumption | exact Below.refl _ _ | apply below_alloc | apply pw_below_drewN | apply below_drew1 | refine below_set ?_ (by first | exact Nat.le_refl _ | assumption))), (by repeat (with_reducible first | assumption | exact Below.refl _ _ | apply below_alloc | apply pw_below_drewN | apply below_drew1 | refine below_set ?_ (by first | exact Nat.le_refl _ | assumption)))⟩)
    (first | (go_at_call 51; with_reducible refine (cmpAttr_calls _ _ _ _ _).mono ?_; rintro x w2 ⟨rfl, hb2⟩; replace hb2 := below_step (show Below w1.heap.size w1 _ from (by repeat (with_reducible first | assumption | exact Below.refl _ _ | apply below_alloc | apply pw_below_drewN | apply below_drew1 | refine below_set ?_ (by first | exact Nat.le_refl _ | assumption)))) hb2; have hs2 := hb2.size))
  all_goals
    rename_i hS9
    have HB9 := Aside0.mk (below_step HB.out hS9.2.2.2.2)
    clear hS9
    go_wp2
    go_ret
    exact ⟨rfl, HB9.out⟩
def pos (l : List Ent) (t0 t1 : Int) : Nat := l.countP fun x => decide (lx x t0 t1)
def hit (l : List Ent) (t0 t1 : Int) : Bool := match l[pos l t0 t1]? with | some x => decide (Same x t0 t1) | none => false
theorem pos_le (l : List Ent) (t0 t1 : Int) : pos l t0 t1 ≤ l.length := List.countP_le_length
abbrev CmpOf (g : Nat) (l : List Ent) (t0 t1 : Int) (w : World) : Prop := ∀ (x : Ent) (W : World), x ∈ l → Below w.heap.size w W →
    Calls Tryd.prog g #[pv x, .agg #[.int .i64 t0, .int .i64 t1]] W fun e w' => e = .returned (.int .i64 (cf x.a0 x.a1 t0 t1)) ∧ Below W.heap.size W w'
set_option maxHeartbeats 4000000 in
set_option maxRecDepth 100000 in
theorem search_none50 (t0 t1 : Int) (w : World) :
    Calls Tryd.prog 49 #[.slice none 0 0, .agg #[.int .i64 t0, .int .i64 t1], .func (.func 50) #[] #[]] w fun e w' => e = .returned (.tuple #[.int .i64 0, .bool false]) ∧ Below w.heap.size w w' := by
  go_enter Tryd.func49, Tryd.ntmps49
  go_wp2_with ((with_reducible refine gate_dst (N := 4) rfl ?_); refine box_event ?hg (N := 4) ?hd (cs := #[.int .i64 t0, .int .i64 t1]) (t := 28) ?hr ?_; (case hd => rfl); (case hg => rfl); (case hr => first | (go_simp; done) | (go_simp; rfl)); intro tb hg w1 hbox hb; have HB := Aside0.mk hb; clear hb hbox hg)
  go_loopg [9, 10] 0 (fun kx s9 s10 wr => s9 = .int .i64 0 ∧ s10 = .int .i64 0 ∧ Aside0 (Below w.heap.size w wr))
  case atStart => exact ⟨rfl, rfl, HB⟩
  case round =>
    clear HB
    obtain ⟨rfl, rfl, HB⟩ := hrel
    go_wp2_with fail
    go_quiet (fail)
    go_wp2
    go_ret2
    exact ⟨rfl, below_step HB.out (by repeat (first | exact Below.refl _ _ | apply pw_below_drewN | apply below_drew1))⟩
set_option maxHeartbeats 4000000 in
set_option maxRecDepth 100000 in
theorem search_row50 (blk cap : Nat) (l : List Ent) (t0 t1 : Int) (w : World) (hr : Row w blk cap (l.map pv) w) (hsz : l.length < 4611686018427387904) (hs : Srt l) (hcmp : CmpOf 50 l t0 t1 w) :
    Calls Tryd.prog 49 #[.slice (some ⟨blk, 0, none⟩) l.length cap, .agg #[.int .i64 t0, .int .i64 t1], .func (.func 50) #[] #[]] w fun e w' => e = .returned (.tuple #[.int .i64 (pos l t0 t1 : Nat), .bool (hit l t0 t1)]) ∧ Below w.heap.size w w' := by
  have mixed : Tryd.prog.follows .mixedOrders = true := by kernel_rfl
  have eg : ∀ args w, (callFunc 50 args).run Tryd.prog w = .ok (.enter 50 args) w := enters_of Tryd.func50 (by kernel_rfl) rfl
  have HR := Aside0.mk hr
  have HCM := Aside0.mk hcmp
  have mono : ∀ a b, (hb : b < l.length) → (hab : a ≤ b) → lx l[b] t0 t1 → lx (l[a]'(by omega)) t0 t1 := fun a b hb hab h => by
    rcases Nat.lt_or_ge a b with h1 | h1
    · exact lx_trans (List.pairwise_iff_getElem.1 hs a b (by omega) hb h1) h
    · obtain rfl : a = b := by omega
      exact h
  have MONO := Aside0.mk mono
  clear hr mono hcmp
  go_enter Tryd.func49, Tryd.ntmps49
  go_wp2_with ((with_reducible refine gate_dst (N := 4) rfl ?_); refine box_event ?hg (N := 4) ?hd (cs := #[.int .i64 t0, .int .i64 t1]) (t := 28) ?hr ?_; (case hd => rfl); (case hg => rfl); (case hr => first | (go_simp; done) | (go_simp; rfl)); intro tb hg w1 hbox hb; have HB := Aside0.mk hb; have BX := Aside0.mk hbox; clear hb hbox hg)
  go_loopg [9, 10] l.length (fun kx s9 s10 wr => ∃ lo hi : Nat, s9 = .int .i64 lo ∧ s10 = .int .i64 hi ∧ lo ≤ hi ∧ hi ≤ l.length ∧ hi - lo ≤ kx ∧ Aside0 (Below w.heap.size w wr) ∧ Aside0 (wr.heap[tb]? = some (.cells #[.int .i64 t0, .int .i64 t1] 28 (0, 0))) ∧
    Aside0 ((∀ q, (hq : q < l.length) → q < lo → lx l[q] t0 t1) ∧ (∀ q, (hq : q < l.length) → hi ≤ q → ¬ lx l[q] t0 t1)))
  case atStart => exact ⟨0, l.length, rfl, rfl, Nat.zero_le _, Nat.le_refl _, by omega, HB, BX, ⟨fun q hq h => absurd h (Nat.not_lt_zero _), fun q hq h => by omega⟩⟩
  case round =>
    clear HB BX
    obtain ⟨lo, hi, rfl, rfl, hlh, hin, hgm, HB, BX, II⟩ := hrel
    by_cases hlt : lo < hi
    · have hm : (lo + hi) / 2 < l.length := by omega
      have HX := Aside0.mk (fun W (hb : Below wr.heap.size wr W) => (HR.out.below (below_step HB.out hb)).cell ((lo + hi) / 2) (pv l[(lo + hi) / 2]) (by rw [List.getElem?_map, List.getElem?_eq_getElem hm]; rfl))
      have HT0 := Aside0.mk (fun W (hb : Below wr.heap.size wr W) => show W.cell? ⟨tb, 0, none⟩ = some (.int .i64 t0) from (blk_cell (blk_below BX.out hb) 0).trans rfl)
      have HT1 := Aside0.mk (fun W (hb : Below wr.heap.size wr W) => show W.cell? ⟨tb, 1, none⟩ = some (.int .i64 t1) from (blk_cell (blk_below BX.out hb) 1).trans rfl)
      have HCA := Aside0.mk (fun W (hb : Below wr.heap.size wr W) => HCM.out l[(lo + hi) / 2] W (List.getElem_mem hm) (below_step HB.out hb))
      have hx := HX.out wr (Below.refl _ _)
      have ht0 := HT0.out wr (Below.refl _ _)
      have ht1 := HT1.out wr (Below.refl _ _)
      have p0 : (0 : Int) ≤ ((lo : Int) + (hi : Int)) / 2 := by omega
      have q0 : ((lo : Int) + (hi : Int)) / 2 < (l.length : Int) := by omega
      have tn : (((lo : Int) + (hi : Int)) / 2).toNat = (lo + hi) / 2 := by omega
      have HL := Aside0.mk (cf_lt l[(lo + hi) / 2] t0 t1)
      have HMO := Aside0.mk (fun q (hq : q < l.length) (h : q < (lo + hi) / 2 + 1) (hx : lx l[(lo + hi) / 2] t0 t1) => MONO.out q ((lo + hi) / 2) hm (by omega) hx)
      have HMP := Aside0.mk (show ∀ q (hq : q < l.length), (lo + hi) / 2 ≤ q → lx l[q] t0 t1 → lx (l[(lo + hi) / 2]'hm) t0 t1 from fun q hq h hx => MONO.out ((lo + hi) / 2) q hq h hx)
      generalize l[(lo + hi) / 2] = y at *
      dsimp only [pv] at hx HX HCA
      by_cases hyx : cf y.a0 y.a1 t0 t1 < 0
      all_goals
        generalize cf y.a0 y.a1 t0 t1 = cv at *
        go_wp2_with fail
        go_region_held3 (fun W => W.cell? ⟨blk, (lo + hi) / 2, none⟩ = some (.pointer (some ⟨y.sb, 0, none⟩)) ∧ W.cell? ⟨tb, 0, none⟩ = some (.int .i64 t0) ∧ W.cell? ⟨tb, 1, none⟩ = some (.int .i64 t1) ∧ Below wr.heap.size wr W) (first | exact ⟨HX.out _ (by repeat (with_reducible first | assumption | exact Below.refl _ _ | apply below_alloc | apply pw_below_drewN | apply below_drew1 | refine below_set ?_ (by first | exact Nat.le_refl _ | assumption))), HT0.out _ (by repeat (with_reducible first | assumption | exact Below.refl _ _ | apply below_alloc | apply pw_below_drewN | apply below_drew1 | refine below_set ?_ (by first | exact Nat.le_refl _ | assumption))), HT1.out _ (by repeat (with_reducible first | assumption | exact Below.refl _ _ | apply below_alloc | apply pw_below_drewN | apply below_drew1 | refine below_set ?_ (by first | exact Nat.le_refl _ | assumption))), (by repeat (with_reducible first | assumption | exact Below.refl _ _ | apply below_alloc | apply pw_below_drewN | apply below_drew1 | refine below_set ?_ (by first | exact Nat.le_refl _ | assumption)))⟩)
          (first | (go_at_call 50; with_reducible refine (HCA.out _ (by repeat (with_reducible first | assumption | exact Below.refl _ _ | apply below_alloc | apply pw_below_drewN | apply below_drew1 | refine below_set ?_ (by first | exact Nat.le_refl _ | assumption)))).mono ?_; rintro x w2 ⟨rfl, hb2⟩; replace hb2 := below_step (show Below wr.heap.size wr _ from (by repeat (with_reducible first | assumption | exact Below.refl _ _ | apply below_alloc | apply pw_below_drewN | apply below_drew1 | refine below_set ?_ (by first | exact Nat.le_refl _ | assumption)))) hb2; have hs2 := hb2.size))
      · all_goals
          rename_i hS9
          have HB9 := Aside0.mk hS9.2.2.2
          clear hS9
          go_wp2
          go_roundg (hi - ((lo + hi) / 2 + 1))
          case measure => omega
          case rel =>
            exact ⟨(lo + hi) / 2 + 1, hi, by rw [show ((lo : Int) + (hi : Int)) / 2 + 1 = (((lo + hi) / 2 + 1 : Nat) : Int) by omega], rfl, by omega, hin, Nat.le_refl _, ⟨below_step HB.out HB9.out⟩, ⟨blk_below BX.out HB9.out⟩,
              ⟨fun q hq h => HMO.out q hq h (HL.out.1 hyx), II.out.2⟩⟩
      · all_goals
          rename_i hS9
          have HB9 := Aside0.mk hS9.2.2.2
          clear hS9
          go_wp2
          go_roundg ((lo + hi) / 2 - lo)
          case measure => omega
          case rel =>
            exact ⟨lo, (lo + hi) / 2, rfl, by rw [show ((lo : Int) + (hi : Int)) / 2 = (((lo + hi) / 2 : Nat) : Int) by omega], by omega, by omega, Nat.le_refl _, ⟨below_step HB.out HB9.out⟩, ⟨blk_below BX.out HB9.out⟩,
              ⟨II.out.1, fun q hq h hx => by have h9 := HL.out.2 (HMP.out q hq h hx); omega⟩⟩
    · obtain rfl : hi = lo := by omega
      have hget : ∀ q, (hq : q < l.length) → l[q]! = l[q] := fun q hq => getElem!_pos l q hq
      have ecnt : pos l t0 t1 = hi := by
        unfold pos
        refine Lib.countP_boundary _ l hi hin (fun q hq => ?_) (fun q h3 h4 => ?_)
        · rw [hget q (by omega)]; exact decide_eq_true (II.out.1 q (by omega) hq)
        · rw [hget q h4]; exact decide_eq_false (II.out.2 q h4 h3)
      by_cases hn : hi < l.length
      · have ehit : hit l t0 t1 = (cf l[hi].a0 l[hi].a1 t0 t1 == 0) := by
          unfold hit
          rw [ecnt, List.getElem?_eq_getElem hn, cf_zero]
        have HE := Aside0.mk ehit
        have HN := Aside0.mk ecnt
        have HX := Aside0.mk (fun W (hb : Below wr.heap.size wr W) => (HR.out.below (below_step HB.out hb)).cell hi (pv l[hi]) (by rw [List.getElem?_map, List.getElem?_eq_getElem hn]; rfl))
        have HT0 := Aside0.mk (fun W (hb : Below wr.heap.size wr W) => show W.cell? ⟨tb, 0, none⟩ = some (.int .i64 t0) from (blk_cell (blk_below BX.out hb) 0).trans rfl)
        have HT1 := Aside0.mk (fun W (hb : Below wr.heap.size wr W) => show W.cell? ⟨tb, 1, none⟩ = some (.int .i64 t1) from (blk_cell (blk_below BX.out hb) 1).trans rfl)
        have HCA := Aside0.mk (fun W (hb : Below wr.heap.size wr W) => HCM.out l[hi] W (List.getElem_mem hn) (below_step HB.out hb))
        have hx := HX.out wr (Below.refl _ _)
        have ht0 := HT0.out wr (Below.refl _ _)
        have ht1 := HT1.out wr (Below.refl _ _)
        have hnz : (hi : Int) < (l.length : Int) := by omega
        have hdec : decide ((hi : Int) < (l.length : Int)) = true := decide_eq_true hnz
        clear II ecnt ehit MONO hget
        generalize l[hi] = y at *
        dsimp only [pv] at hx HX HCA
        generalize cf y.a0 y.a1 t0 t1 = cv at *
        go_wp2_with fail
        go_region_held3 (fun W => W.cell? ⟨blk, hi, none⟩ = some (.pointer (some ⟨y.sb, 0, none⟩)) ∧ W.cell? ⟨tb, 0, none⟩ = some (.int .i64 t0) ∧ W.cell? ⟨tb, 1, none⟩ = some (.int .i64 t1) ∧ Below wr.heap.size wr W) (first | exact ⟨HX.out _ (by repeat (with_reducible first | assumption | exact Below.refl _ _ | apply below_alloc | apply pw_below_drewN | apply below_drew1 | refine below_set ?_ (by first | exact Nat.le_refl _ | assumption))), HT0.out _ (by repeat (with_reducible first | assumption | exact Below.refl _ _ | apply below_alloc | apply pw_below_drewN | apply below_drew1 | refine below_set ?_ (by first | exact Nat.le_refl _ | assumption))), HT1.out _ (by repeat (with_reducible first | assumption | exact Below.refl _ _ | apply below_alloc | apply pw_below_drewN | apply below_drew1 | refine below_set ?_ (by first | exact Nat.le_refl _ | assumption))), (by repeat (with_reducible first | assumption | exact Below.refl _ _ | apply below_alloc | apply pw_below_drewN | apply below_drew1 | refine below_set ?_ (by first | exact Nat.le_refl _ | assumption)))⟩)
          (first | (go_at_call 50; with_reducible refine (HCA.out _ (by repeat (with_reducible first | assumption | exact Below.refl _ _ | apply below_alloc | apply pw_below_drewN | apply below_drew1 | refine below_set ?_ (by first | exact Nat.le_refl _ | assumption)))).mono ?_; rintro x w2 ⟨rfl, hb2⟩; replace hb2 := below_step (show Below wr.heap.size wr _ from (by repeat (with_reducible first | assumption | exact Below.refl _ _ | apply below_alloc | apply pw_below_drewN | apply below_drew1 | refine below_set ?_ (by first | exact Nat.le_refl _ | assumption)))) hb2; have hs2 := hb2.size))
        all_goals
          rename_i hS9
          have HB9 := Aside0.mk hS9.2.2.2
          clear hS9
          go_wp2
          go_ret2
          exact ⟨by rw [HE.out, HN.out]; rfl, below_step HB.out HB9.out⟩
      · have ehit : hit l t0 t1 = false := by
          unfold hit
          rw [ecnt, List.getElem?_eq_none (by omega)]
        obtain rfl : hi = l.length := by omega
        have HE := Aside0.mk ehit
        have HN := Aside0.mk ecnt
        clear II ecnt ehit MONO hget
        go_wp2_with fail
        go_quiet (fail)
        go_wp2
        go_ret2
        exact ⟨by rw [HE.out, HN.out]; rfl, below_step HB.out (by repeat (first | exact Below.refl _ _ | apply pw_below_drewN | apply below_drew1))⟩
theorem search_calls50 (u : Value) (l : List Ent) (t0 t1 : Int) (w : World) (ho : RE w u l) (hsz : l.length < 4611686018427387904) (hs : Srt l) (hcmp : CmpOf 50 l t0 t1 w) :
    Calls Tryd.prog 49 #[u, .agg #[.int .i64 t0, .int .i64 t1], .func (.func 50) #[] #[]] w fun e w' => e = .returned (.tuple #[.int .i64 (pos l t0 t1 : Nat), .bool (hit l t0 t1)]) ∧ Below w.heap.size w w' := by
  rcases Row.ofR ho with ⟨rfl, rfl⟩ | ⟨b, cap, rfl, hm, hr⟩
  · exact search_none50 t0 t1 w
  · exact search_row50 b cap l t0 t1 w hr hsz hs hcmp
set_option maxHeartbeats 4000000 in
set_option maxRecDepth 100000 in
theorem search_none53 (t0 t1 : Int) (w : World) :
    Calls Tryd.prog 49 #[.slice none 0 0, .agg #[.int .i64 t0, .int .i64 t1], .func (.func 53) #[] #[]] w fun e w' => e = .returned (.tuple #[.int .i64 0, .bool false]) ∧ Below w.heap.size w w' := by
  go_enter Tryd.func49, Tryd.ntmps49
  go_wp2_with ((with_reducible refine gate_dst (N := 4) rfl ?_); refine box_event ?hg (N := 4) ?hd (cs := #[.int .i64 t0, .int .i64 t1]) (t := 28) ?hr ?_; (case hd => rfl); (case hg => rfl); (case hr => first | (go_simp; done) | (go_simp; rfl)); intro tb hg w1 hbox hb; have HB := Aside0.mk hb; clear hb hbox hg)
  go_loopg [9, 10] 0 (fun kx s9 s10 wr => s9 = .int .i64 0 ∧ s10 = .int .i64 0 ∧ Aside0 (Below w.heap.size w wr))
  case atStart => exact ⟨rfl, rfl, HB⟩
  case round =>
    clear HB
    obtain ⟨rfl, rfl, HB⟩ := hrel
    go_wp2_with fail
    go_quiet (fail)
    go_wp2
    go_ret2
    exact ⟨rfl, below_step HB.out (by repeat (first | exact Below.refl _ _ | apply pw_below_drewN | apply below_drew1))⟩
set_option maxHeartbeats 4000000 in
set_option maxRecDepth 100000 in
theorem search_row53 (blk cap : Nat) (l : List Ent) (t0 t1 : Int) (w : World) (hr : Row w blk cap (l.map pv) w) (hsz : l.length < 4611686018427387904) (hs : Srt l) (hcmp : CmpOf 53 l t0 t1 w) :
    Calls Tryd.prog 49 #[.slice (some ⟨blk, 0, none⟩) l.length cap, .agg #[.int .i64 t0, .int .i64 t1], .func (.func 53) #[] #[]] w fun e w' => e = .returned (.tuple #[.int .i64 (pos l t0 t1 : Nat), .bool (hit l t0 t1)]) ∧ Below w.heap.size w w' := by
  have mixed : Tryd.prog.follows .mixedOrders = true := by kernel_rfl
  have eg : ∀ args w, (callFunc 53 args).run Tryd.prog w = .ok (.enter 53 args) w := enters_of Tryd.func53 (by kernel_rfl) rfl
  have HR := Aside0.mk hr
  have HCM := Aside0.mk hcmp
  have mono : ∀ a b, (hb : b < l.length) → (hab : a ≤ b) → lx l[b] t0 t1 → lx (l[a]'(by omega)) t0 t1 := fun a b hb hab h => by
    rcases Nat.lt_or_ge a b with h1 | h1
    · exact lx_trans (List.pairwise_iff_getElem.1 hs a b (by omega) hb h1) h
    · obtain rfl : a = b := by omega
      exact h
  have MONO := Aside0.mk mono
  clear hr mono hcmp
  go_enter Tryd.func49, Tryd.ntmps49
  go_wp2_with ((with_reducible refine gate_dst (N := 4) rfl ?_); refine box_event ?hg (N := 4) ?hd (cs := #[.int .i64 t0, .int .i64 t1]) (t := 28) ?hr ?_; (case hd => rfl); (case hg => rfl); (case hr => first | (go_simp; done) | (go_simp; rfl)); intro tb hg w1 hbox hb; have HB := Aside0.mk hb; have BX := Aside0.mk hbox; clear hb hbox hg)
  go_loopg [9, 10] l.length (fun kx s9 s10 wr => ∃ lo hi : Nat, s9 = .int .i64 lo ∧ s10 = .int .i64 hi ∧ lo ≤ hi ∧ hi ≤ l.length ∧ hi - lo ≤ kx ∧ Aside0 (Below w.heap.size w wr) ∧ Aside0 (wr.heap[tb]? = some (.cells #[.int .i64 t0, .int .i64 t1] 28 (0, 0))) ∧
    Aside0 ((∀ q, (hq : q < l.length) → q < lo → lx l[q] t0 t1) ∧ (∀ q, (hq : q < l.length) → hi ≤ q → ¬ lx l[q] t0 t1)))
  case atStart => exact ⟨0, l.length, rfl, rfl, Nat.zero_le _, Nat.le_refl _, by omega, HB, BX, ⟨fun q hq h => absurd h (Nat.not_lt_zero _), fun q hq h => by omega⟩⟩
  case round =>
    clear HB BX
    obtain ⟨lo, hi, rfl, rfl, hlh, hin, hgm, HB, BX, II⟩ := hrel
    by_cases hlt : lo < hi
    · have hm : (lo + hi) / 2 < l.length := by omega
      have HX := Aside0.mk (fun W (hb : Below wr.heap.size wr W) => (HR.out.below (below_step HB.out hb)).cell ((lo + hi) / 2) (pv l[(lo + hi) / 2]) (by rw [List.getElem?_map, List.getElem?_eq_getElem hm]; rfl))
      have HT0 := Aside0.mk (fun W (hb : Below wr.heap.size wr W) => show W.cell? ⟨tb, 0, none⟩ = some (.int .i64 t0) from (blk_cell (blk_below BX.out hb) 0).trans rfl)
      have HT1 := Aside0.mk (fun W (hb : Below wr.heap.size wr W) => show W.cell? ⟨tb, 1, none⟩ = some (.int .i64 t1) from (blk_cell (blk_below BX.out hb) 1).trans rfl)
      have HCA := Aside0.mk (fun W (hb : Below wr.heap.size wr W) => HCM.out l[(lo + hi) / 2] W (List.getElem_mem hm) (below_step HB.out hb))
      have hx := HX.out wr (Below.refl _ _)
      have ht0 := HT0.out wr (Below.refl _ _)
      have ht1 := HT1.out wr (Below.refl _ _)
      have p0 : (0 : Int) ≤ ((lo : Int) + (hi : Int)) / 2 := by omega
      have q0 : ((lo : Int) + (hi : Int)) / 2 < (l.length : Int) := by omega
      have tn : (((lo : Int) + (hi : Int)) / 2).toNat = (lo + hi) / 2 := by omega
      have HL := Aside0.mk (cf_lt l[(lo + hi) / 2] t0 t1)
      have HMO := Aside0.mk (fun q (hq : q < l.length) (h : q < (lo + hi) / 2 + 1) (hx : lx l[(lo + hi) / 2] t0 t1) => MONO.out q ((lo + hi) / 2) hm (by omega) hx)
      have HMP := Aside0.mk (show ∀ q (hq : q < l.length), (lo + hi) / 2 ≤ q → lx l[q] t0 t1 → lx (l[(lo + hi) / 2]'hm) t0 t1 from fun q hq h hx => MONO.out ((lo + hi) / 2) q hq h hx)
      generalize l[(lo + hi) / 2] = y at *
      dsimp only [pv] at hx HX HCA
      by_cases hyx : cf y.a0 y.a1 t0 t1 < 0
      all_goals
        generalize cf y.a0 y.a1 t0 t1 = cv at *
        go_wp2_with fail
        go_region_held3 (fun W => W.cell? ⟨blk, (lo + hi) / 2, none⟩ = some (.pointer (some ⟨y.sb, 0, none⟩)) ∧ W.cell? ⟨tb, 0, none⟩ = some (.int .i64 t0) ∧ W.cell? ⟨tb, 1, none⟩ = some (.int .i64 t1) ∧ Below wr.heap.size wr W) (first | exact ⟨HX.out _ (by repeat (with_reducible first | assumption | exact Below.refl _ _ | apply below_alloc | apply pw_below_drewN | apply below_drew1 | refine below_set ?_ (by first | exact Nat.le_refl _ | assumption))), HT0.out _ (by repeat (with_reducible first | assumption | exact Below.refl _ _ | apply below_alloc | apply pw_below_drewN | apply below_drew1 | refine below_set ?_ (by first | exact Nat.le_refl _ | assumption))), HT1.out _ (by repeat (with_reducible first | assumption | exact Below.refl _ _ | apply below_alloc | apply pw_below_drewN | apply below_drew1 | refine below_set ?_ (by first | exact Nat.le_refl _ | assumption))), (by repeat (with_reducible first | assumption | exact Below.refl _ _ | apply below_alloc | apply pw_below_drewN | apply below_drew1 | refine below_set ?_ (by first | exact Nat.le_refl _ | assumption)))⟩)
          (first | (go_at_call 53; with_reducible refine (HCA.out _ (by repeat (with_reducible first | assumption | exact Below.refl _ _ | apply below_alloc | apply pw_below_drewN | apply below_drew1 | refine below_set ?_ (by first | exact Nat.le_refl _ | assumption)))).mono ?_; rintro x w2 ⟨rfl, hb2⟩; replace hb2 := below_step (show Below wr.heap.size wr _ from (by repeat (with_reducible first | assumption | exact Below.refl _ _ | apply below_alloc | apply pw_below_drewN | apply below_drew1 | refine below_set ?_ (by first | exact Nat.le_refl _ | assumption)))) hb2; have hs2 := hb2.size))
      · all_goals
          rename_i hS9
          have HB9 := Aside0.mk hS9.2.2.2
          clear hS9
          go_wp2
          go_roundg (hi - ((lo + hi) / 2 + 1))
          case measure => omega
          case rel =>
            exact ⟨(lo + hi) / 2 + 1, hi, by rw [show ((lo : Int) + (hi : Int)) / 2 + 1 = (((lo + hi) / 2 + 1 : Nat) : Int) by omega], rfl, by omega, hin, Nat.le_refl _, ⟨below_step HB.out HB9.out⟩, ⟨blk_below BX.out HB9.out⟩,
              ⟨fun q hq h => HMO.out q hq h (HL.out.1 hyx), II.out.2⟩⟩
      · all_goals
          rename_i hS9
          have HB9 := Aside0.mk hS9.2.2.2
          clear hS9
          go_wp2
          go_roundg ((lo + hi) / 2 - lo)
          case measure => omega
          case rel =>
            exact ⟨lo, (lo + hi) / 2, rfl, by rw [show ((lo : Int) + (hi : Int)) / 2 = (((lo + hi) / 2 : Nat) : Int) by omega], by omega, by omega, Nat.le_refl _, ⟨below_step HB.out HB9.out⟩, ⟨blk_below BX.out HB9.out⟩,
              ⟨II.out.1, fun q hq h hx => by have h9 := HL.out.2 (HMP.out q hq h hx); omega⟩⟩
    · obtain rfl : hi = lo := by omega
      have hget : ∀ q, (hq : q < l.length) → l[q]! = l[q] := fun q hq => getElem!_pos l q hq
      have ecnt : pos l t0 t1 = hi := by
        unfold pos
        refine Lib.countP_boundary _ l hi hin (fun q hq => ?_) (fun q h3 h4 => ?_)
        · rw [hget q (by omega)]; exact decide_eq_true (II.out.1 q (by omega) hq)
        · rw [hget q h4]; exact decide_eq_false (II.out.2 q h4 h3)
      by_cases hn : hi < l.length
      · have ehit : hit l t0 t1 = (cf l[hi].a0 l[hi].a1 t0 t1 == 0) := by
          unfold hit
          rw [ecnt, List.getElem?_eq_getElem hn, cf_zero]
        have HE := Aside0.mk ehit
        have HN := Aside0.mk ecnt
        have HX := Aside0.mk (fun W (hb : Below wr.heap.size wr W) => (HR.out.below (below_step HB.out hb)).cell hi (pv l[hi]) (by rw [List.getElem?_map, List.getElem?_eq_getElem hn]; rfl))
        have HT0 := Aside0.mk (fun W (hb : Below wr.heap.size wr W) => show W.cell? ⟨tb, 0, none⟩ = some (.int .i64 t0) from (blk_cell (blk_below BX.out hb) 0).trans rfl)
        have HT1 := Aside0.mk (fun W (hb : Below wr.heap.size wr W) => show W.cell? ⟨tb, 1, none⟩ = some (.int .i64 t1) from (blk_cell (blk_below BX.out hb) 1).trans rfl)
        have HCA := Aside0.mk (fun W (hb : Below wr.heap.size wr W) => HCM.out l[hi] W (List.getElem_mem hn) (below_step HB.out hb))
        have hx := HX.out wr (Below.refl _ _)
        have ht0 := HT0.out wr (Below.refl _ _)
        have ht1 := HT1.out wr (Below.refl _ _)
        have hnz : (hi : Int) < (l.length : Int) := by omega
        have hdec : decide ((hi : Int) < (l.length : Int)) = true := decide_eq_true hnz
        clear II ecnt ehit MONO hget
        generalize l[hi] = y at *
        dsimp only [pv] at hx HX HCA
        generalize cf y.a0 y.a1 t0 t1 = cv at *
        go_wp2_with fail
        go_region_held3 (fun W => W.cell? ⟨blk, hi, none⟩ = some (.pointer (some ⟨y.sb, 0, none⟩)) ∧ W.cell? ⟨tb, 0, none⟩ = some (.int .i64 t0) ∧ W.cell? ⟨tb, 1, none⟩ = some (.int .i64 t1) ∧ Below wr.heap.size wr W) (first | exact ⟨HX.out _ (by repeat (with_reducible first | assumption | exact Below.refl _ _ | apply below_alloc | apply pw_below_drewN | apply below_drew1 | refine below_set ?_ (by first | exact Nat.le_refl _ | assumption))), HT0.out _ (by repeat (with_reducible first | assumption | exact Below.refl _ _ | apply below_alloc | apply pw_below_drewN | apply below_drew1 | refine below_set ?_ (by first | exact Nat.le_refl _ | assumption))), HT1.out _ (by repeat (with_reducible first | assumption | exact Below.refl _ _ | apply below_alloc | apply pw_below_drewN | apply below_drew1 | refine below_set ?_ (by first | exact Nat.le_refl _ | assumption))), (by repeat (with_reducible first | assumption | exact Below.refl _ _ | apply below_alloc | apply pw_below_drewN | apply below_drew1 | refine below_set ?_ (by first | exact Nat.le_refl _ | assumption)))⟩)
          (first | (go_at_call 53; with_reducible refine (HCA.out _ (by repeat (with_reducible first | assumption | exact Below.refl _ _ | apply below_alloc | apply pw_below_drewN | apply below_drew1 | refine below_set ?_ (by first | exact Nat.le_refl _ | assumption)))).mono ?_; rintro x w2 ⟨rfl, hb2⟩; replace hb2 := below_step (show Below wr.heap.size wr _ from (by repeat (with_reducible first | assumption | exact Below.refl _ _ | apply below_alloc | apply pw_below_drewN | apply below_drew1 | refine below_set ?_ (by first | exact Nat.le_refl _ | assumption)))) hb2; have hs2 := hb2.size))
        all_goals
          rename_i hS9
          have HB9 := Aside0.mk hS9.2.2.2
          clear hS9
          go_wp2
          go_ret2
          exact ⟨by rw [HE.out, HN.out]; rfl, below_step HB.out HB9.out⟩
      · have ehit : hit l t0 t1 = false := by
          unfold hit
          rw [ecnt, List.getElem?_eq_none (by omega)]
        obtain rfl : hi = l.length := by omega
        have HE := Aside0.mk ehit
        have HN := Aside0.mk ecnt
        clear II ecnt ehit MONO hget
        go_wp2_with fail
        go_quiet (fail)
        go_wp2
        go_ret2
        exact ⟨by rw [HE.out, HN.out]; rfl, below_step HB.out (by repeat (first | exact Below.refl _ _ | apply pw_below_drewN | apply below_drew1))⟩
theorem search_calls53 (u : Value) (l : List Ent) (t0 t1 : Int) (w : World) (ho : RE w u l) (hsz : l.length < 4611686018427387904) (hs : Srt l) (hcmp : CmpOf 53 l t0 t1 w) :
    Calls Tryd.prog 49 #[u, .agg #[.int .i64 t0, .int .i64 t1], .func (.func 53) #[] #[]] w fun e w' => e = .returned (.tuple #[.int .i64 (pos l t0 t1 : Nat), .bool (hit l t0 t1)]) ∧ Below w.heap.size w w' := by
  rcases Row.ofR ho with ⟨rfl, rfl⟩ | ⟨b, cap, rfl, hm, hr⟩
  · exact search_none53 t0 t1 w
  · exact search_row53 b cap l t0 t1 w hr hsz hs hcmp
end Go.Proofs.YtkahciadkgjbbaaDoor.QPty
namespace Go.Proofs.YtkahciadkgjbbaaDoor.QPty
open Go.RowKit Go.Proofs.YtkahciadkgjbbaaDoorW.PrintWords Go.Proofs.YtkahciadkgjbbaaDoorW.PrintLast Go.Proofs.YtkahciadkgjbbaaDoorW.PrintMore Gen
set_option linter.unusedVariables false
set_option linter.unusedSimpArgs false
theorem run_copy_cells1 {P : Program} (w : World) (dT sT ty elem : TypeId) (b o dLen dCap : Nat) (a : Addr) (sLen sCap : Nat) (cs : List Value)
    (hu : P.underlying dT = some (.slice elem)) (hs : (P.info? elem).map (·.size) = some 1) (hn : cs.length = Nat.min sLen dLen)
    (hsrc : ∀ j v, cs[j]? = some v → w.cell? (a.add j) = some v) (hc : ∀ j, j < cs.length → (w.cell? ⟨b, o + j, none⟩).isSome = true) (hf : ∀ j, j < cs.length → w.frozen? ⟨b, o + j, none⟩ = false) (h1 : ∀ v ∈ cs, v.oneCell' = true) :
    (Builtin.copy_ #[dT, sT] ty #[.slice (some ⟨b, o, none⟩) dLen dCap, .slice (some a) sLen sCap]).run P w = .ok (goInt (Nat.min sLen dLen)) (w.setCells b o cs) := by
  have hl := run_loadCells_list (P := P) w a cs hsrc
  have hst := run_storeCells_cells (P := P) b o cs 0 w (by simpa using hc) (by simpa using hf) h1
  cases hq : P.info? elem with
  | none => simp [hq] at hs
  | some i =>
    have hi : i.size = 1 := by simpa [hq] using hs
    simp [Builtin.copy_, run_underlying hu, Builtin.lenOf, Builtin.firstCells, sizeOf, typeInfo, hq, hi, ← hn, hl, hst]
theorem pv_one (l : List Ent) : ∀ v ∈ l.map pv, v.oneCell' = true := by
  intro v hv
  obtain ⟨x, _, rfl⟩ := List.mem_map.1 hv
  rfl
theorem info63 : (Tryd.prog.info? 63).map (fun i => (i.zero, i.size, i.bytes)) = some (some (.pointer none), 1, 8) := by kernel_rfl
theorem info63s : (Tryd.prog.info? 63).map (·.size) = some 1 := by kernel_rfl
theorem func74 : Tryd.prog.funcs[74]? = some Tryd.f74 := by kernel_rfl
set_option maxHeartbeats 4000000 in
set_option maxRecDepth 100000 in
theorem insert_shift (w0 : World) (blk cap i vb : Nat) (l : List Value) (t : Value) (hone : ∀ v ∈ l, v.oneCell' = true) (hone1 : t.oneCell' = true) (w : World) (hi : i < l.length) (hroom : l.length + 1 ≤ cap) (hc63 : cap ≤ 9223372036854775807) (hr : Row w0 blk cap l w)
    (hvb : w.heap[vb]? = some (.cells #[t] 63 (0, 0))) (hne : vb ≠ blk) :
    Calls Tryd.prog 54 #[.slice (some ⟨blk, 0, none⟩) l.length cap, .int .i64 i, .slice (some ⟨vb, 0, none⟩) 1 1] w fun e w' =>
      e = .returned (.slice (some ⟨blk, 0, none⟩) (l.length + 1) cap) ∧ Row w0 blk cap (l.take i ++ [t] ++ l.drop i) w' := by
  have mixed : Tryd.prog.follows .mixedOrders = true := by kernel_rfl
  obtain ⟨n, hn⟩ : ∃ n, n = l.length := ⟨_, rfl⟩
  have hz2 : ¬ ((i : Int) = (n : Int)) := by omega
  have hv0 : w.cell? ⟨vb, 0, none⟩ = some t := (blk_cell hvb 0).trans rfl
  have hsa : w.shape? vb = some (63, 1) := by simp [World.shape?, hvb]
  obtain ⟨kB, hsb, hkB⟩ : ∃ kB, w.shape? blk = some (63, kB) ∧ kB ≠ 0 := by
    obtain ⟨cur, hb, hs, _⟩ := hr.cells
    exact ⟨cur.size, by simp [World.shape?, hb], by omega⟩
  have hov : ∀ lb cb, (callFunc 74 #[.slice (some ⟨vb, 0, none⟩) 1 1, .slice (some ⟨blk, i + 1, none⟩) lb cb]).run Tryd.prog w = .ok (.value (.bool false)) w := fun lb cb => by
    rw [run_callFunc_extern func74 (by kernel_rfl) (by kernel_rfl) (by kernel_rfl) (e := Extern.SlicesOverlaps.overlaps #[59, 59] #[4]) (by kernel_rfl),
      Lib.run_overlaps_apart w 59 4 63 Tryd.underlying59 1 Tryd.sizeOf63 ⟨vb, 0, none⟩ ⟨blk, i + 1, none⟩ 1 1 lb cb hne 63 63 1 kB hsa hsb hkB (blk_frozen hvb _) (blk_frozen hvb _)]
    rfl
  have hone2 : ∀ v ∈ l.drop i, v.oneCell' = true := fun v hv => hone v (List.mem_of_mem_drop hv)
  have hdl : (l.drop i).length = n - i := by rw [List.length_drop, hn]
  have hcp1 : ∀ ty dc sc, (Builtin.copy_ #[59, 59] ty #[.slice (some ⟨blk, i + 1, none⟩) (n - i) dc, .slice (some ⟨blk, i, none⟩) (n + 1 - i) sc]).run Tryd.prog w.drew = .ok (goInt (Nat.min (n + 1 - i) (n - i))) (w.drew.setCells blk (i + 1) (l.drop i)) := fun ty dc sc =>
    run_copy_cells1 w.drew 59 59 ty 63 blk (i + 1) (n - i) dc ⟨blk, i, none⟩ (n + 1 - i) sc (l.drop i) Tryd.underlying59 info63s (by rw [hdl]; simp only [Nat.min_def]; split <;> omega)
      (fun j v hj => by rw [Addr.add_lit]; rw [List.getElem?_drop] at hj; exact hr.drew.cell (i + j) v hj)
      (fun j hj => (hr.drew.spare _ (by omega)).1) (fun j hj => (hr.drew.spare _ (by omega)).2) hone2
  have R1 : Row w0 blk cap (l.take (i + 1) ++ l.drop i) (w.drew.setCells blk (i + 1) (l.drop i)) := by
    have := hr.drew.write (i + 1) (l.drop i) (by omega) (by rw [List.length_drop]; omega)
    have e : l.drop (i + 1 + (l.drop i).length) = [] := List.drop_of_length_le (by rw [List.length_drop]; omega)
    rw [e, List.append_nil] at this
    exact this
  obtain ⟨W1, hW1⟩ : ∃ W1, W1 = w.drew.setCells blk (i + 1) (l.drop i) := ⟨_, rfl⟩
  rw [← hW1] at hcp1 R1
  have hlen1 : (l.take (i + 1) ++ l.drop i).length = n + 1 := by rw [List.length_append, List.length_take, List.length_drop]; omega
  have hcv : ∀ q, W1.cell? ⟨vb, q, none⟩ = w.cell? ⟨vb, q, none⟩ := fun q => by
    rw [hW1, World.cell?_setCells_out _ _ _ _ _ (fun h _ => absurd h hne)]; rfl
  have hcp2 : ∀ ty dc, (Builtin.copy_ #[59, 59] ty #[.slice (some ⟨blk, i, none⟩) (n + 1 - i) dc, .slice (some ⟨vb, 0, none⟩) 1 1]).run Tryd.prog W1 = .ok (goInt (Nat.min 1 (n + 1 - i))) (W1.setCells blk i [t]) := fun ty dc =>
    run_copy_cells1 W1 59 59 ty 63 blk i (n + 1 - i) dc ⟨vb, 0, none⟩ 1 1 [t] Tryd.underlying59 info63s (by simp only [List.length_singleton, Nat.min_def]; split <;> omega)
      (fun j v hj => by
        rw [Addr.add_lit, hcv]
        match j with
        | 0 => exact hv0.trans hj
        | j + 1 => simp at hj)
      (fun j hj => (R1.spare _ (by simp at hj; omega)).1) (fun j hj => (R1.spare _ (by simp at hj; omega)).2) (fun v hv => by rw [List.mem_singleton.1 hv]; exact hone1)
  have R2 : Row w0 blk cap (l.take i ++ [t] ++ l.drop i) (W1.setCells blk i [t]) := by
    have h := R1.write i [t] (by omega) (by simp; omega)
    have e1 : (l.take (i + 1) ++ l.drop i).take i = l.take i := by
      rw [List.take_append_of_le_length (by rw [List.length_take]; omega), List.take_take, Nat.min_eq_left (by omega)]
    have e2 : (l.take (i + 1) ++ l.drop i).drop (i + [t].length) = l.drop i := by
      rw [List.length_singleton, List.drop_left' (by rw [List.length_take]; omega)]
    rw [e1, e2] at h
    exact h
  have HR2 := Aside0.mk R2
  clear R1 R2
  rw [← hn]
  have hw1 : IntKind.i64.wrap ((i : Int) + 1) = (i : Int) + 1 := by rw [IntKind.wrap_i64]; omega
  have htn : ((i : Int) + 1).toNat = i + 1 := by omega
  have hin : i < n := by omega
  have hb2 : ¬ (cap = i + 1) := by omega
  have hb4 : ¬ (cap = i) := by omega
  have hrm : n + 1 ≤ cap := by omega
  have hb1 : (0 : Int) ≤ (i : Int) + 1 := by omega
  have hb3 : (i : Int) + 1 ≤ (n : Int) + 1 := by omega
  have hb5 : (i : Int) ≤ (n : Int) + 1 := by omega
  have hb6 : i ≤ n := by omega
  have hb7 : i ≤ n + 1 := by omega
  clear hn hr hvb hcv hW1
  go_enter Tryd.func54, Tryd.ntmps54
  go_wp2_with (simp only [hov])
  go_region_law_o (refine step_copy_runI rfl _ _ 59 59 rfl _ _ (by simp [Act.eval, Act.put]) (by simp [Act.eval, Act.put]) (hcp1 _ _ _) ?_)
  go_wp2_with (at_builtin; refine wpList_copy_runI _ rfl _ _ 59 59 rfl _ _ rfl rfl (hcp2 _ _) ?_)
  go_ret
  exact ⟨rfl, HR2.out⟩
set_option maxHeartbeats 4000000 in
set_option maxRecDepth 100000 in
theorem insert_grow (w0 : World) (blk cap i vb : Nat) (l : List Value) (t : Value) (hone : ∀ v ∈ l, v.oneCell' = true) (hone1 : t.oneCell' = true) (w : World) (hi : i < l.length) (hroom : cap < l.length + 1) (hbig : (l.length + 1) * 8 ≤ 140737488355328) (hr : Row w0 blk cap l w)
    (hvb : w.heap[vb]? = some (.cells #[t] 63 (0, 0))) :
    Calls Tryd.prog 54 #[.slice (some ⟨blk, 0, none⟩) l.length cap, .int .i64 i, .slice (some ⟨vb, 0, none⟩) 1 1] w fun e w' =>
      ∃ G, e = .returned (.slice (some ⟨w.heap.size, 0, none⟩) (l.length + 1) G) ∧ l.length + 1 ≤ G ∧ G ≤ maxLen ∧ Row w w.heap.size G (l.take i ++ [t] ++ l.drop i) w' := by
  have mixed : Tryd.prog.follows .mixedOrders = true := by kernel_rfl
  have hfit := hr.fits
  obtain ⟨n, hn⟩ : ∃ n, n = l.length := ⟨_, rfl⟩
  have hz2 : ¬ ((i : Int) = (n : Int)) := by omega
  have hz3 : (cap : Int) < (n : Int) + 1 := by omega
  obtain ⟨i0, hi0, hz0, hzs, hzb⟩ := info_parts info63
  have hbw : blk < w.heap.size := hr.lt
  have hvw : vb < w.heap.size := blk_lt hvb
  have hv0 : w.cell? ⟨vb, 0, none⟩ = some t := (blk_cell hvb 0).trans rfl
  have hkk : (n : Int) + 1 - (i : Int) = ((n + 1 - i : Nat) : Int) := by omega
  have hik : i + (n + 1 - i) = n + 1 := by omega
  have hold : (Builtin.firstCells i0.size i (.slice (some ⟨blk, 0, none⟩) i cap)).run Tryd.prog w.drew = .ok (l.take i).toArray w.drew := by
    rw [hzs]
    exact run_firstCells_some w.drew 1 i ⟨blk, 0, none⟩ i cap (l.take i) (by rw [List.length_take]; omega) (fun j v hj => by
      rw [Addr.add_lit, Nat.zero_add]
      exact (hr.drew.take i).cell j v hj)
  have hrz : ∀ ty, (Builtin.append_ #[59, 3] ty #[.slice (some ⟨blk, 0, none⟩) i cap, .int .i64 ((n : Int) + 1 - (i : Int))]).run Tryd.prog w =
      .ok (.slice (some ⟨w.heap.size, 0, none⟩) (n + 1) (grownCap w (n + 1) cap 63)) (w.drew.alloc (.cells ((l.take i).toArray ++ Builtin.zeroCells (Value.pointer none).cells (n + 1 - i) ++ Builtin.zeroCells (Value.pointer none).cells (grownCap w (n + 1) cap 63 - (n + 1))) 63)) := fun ty => by
    have h := Lib.run_append_grow_zeros w 59 3 ty 63 i0 _ .i64 .i64 Tryd.underlying59 Tryd.underlying3 hi0 hz0 (some ⟨blk, 0, none⟩) i cap (l.take i) hold (n + 1 - i) (by omega) (by omega) (by omega) (by omega) (by rw [hzb]; omega) (by rw [hzb, hik]; exact growslice_fits (by omega) (by omega))
    rw [hik] at h
    rw [hkk]
    exact h
  obtain ⟨G, hG⟩ : ∃ G, G = grownCap w (n + 1) cap 63 := ⟨_, rfl⟩
  have hGn : n + 1 ≤ G := by rw [hG]; exact grownCap_ge w _ _ _
  have hGm : G ≤ maxLen := by rw [hG]; exact grownCap_le_maxLen w (n + 1) cap 63 (by unfold maxLen; omega)
  have hG63 : G ≤ 9223372036854775807 := by unfold maxLen at hGm; omega
  rw [← hG] at hrz
  obtain ⟨W1, hW1⟩ : ∃ W1, W1 = w.drew.alloc (.cells ((l.take i).toArray ++ Builtin.zeroCells (Value.pointer none).cells (n + 1 - i) ++ Builtin.zeroCells (Value.pointer none).cells (G - (n + 1))) 63) := ⟨_, rfl⟩
  rw [← hW1] at hrz
  have lz : ∀ m, (Builtin.zeroCells (Value.pointer none).cells m).toList = List.replicate m (.pointer none) := fun m => by
    apply List.ext_getElem?
    intro j
    by_cases hj : j < m
    · rw [List.getElem?_replicate, if_pos hj]; simp [Builtin.zeroCells, Value.cells, hj, Nat.mod_one]
    · rw [List.getElem?_replicate, if_neg hj]; simp [Builtin.zeroCells, Value.cells]; omega
  have lzs : ∀ m, (Builtin.zeroCells (Value.pointer none).cells m).size = m := fun m => by rw [← Array.length_toList, lz]; simp
  have R0 : Row w w.heap.size G (l.take i ++ List.replicate (n + 1 - i) (.pointer none)) W1 := by
    refine ⟨by rw [hW1]; exact grownBy_below (below_alloc (below_drew1 (Below.refl _ _)) _), ⟨_, by rw [hW1]; exact blk_new w.drew _, ?_, ?_⟩, by simp; omega⟩
    · simp only [Array.size_append, lzs, List.size_toArray, List.length_take]; omega
    · rw [Array.toList_append, Array.toList_append, lz, lz]
      exact List.take_left' rfl
  have R1 : Row w w.heap.size G (l.take i ++ [t] ++ List.replicate (n - i) (.pointer none)) (W1.setCells w.heap.size i [t]) := by
    have h := R0.write i [t] (by simp; omega) (by simp; omega)
    have e1 : (l.take i ++ List.replicate (n + 1 - i) (Value.pointer none)).take i = l.take i := List.take_left' (by rw [List.length_take]; omega)
    have e2 : (l.take i ++ List.replicate (n + 1 - i) (Value.pointer none)).drop (i + [t].length) = List.replicate (n - i) (.pointer none) := by
      rw [List.length_singleton, List.drop_append, List.drop_of_length_le (by rw [List.length_take]; omega), List.nil_append, List.drop_replicate, List.length_take]
      congr 1; omega
    rw [e1, e2] at h
    exact h
  obtain ⟨W2, hW2⟩ : ∃ W2, W2 = W1.setCells w.heap.size i [t] := ⟨_, rfl⟩
  have hB1 : Below w.heap.size w W1 := by rw [hW1]; exact below_alloc (below_drew1 (Below.refl _ _)) _
  have hcpA : ∀ ty dc, (Builtin.copy_ #[59, 59] ty #[.slice (some ⟨w.heap.size, i, none⟩) (n + 1 - i) dc, .slice (some ⟨vb, 0, none⟩) 1 1]).run Tryd.prog W1 = .ok (goInt (Nat.min 1 (n + 1 - i))) W2 := fun ty dc => by
    rw [hW2]
    exact run_copy_cells1 W1 59 59 ty 63 w.heap.size i (n + 1 - i) dc ⟨vb, 0, none⟩ 1 1 [t] Tryd.underlying59 info63s (by simp only [List.length_singleton, Nat.min_def]; split <;> omega)
      (fun j v hj => by
        rw [Addr.add_lit, hB1.cell (p := ⟨vb, 0 + j, none⟩) hvw]
        match j with
        | 0 => exact hv0.trans hj
        | j + 1 => simp at hj)
      (fun j hj => (R0.spare _ (by simp at hj; omega)).1) (fun j hj => (R0.spare _ (by simp at hj; omega)).2) (fun v hv => by rw [List.mem_singleton.1 hv]; exact hone1)
  rw [← hW2] at R1
  have hdl : (l.drop i).length = n - i := by rw [List.length_drop, hn]
  obtain ⟨W3, hW3⟩ : ∃ W3, W3 = W2.drew.setCells w.heap.size (i + 1) (l.drop i) := ⟨_, rfl⟩
  have hcpB : ∀ ty dc sc, (Builtin.copy_ #[59, 59] ty #[.slice (some ⟨w.heap.size, i + 1, none⟩) (n - i) dc, .slice (some ⟨blk, i, none⟩) (n - i) sc]).run Tryd.prog W2.drew = .ok (goInt (Nat.min (n - i) (n - i))) W3 := fun ty dc sc => by
    rw [hW3]
    exact run_copy_cells1 W2.drew 59 59 ty 63 w.heap.size (i + 1) (n - i) dc ⟨blk, i, none⟩ (n - i) sc (l.drop i) Tryd.underlying59 info63s (by rw [hdl]; simp only [Nat.min_def]; split <;> omega)
      (fun j v hj => by
        rw [Addr.add_lit]
        rw [List.getElem?_drop] at hj
        have hc := hr.cell (i + j) v hj
        have h2 : W2.drew.cell? ⟨blk, i + j, none⟩ = W1.cell? ⟨blk, i + j, none⟩ := by
          rw [hW2]
          show (W1.setCells w.heap.size i [t]).cell? _ = _
          rw [World.cell?_setCells_out _ _ _ _ _ (fun h _ => absurd (show blk = w.heap.size from h) (by omega))]
        rw [h2, hB1.cell (p := ⟨blk, i + j, none⟩) hbw]
        exact hc)
      (fun j hj => (R1.drew.spare _ (by omega)).1) (fun j hj => (R1.drew.spare _ (by omega)).2) (fun v hv => hone v (List.mem_of_mem_drop hv))
  have R2 : Row w w.heap.size G (l.take i ++ [t] ++ l.drop i) W3 := by
    rw [hW3]
    have hl1 : (l.take i ++ [t]).length = i + 1 := by rw [List.length_append, List.length_take, List.length_singleton]; omega
    have h := R1.drew.write (i + 1) (l.drop i) (by rw [List.length_append, hl1]; omega) (by rw [List.length_drop]; omega)
    have e1 : (l.take i ++ [t] ++ List.replicate (n - i) (Value.pointer none)).take (i + 1) = l.take i ++ [t] := List.take_left' hl1
    have e2 : (l.take i ++ [t] ++ List.replicate (n - i) (Value.pointer none)).drop (i + 1 + (l.drop i).length) = [] := List.drop_of_length_le (by rw [List.length_append, hl1, List.length_replicate, List.length_drop]; omega)
    rw [e1, e2, List.append_nil] at h
    exact h
  have HR2 := Aside0.mk R2
  have HGM := Aside0.mk hGm
  clear R0 R1 R2 hGm
  rw [← hn]
  have hw1 : IntKind.i64.wrap ((i : Int) + 1) = (i : Int) + 1 := by rw [IntKind.wrap_i64]; omega
  have htn : ((i : Int) + 1).toNat = i + 1 := by omega
  have hin : i < n := by omega
  have hGi : ¬ (G = i) := by omega
  have hGim : ¬ (G = i + 1) := by omega
  have hci : ¬ (cap = i) := by omega
  have hb1 : (0 : Int) ≤ (i : Int) + 1 := by omega
  have hb3 : (i : Int) + 1 ≤ (n : Int) + 1 := by omega
  have hb5 : (i : Int) ≤ (n : Int) + 1 := by omega
  have hb6 : i ≤ n := by omega
  have hb7 : i ≤ n + 1 := by omega
  clear hn hr hvb hW1 hW2 hW3 hB1 hold hkk hik hG lz lzs hdl hv0
  go_enter Tryd.func54, Tryd.ntmps54
  go_wp2_with (first
    | (at_builtin; refine Lib.wpList_append_run _ rfl _ _ _ _ rfl _ _ rfl rfl _ _ (hrz _) ?_)
    | (at_builtin; refine wpList_copy_runI _ rfl _ _ 59 59 rfl _ _ rfl rfl (hcpA _ _) ?_))
  go_region_law_o (refine step_copy_runI rfl _ _ 59 59 rfl (.slice (some ⟨w.heap.size, i + 1, none⟩) (n - i) (G - (i + 1))) (.slice (some ⟨blk, i, none⟩) (n - i) (cap - i)) (by simp [Act.eval, Act.put]) (by simp [Act.eval, Act.put]) (hcpB 3 (G - (i + 1)) (cap - i)) ?_)
  go_wp2
  go_ret
  exact ⟨G, rfl, hGn, HGM.out, HR2.out⟩
theorem C_one {w : World} {vb : Nat} {t : Ent} (h : w.heap[vb]? = some (.cells #[pv t] 63 (0, 0))) : Kd.C kE w (some ⟨vb, 0, none⟩) 1 [t] := by
  have hr : Row w vb 1 ([t].map pv) w := ⟨World.grownBy.refl _ _, ⟨_, h, rfl, rfl⟩, Nat.le_refl _⟩
  exact (Kd.R_reads' (hr.toR (by decide))).2.2
theorem own_cap (A : Option Addr) (n c c' : Nat) : (Value.slice A n c).ownBlock = (Value.slice A n c').ownBlock := by cases A <;> rfl
structure Turn (w : World) (u v : Value) (l : List Ent) (W : World) : Prop where
  row : RE W v l
  wr : Wr w (Blk u) W
  own : v.ownBlock = u.ownBlock ∨ ∀ k, v.ownBlock = some k → w.heap.size ≤ k
theorem wr_of_grown {w W : World} {r : Option Nat} (h : w.grownBy W r) : Wr w (fun k => r = some k) W := ⟨h.os, h.tape, h.output, h.size, fun q hq hn => h.block q hq (fun e => hn e.symm)⟩
set_option maxHeartbeats 4000000 in
set_option maxRecDepth 100000 in
theorem insert_end (u : Value) (l : List Ent) (w : World) (ho : RE w u l) (t : Ent) (vb : Nat)
    (hvb : w.heap[vb]? = some (.cells #[pv t] 63 (0, 0))) (hbig : (l.length + 1) * 8 ≤ 140737488355328) :
    Calls Tryd.prog 54 #[u, .int .i64 (l.length : Nat), .slice (some ⟨vb, 0, none⟩) 1 1] w fun e w' => ∃ v, e = .returned v ∧ Turn w u v (l ++ [t]) w' := by
  have hC := C_one hvb
  obtain ⟨A, c, rfl, hle, hCl⟩ := R_open ho
  have HO := Aside0.mk ho
  have HC := Aside0.mk hC
  have HL := Aside0.mk hbig
  clear ho hC hbig hCl hvb
  go_enter Tryd.func54, Tryd.ntmps54
  go_wp2_with ((with_reducible refine gate_builtin (b := .append) (xs := #[.tmp 23, .tmp 24]) rfl ?_); at_builtin; refine Kd.R_append_rows kE (w0 := w) 0 rfl (.tmp 23) (.tmp 24) 59 63 (.pointer none) 8 rfl Tryd.underlying59 info63 rfl (by decide) (by omega) (.slice A l.length c) l [t] (some ⟨vb, 0, none⟩) 1 1 (fun _ => True) (fun _ => False) rfl rfl ?aO ?aR (fun _ _ h => h) (fun _ h => h.elim) ?aF ?aB ?aS ?aL ?_; (case aR => exact HC.out); (case aB => exact Below.refl 0 w); (case aF => exact (fun k hk => trivial)); (case aO => exact HO.out); (case aS => exact Nat.zero_le _); (case aL => have := HL.out; omega); intro v2 w2 ho2 hb2 hg2 hat; have HO2 := Aside0.mk ho2; have HG2 := Aside0.mk hg2; have HA2 := Aside0.mk hat; clear ho2 hb2 hg2 hat)
  all_goals (go_ret; exact ⟨v2, rfl, HO2.out, (wr_of_grown HG2.out).mono (fun k hk => (own_cap _ _ _ _).trans hk), by rcases HA2.out with h | ⟨q, h, hq⟩; exact .inl (h.trans (own_cap _ _ _ _)); exact .inr (fun k hk => by rw [h] at hk; cases hk; exact hq)⟩)
theorem insert_calls (u : Value) (l : List Ent) (w : World) (ho : RE w u l) (i : Nat) (hi : i ≤ l.length) (t : Ent) (vb : Nat)
    (hvb : w.heap[vb]? = some (.cells #[pv t] 63 (0, 0))) (hne : u.ownBlock ≠ some vb) (hbig : (l.length + 1) * 8 ≤ 140737488355328) :
    Calls Tryd.prog 54 #[u, .int .i64 i, .slice (some ⟨vb, 0, none⟩) 1 1] w fun e w' => ∃ v, e = .returned v ∧ Turn w u v (l.take i ++ [t] ++ l.drop i) w' := by
  by_cases hend : i = l.length
  · subst hend
    rw [List.take_of_length_le (Nat.le_refl _), List.drop_of_length_le (Nat.le_refl _), List.append_nil]
    exact insert_end u l w ho t vb hvb hbig
  · rcases Row.ofR ho with ⟨rfl, rfl⟩ | ⟨b, cap, rfl, hm, hr⟩
    · simp at hi hend; omega
    · have hnb : vb ≠ b := fun e => hne (by rw [e]; rfl)
      have hlt := hr.lt
      have hl : (l.take i ++ [t] ++ l.drop i).length = l.length + 1 := by simp; omega
      have hmp : (l.take i ++ [t] ++ l.drop i).map pv = (l.map pv).take i ++ [pv t] ++ (l.map pv).drop i := by simp
      by_cases hroom : l.length + 1 ≤ cap
      · have := insert_shift w b cap i vb (l.map pv) (pv t) (pv_one l) rfl w (by rw [List.length_map]; omega) (by rw [List.length_map]; omega) (by unfold maxLen at hm; omega) hr hvb hnb
        rw [List.length_map] at this
        refine this.mono ?_
        rintro e w' ⟨rfl, hR⟩
        rw [← hmp] at hR
        refine ⟨_, rfl, ?_, (wr_of_grown hR.grown).mono (fun k hk => hk), .inl rfl⟩
        have := hR.toR hm
        rw [hl] at this
        exact this
      · have := insert_grow w b cap i vb (l.map pv) (pv t) (pv_one l) rfl w (by rw [List.length_map]; omega) (by rw [List.length_map]; omega) (by rw [List.length_map]; omega) hr hvb
        rw [List.length_map] at this
        refine this.mono ?_
        rintro e w' ⟨G, rfl, hG, hGm, hR⟩
        rw [← hmp] at hR
        refine ⟨_, rfl, ?_, ⟨hR.grown.os, hR.grown.tape, hR.grown.output, hR.grown.size, fun q hq hn => hR.grown.block q hq (fun e => by cases e; omega)⟩, .inr (fun k hk => by cases hk; exact Nat.le_refl _)⟩
        have := hR.toR hGm
        rw [hl] at this
        exact this
end Go.Proofs.YtkahciadkgjbbaaDoor.QPty
namespace Go.Proofs.YtkahciadkgjbbaaDoor.QPty
open Go.RowKit Go.Proofs.YtkahciadkgjbbaaDoorW.PrintWords Go.Proofs.YtkahciadkgjbbaaDoorW.PrintLast Go.Proofs.YtkahciadkgjbbaaDoorW.PrintMore Gen
set_option linter.unusedVariables false
set_option linter.unusedSimpArgs false
structure PS where
  a0 : Int
  a1 : Int
  st : Nat
  born : Int
  rg : RG
deriving DecidableEq
structure PM where
  sl : List PS
  dl : List Int
  dat : Nat
  due : Int
  ask : Bool
  fails : Int
structure Pt where
  pb : Nat
  db : Nat
  u : Value
  dv : Value
  sl : List Ent
  dl : List Int
  dat : Nat
  due : Int
  ask : Bool
  fails : Int
def Ent.ps (e : Ent) : PS := ⟨e.a0, e.a1, e.st, e.born, e.rg⟩
def Pt.m (P : Pt) : PM := ⟨P.sl.map Ent.ps, P.dl, P.dat, P.due, P.ask, P.fails⟩
def Pt.F (P : Pt) (k : Nat) : Prop := k = P.pb ∨ k = P.db ∨ Blk P.u k ∨ ∃ e, e ∈ P.sl ∧ (k = e.sb ∨ k = e.rb)
abbrev ptCells (P : Pt) : Array Value := #[P.u, .pointer (some ⟨P.db, 0, none⟩), .int .i64 P.due, .bool P.ask, .int .i64 P.fails]
structure PtAt (w : World) (P : Pt) : Prop where
  par : w.heap[P.pb]? = some (.cells (ptCells P) 61 (0, 0))
  drw : Drw w P.db P.dv P.dl P.dat
  row : RE w P.u P.sl
  ent : ∀ e, e ∈ P.sl → EntAt w e
  nds : (P.sl.map Ent.sb).Nodup
  ndr : (P.sl.map Ent.rb).Nodup
  srt : Srt P.sl
  ok : ∀ e, e ∈ P.sl → e.st < 5 ∧ e.rg.st < 3
  len : P.sl.length ≤ 16
theorem typed_of_row {w : World} {u : Value} {l : List Ent} (h : RE w u l) (q : Nat) (hq : Blk u q) : ∃ cells, w.heap[q]? = some (.cells cells 63 (0, 0)) := by
  obtain ⟨inner, ho⟩ := h.2
  exact own_typed ho.1 q hq
theorem typed_of_drw {w : World} {d at_ : Nat} {v : Value} {l : List Int} (h : Drw w d v l at_) (q : Nat) (hq : Blk v q) : ∃ cells, w.heap[q]? = some (.cells cells 3 (0, 0)) := by
  obtain ⟨inner, ho⟩ := h.row.2
  exact own_typed ho.1 q hq
section
variable {w W : World} {P : Pt} {S : Nat → Prop}
theorem PtAt.F_lt (h : PtAt w P) (k : Nat) (hk : P.F k) : k < w.heap.size := by
  rcases hk with rfl | rfl | hk | ⟨e, he, rfl | rfl⟩
  · exact blk_lt h.par
  · exact blk_lt h.drw.cell
  · obtain ⟨c, hc⟩ := typed_of_row h.row k hk; exact blk_lt hc
  · exact blk_lt (h.ent e he).sl
  · exact blk_lt (h.ent e he).rg
theorem PtAt.F_type (h : PtAt w P) (k : Nat) (hk : P.F k) : ∃ cells t, w.heap[k]? = some (.cells cells t (0, 0)) ∧ (t = 61 ∨ t = 88 ∨ t = 63 ∨ t = 69 ∨ t = 102) := by
  rcases hk with rfl | rfl | hk | ⟨e, he, rfl | rfl⟩
  · exact ⟨_, 61, h.par, by decide⟩
  · exact ⟨_, 88, h.drw.cell, by decide⟩
  · obtain ⟨c, hc⟩ := typed_of_row h.row k hk; exact ⟨c, 63, hc, by decide⟩
  · exact ⟨_, 69, (h.ent e he).sl, by decide⟩
  · exact ⟨_, 102, (h.ent e he).rg, by decide⟩
theorem PtAt.not_F (h : PtAt w P) {k t : Nat} {cells : Array Value} {z : Nat × Nat} (hk : w.heap[k]? = some (.cells cells t z)) (ht : t ≠ 61 ∧ t ≠ 88 ∧ t ≠ 63 ∧ t ≠ 69 ∧ t ≠ 102) : ¬ P.F k := fun hF => by
  obtain ⟨c2, t2, h2, h3⟩ := h.F_type k hF
  rw [hk] at h2
  injection h2 with h2
  injection h2 with _ h2
  rcases h3 with h3 | h3 | h3 | h3 | h3
  · exact ht.1 (h2.trans h3)
  · exact ht.2.1 (h2.trans h3)
  · exact ht.2.2.1 (h2.trans h3)
  · exact ht.2.2.2.1 (h2.trans h3)
  · exact ht.2.2.2.2 (h2.trans h3)
theorem PtAt.kept (h : PtAt w P) (hk : Kept w W S) (hF : ∀ k, P.F k → ¬ S k) (hd : ∀ k, Blk P.dv k → ¬ S k) : PtAt W P where
  par := blk_kept h.par hk (hF _ (.inl rfl))
  drw := h.drw.kept hk (hF _ (.inr (.inl rfl))) hd
  row := R_kept rfl h.row hk (fun q hq => hF q (.inr (.inr (.inl hq))))
  ent := fun e he => (h.ent e he).kept hk (hF _ (.inr (.inr (.inr ⟨e, he, .inl rfl⟩)))) (hF _ (.inr (.inr (.inr ⟨e, he, .inr rfl⟩))))
  nds := h.nds
  ndr := h.ndr
  srt := h.srt
  ok := h.ok
  len := h.len
theorem PtAt.below (h : PtAt w P) (hb : Below w.heap.size w W) : PtAt W P := h.kept (Kept.of_below hb (fun _ => False)) (fun _ _ x => x) (fun _ _ x => x)
theorem PtAt.other (h : PtAt w P) {Q : Pt} (hq : PtAt w Q) (hw : Wr w Q.F W) (hF : ∀ k, P.F k → ¬ Q.F k) : PtAt W P :=
  h.kept hw.kept hF (fun k hk => by obtain ⟨c, hc⟩ := typed_of_drw h.drw k hk; exact hq.not_F hc (by decide))
end
structure PTurn (w : World) (P : Pt) (m : PM) (W : World) (P' : Pt) : Prop where
  at_ : PtAt W P'
  pb : P'.pb = P.pb
  m : P'.m = m
  wr : Wr w P.F W
  own : ∀ k, P'.F k → P.F k ∨ w.heap.size ≤ k
theorem PTurn.refl {w : World} {P : Pt} (h : PtAt w P) : PTurn w P P.m w P := ⟨h, rfl, rfl, Wr.refl _ _, fun _ h => .inl h⟩
theorem PTurn.of_below {w W : World} {P : Pt} (h : PtAt w P) (hb : Below w.heap.size w W) : PTurn w P P.m W P := ⟨h.below hb, rfl, rfl, Wr.of_below hb _, fun _ h => .inl h⟩
theorem PTurn.trans {w W W2 : World} {P P' P2 : Pt} {m m2 : PM} (a : PTurn w P m W P') (b : PTurn W P' m2 W2 P2) : PTurn w P m2 W2 P2 :=
  ⟨b.at_, b.pb.trans a.pb, b.m, a.wr.trans b.wr a.own, fun k hk => (b.own k hk).elim (a.own k) (fun h => .inr (Nat.le_trans a.wr.size h))⟩
theorem PTurn.below {w W W2 : World} {P P' : Pt} {m : PM} (a : PTurn w P m W P') (hb : Below W.heap.size W W2) : PTurn w P m W2 P' :=
  ⟨a.at_.below hb, a.pb, a.m, a.wr.below hb, a.own⟩
theorem PTurn.pre {w W W2 : World} {P P' : Pt} {m : PM} (hb : Below w.heap.size w W) (a : PTurn W P m W2 P') : PTurn w P m W2 P' :=
  ⟨a.at_, a.pb, a.m, (Wr.of_below hb P.F).trans a.wr (fun k hk => .inl hk), fun k hk => (a.own k hk).elim .inl (fun h => .inr (Nat.le_trans hb.size h))⟩
theorem idx_inj {α : Type} {f : Ent → α} {l : List Ent} (h : (l.map f).Nodup) {i j : Nat} (hi : i < l.length) (hj : j < l.length) (e : f l[i] = f l[j]) : i = j := by
  have := List.pairwise_iff_getElem.1 h
  rcases Nat.lt_trichotomy i j with k | k | k
  · exact absurd (by rw [List.getElem_map, List.getElem_map]; exact e) (this i j (by simpa using hi) (by simpa using hj) k)
  · exact k
  · exact absurd (by rw [List.getElem_map, List.getElem_map]; exact e.symm) (this j i (by simpa using hj) (by simpa using hi) k)
theorem PtAt.set {w W : World} {P : Pt} (h : PtAt w P) (i : Nat) (hi : i < P.sl.length) (e : Ent) (hs : e.sb = P.sl[i].sb) (hr : e.rb = P.sl[i].rb) (h0 : e.a0 = P.sl[i].a0) (h1 : e.a1 = P.sl[i].a1) (hok : e.st < 5 ∧ e.rg.st < 3)
    (hw : Wr w (fun k => k = P.sl[i].sb ∨ k = P.sl[i].rb) W) (he : EntAt W e) : PtAt W { P with sl := P.sl.set i e } := by
  have hmem := List.getElem_mem hi
  have hE := h.ent _ hmem
  have t1 : ∀ k cells t z, w.heap[k]? = some (.cells cells t z) → t ≠ 69 → t ≠ 102 → ¬ (k = P.sl[i].sb ∨ k = P.sl[i].rb) := fun k cells t z hk n1 n2 hh => by
    rcases hh with rfl | rfl
    · exact blk_types hk hE.sl n1 rfl
    · exact blk_types hk hE.rg n2 rfl
  have hsb : (P.sl.set i e).map Ent.sb = P.sl.map Ent.sb := by
    rw [List.map_set, hs]
    apply List.ext_getElem (by simp)
    intro j h1 h2
    rw [List.getElem_set]
    split
    · rename_i hh; subst hh; simp
    · rfl
  have hrb : (P.sl.set i e).map Ent.rb = P.sl.map Ent.rb := by
    rw [List.map_set, hr]
    apply List.ext_getElem (by simp)
    intro j h1 h2
    rw [List.getElem_set]
    split
    · rename_i hh; subst hh; simp
    · rfl
  have hpv : (P.sl.set i e).map pv = P.sl.map pv := by
    have : ∀ l : List Ent, l.map pv = (l.map Ent.sb).map fun b => Value.pointer (some ⟨b, 0, none⟩) := fun l => by rw [List.map_map]; rfl
    rw [this, this, hsb]
  refine { par := blk_kept h.par hw.kept (t1 _ _ _ _ h.par (by decide) (by decide)), drw := ?_, row := ?_, ent := ?_, nds := by rw [hsb]; exact h.nds, ndr := by rw [hrb]; exact h.ndr, srt := ?_, ok := ?_, len := by rw [List.length_set]; exact h.len }
  · exact h.drw.kept hw.kept (t1 _ _ _ _ h.drw.cell (by decide) (by decide)) (fun k hk => by obtain ⟨c, hc⟩ := typed_of_drw h.drw k hk; exact t1 _ _ _ _ hc (by decide) (by decide))
  · have h2 := R_kept rfl h.row hw.kept (fun k hk => by obtain ⟨c, hc⟩ := typed_of_row h.row k hk; exact t1 _ _ _ _ hc (by decide) (by decide))
    rcases Row.ofR h2 with ⟨e1, e2⟩ | ⟨b, cap, e1, hm, hr⟩
    · rw [e2] at hi; simp at hi
    · show RE W P.u (P.sl.set i e)
      rw [← hpv] at hr
      have := hr.toR hm
      rw [List.length_set] at this
      rw [e1]; exact this
  · intro x hx
    obtain ⟨j, hj, rfl⟩ := List.getElem_of_mem hx
    rw [List.length_set] at hj
    simp only [List.getElem_set]
    split
    · exact he
    · rename_i hne
      refine (h.ent _ (List.getElem_mem hj)).kept hw.kept ?_ ?_
      · rintro (q | q)
        · exact hne (idx_inj h.nds hi hj q.symm)
        · exact blk_types (h.ent _ (List.getElem_mem hj)).sl hE.rg (by decide) q
      · rintro (q | q)
        · exact blk_types (h.ent _ (List.getElem_mem hj)).rg hE.sl (by decide) q
        · exact hne (idx_inj h.ndr hi hj q.symm)
  · show (P.sl.set i e).Pairwise _
    have := List.pairwise_iff_getElem.1 h.srt
    rw [List.pairwise_iff_getElem]
    intro a b ha hb hab
    rw [List.length_set] at ha hb
    have key := this a b ha hb hab
    simp only [List.getElem_set]
    unfold lx at *
    split
    · rename_i q
      subst q
      rw [if_neg (by omega)]
      rw [h0, h1]; exact key
    · split
      · rename_i q; subst q
        rw [h0, h1]; exact key
      · exact key
  · intro x hx
    rcases List.mem_or_eq_of_mem_set hx with hx | rfl
    · exact h.ok x hx
    · exact hok
theorem F_set {P : Pt} {i : Nat} (hi : i < P.sl.length) {e : Ent} (hs : e.sb = P.sl[i].sb) (hr : e.rb = P.sl[i].rb) (k : Nat) (hk : Pt.F { P with sl := P.sl.set i e } k) : P.F k := by
  rcases hk with h | h | h | ⟨x, hx, hk⟩
  · exact .inl h
  · exact .inr (.inl h)
  · exact .inr (.inr (.inl h))
  · rcases List.mem_or_eq_of_mem_set hx with hx | rfl
    · exact .inr (.inr (.inr ⟨x, hx, hk⟩))
    · exact .inr (.inr (.inr ⟨P.sl[i], List.getElem_mem hi, by rw [← hs, ← hr]; exact hk⟩))
theorem RE.cell {w : World} {A : Option Addr} {n c : Nat} {l : List Ent} (h : RE w (.slice A n c) l) (i : Nat) (hi : i < l.length) : ∃ blk, A = some ⟨blk, 0, none⟩ ∧ w.cell? ⟨blk, i, none⟩ = some (.pointer (some ⟨l[i].sb, 0, none⟩)) := by
  rcases Row.ofR h with ⟨e1, e2⟩ | ⟨b, cap, e1, hm, hr⟩
  · rw [e2] at hi; simp at hi
  · injection e1 with e1
    exact ⟨b, e1, hr.cell i _ (by rw [List.getElem?_map, List.getElem?_eq_getElem hi]; rfl)⟩
def idleP (e : Ent) : Bool := ridle e.rg && decide (e.st = 0)
set_option maxHeartbeats 4000000 in
set_option maxRecDepth 100000 in
theorem idle_calls (e : Ent) (w : World) (h : EntAt w e) : Calls Tryd.prog 58 #[pv e] w fun x w' => x = .returned (.bool (idleP e)) ∧ w' = w := by
  have e79 : ∀ args w, (callFunc 79 args).run Tryd.prog w = .ok (.enter 79 args) w := enters_of Tryd.func79 (by kernel_rfl) rfl
  have e80 : ∀ args w, (callFunc 80 args).run Tryd.prog w = .ok (.enter 80 args) w := enters_of Tryd.func80 (by kernel_rfl) rfl
  have hc : w.cell? ⟨e.sb, 2, none⟩ = some (.pointer (some ⟨e.rb, 0, none⟩)) := (blk_cell h.sl 2).trans rfl
  have H1 := Aside0.mk (ridle_calls e.rb e.rg w h.rg)
  have H2 := Aside0.mk (aidle_calls e.sb e.sl w h.sl)
  unfold idleP
  dsimp only [Ent.sl] at H2
  clear h
  generalize ridle e.rg = b1 at *
  generalize decide (e.st = 0) = b2 at *
  obtain ⟨sb, rb, a0, a1, st, born, rg⟩ := e
  dsimp only at *
  cases b1
  · go_enter Tryd.func58, Tryd.ntmps58
    go_wp2_with (first
      | (go_at_fn 79; with_reducible refine H1.out.mono ?_; rintro x w2 ⟨rfl, e1⟩; have e2 := e1.symm; subst e2)
      | (go_at_fn 80; with_reducible refine H2.out.mono ?_; rintro x w2 ⟨rfl, e1⟩; have e2 := e1.symm; subst e2))
    go_ret
    exact ⟨rfl, rfl⟩
  · go_enter Tryd.func58, Tryd.ntmps58
    go_wp2_with (first
      | (go_at_fn 79; with_reducible refine H1.out.mono ?_; rintro x w2 ⟨rfl, e1⟩; have e2 := e1.symm; subst e2)
      | (go_at_fn 80; with_reducible refine H2.out.mono ?_; rintro x w2 ⟨rfl, e1⟩; have e2 := e1.symm; subst e2))
    go_ret
    exact ⟨rfl, rfl⟩
def PS.idle (s : PS) : Bool := ridle s.rg && decide (s.st = 0)
def PM.tidy (m : PM) : PM := { m with sl := m.sl.filter fun s => !s.idle }
theorem map_drop (l : List Ent) : (dropP l idleP).map Ent.ps = (l.map Ent.ps).filter fun s => !s.idle := by
  unfold dropP
  rw [List.filter_map]
  rfl
set_option maxHeartbeats 4000000 in
set_option maxRecDepth 100000 in
theorem tidy_calls (P : Pt) (w : World) (h : PtAt w P) : Calls Tryd.prog 28 #[.pointer (some ⟨P.pb, 0, none⟩)] w fun x w' => x = .returned (.tuple #[]) ∧ ∃ P', PTurn w P P.m.tidy w' P' ∧ P'.sl = dropP P.sl idleP := by
  have e57 : ∀ args w, (callFunc 57 args).run Tryd.prog w = .ok (.enter 57 args) w := enters_of Tryd.func57 (by kernel_rfl) rfl
  have e58 : ∀ args w, (callFunc 58 args).run Tryd.prog w = .ok (.enter 58 args) w := enters_of Tryd.func58 (by kernel_rfl) rfl
  have h0 : w.cell? ⟨P.pb, 0, none⟩ = some P.u := (blk_cell h.par 0).trans rfl
  have hub : ∀ k cells t z, w.heap[k]? = some (.cells cells t z) → t ≠ 63 → ¬ Blk P.u k := fun k cells t z hk n1 hh => by
    obtain ⟨c, hc⟩ := typed_of_row h.row k hh
    exact blk_types hk hc n1 rfl
  have H := Aside0.mk h
  have HU := Aside0.mk hub
  have HD := Aside0.mk (delete_calls 58 idleP (fun W => ∀ e, e ∈ P.sl → EntAt W e) P.sl (fun x W hx hM => (idle_calls x W (hM x hx)).mono (by rintro e w' ⟨rfl, rfl⟩; exact ⟨rfl, Below.refl _ _⟩)) e58 P.u w
    (fun W hW e he => (h.ent e he).kept hW.kept (hub _ _ _ _ (h.ent e he).sl (by decide)) (hub _ _ _ _ (h.ent e he).rg (by decide))) h.row)
  clear h hub
  go_enter Tryd.func28, Tryd.ntmps28
  go_wp2_with (go_at_fn 57; with_reducible refine HD.out.mono ?_; rintro x w1 ⟨v, rfl, hR, hW, hv⟩; obtain ⟨A1, c1, rfl⟩ := Kd.R_slice hR; have hpar := blk_kept H.out.par hW.kept (HU.out _ _ _ _ H.out.par (by decide)); have hc1 : w1.cell? ⟨P.pb, 0, none⟩ = some P.u := (blk_cell hpar 0).trans rfl; have hf1 := blk_frozen hpar 0; have HR := Aside0.mk hR; have HW := Aside0.mk hW; have HV := Aside0.mk hv; have HP := Aside0.mk hpar; clear hR hW hv hpar)
  go_end0
  obtain ⟨v, hv⟩ : ∃ v, v = Value.slice A1 (dropP P.sl idleP).length c1 := ⟨_, rfl⟩
  rw [← hv] at HR HV ⊢
  have hw2 : Wr w P.F (w1.setCell ⟨P.pb, 0, none⟩ v) := (HW.out.mono (F2 := P.F) (fun k hk => .inr (.inr (.inl hk)))).set (.inl (.inl rfl)) 0 _
  have hk2 : Wr w (fun k => k = P.pb ∨ Blk P.u k) (w1.setCell ⟨P.pb, 0, none⟩ v) := (HW.out.mono (fun k hk => .inr hk)).set (.inl (.inl rfl)) 0 _
  have hnot : ∀ k cells t z, w.heap[k]? = some (.cells cells t z) → t ≠ 63 → t ≠ 61 → ¬ (k = P.pb ∨ Blk P.u k) := fun k cells t z hk n1 n2 hh => by
    rcases hh with rfl | hh
    · exact blk_types hk H.out.par n2 rfl
    · exact HU.out _ _ _ _ hk n1 hh
  have hsub : (dropP P.sl idleP).Sublist P.sl := List.filter_sublist
  have hvne : ∀ q, Blk v q → q ≠ P.pb := fun q hq e => by
    subst e
    exact HU.out _ _ _ _ H.out.par (by decide) (HV.out.symm.trans hq)
  refine ⟨rfl, { P with u := v, sl := dropP P.sl idleP }, ⟨?_, rfl, ?_, hw2, ?_⟩, rfl⟩
  · refine { par := blk_put HP.out 0 _ rfl, drw := ?_, row := ?_, ent := ?_, nds := (hsub.map _).nodup H.out.nds, ndr := (hsub.map _).nodup H.out.ndr, srt := H.out.srt.sublist hsub, ok := fun e he => H.out.ok e (hsub.mem he), len := Nat.le_trans hsub.length_le H.out.len }
    · exact H.out.drw.kept hk2.kept (hnot _ _ _ _ H.out.drw.cell (by decide) (by decide)) (fun q hq => by obtain ⟨c, hc⟩ := typed_of_drw H.out.drw q hq; exact hnot _ _ _ _ hc (by decide) (by decide))
    · exact R_kept rfl HR.out (kept_set _ _ _ _) (fun q hq => hvne q hq)
    · intro e he
      have hE := H.out.ent e (hsub.mem he)
      exact hE.kept hk2.kept (hnot _ _ _ _ hE.sl (by decide) (by decide)) (hnot _ _ _ _ hE.rg (by decide) (by decide))
  · unfold Pt.m PM.tidy
    rw [map_drop]
  · intro k hk
    rcases hk with hk | hk | hk | ⟨e, he, hk⟩
    · exact .inl (.inl hk)
    · exact .inl (.inr (.inl hk))
    · exact .inl (.inr (.inr (.inl (HV.out.symm.trans hk))))
    · exact .inl (.inr (.inr (.inr ⟨e, hsub.mem he, hk⟩)))
end Go.Proofs.YtkahciadkgjbbaaDoor.QPty
namespace Go.Proofs.YtkahciadkgjbbaaDoor.QPty
open Go.RowKit Go.Proofs.YtkahciadkgjbbaaDoorW.PrintWords Go.Proofs.YtkahciadkgjbbaaDoorW.PrintLast Go.Proofs.YtkahciadkgjbbaaDoorW.PrintMore Gen
set_option linter.unusedVariables false
set_option linter.unusedSimpArgs false
theorem hit_lt {l : List Ent} {a0 a1 : Int} (h : hit l a0 a1 = true) : ∃ hi : pos l a0 a1 < l.length, Same (l[pos l a0 a1]'hi) a0 a1 := by
  unfold hit at h
  split at h
  · rename_i x hx
    obtain ⟨hi, rfl⟩ := List.getElem?_eq_some_iff.1 hx
    exact ⟨hi, of_decide_eq_true h⟩
  · cases h
set_option maxHeartbeats 4000000 in
set_option maxRecDepth 100000 in
theorem find_miss (P : Pt) (a0 a1 : Int) (w : World) (h : PtAt w P) (hh : hit P.sl a0 a1 = false) :
    Calls Tryd.prog 25 #[.pointer (some ⟨P.pb, 0, none⟩), .agg #[.int .i64 a0, .int .i64 a1]] w fun x w' => x = .returned (.pointer none) ∧ Below w.heap.size w w' := by
  have mixed : Tryd.prog.follows .mixedOrders = true := by kernel_rfl
  have e49 : ∀ args w, (callFunc 49 args).run Tryd.prog w = .ok (.enter 49 args) w := enters_of Tryd.func49 (by kernel_rfl) rfl
  have hu28 := Tryd.underlying28
  have HPw := Aside0.mk h
  clear h
  go_enter Tryd.func25, Tryd.ntmps25
  go_wp2_with ((with_reducible refine gate_dst (N := 3) rfl ?_); refine box_event ?hg (N := 3) ?hd (cs := #[.int .i64 a0, .int .i64 a1]) (t := 28) ?hr ?_; (case hd => rfl); (case hg => rfl); (case hr => first | (go_simp; done) | (go_simp; rfl)); intro tb hg w1 hbox hb; have HB := Aside0.mk hb; have BX := Aside0.mk hbox; clear hb hbox hg)
  have HP := Aside0.mk (HPw.out.below HB.out)
  have H0 := Aside0.mk (fun W (hb : Below w1.heap.size w1 W) => show W.cell? ⟨P.pb, 0, none⟩ = some P.u from (blk_cell (blk_below HP.out.par hb) 0).trans rfl)
  have HT0 := Aside0.mk (fun W (hb : Below w1.heap.size w1 W) => show W.cell? ⟨tb, 0, none⟩ = some (.int .i64 a0) from (blk_cell (blk_below BX.out hb) 0).trans rfl)
  have HT1 := Aside0.mk (fun W (hb : Below w1.heap.size w1 W) => show W.cell? ⟨tb, 1, none⟩ = some (.int .i64 a1) from (blk_cell (blk_below BX.out hb) 1).trans rfl)
  have HSR := Aside0.mk (fun W (hb : Below w1.heap.size w1 W) => search_calls50 P.u P.sl a0 a1 W (Kd.R_below HP.out.row hb) (by have := HP.out.len; omega) HP.out.srt (fun x W2 hx hb2 => cmp50_calls x a0 a1 W2 (((HP.out.ent x hx).below hb).below hb2)))
  have h0 := H0.out w1 (Below.refl _ _)
  have ht0 := HT0.out w1 (Below.refl _ _)
  have ht1 := HT1.out w1 (Below.refl _ _)
  rw [hh] at HSR
  obtain ⟨A, c, hu⟩ := Kd.R_slice HP.out.row
  rw [hu] at h0 H0 HSR
  generalize P.sl.length = n at *
  generalize (pos P.sl a0 a1 : Nat) = ps at *
  clear hh
  generalize P.pb = pb at *
  go_region_held3 (fun W => W.cell? ⟨pb, 0, none⟩ = some (.slice A n c) ∧ W.cell? ⟨tb, 0, none⟩ = some (.int .i64 a0) ∧ W.cell? ⟨tb, 1, none⟩ = some (.int .i64 a1) ∧ Below w1.heap.size w1 W) (first | exact ⟨H0.out _ (by repeat (with_reducible first | assumption | exact Below.refl _ _ | apply below_alloc | apply pw_below_drewN | apply below_drew1 | refine below_set ?_ (by first | exact Nat.le_refl _ | assumption))), HT0.out _ (by repeat (with_reducible first | assumption | exact Below.refl _ _ | apply below_alloc | apply pw_below_drewN | apply below_drew1 | refine below_set ?_ (by first | exact Nat.le_refl _ | assumption))), HT1.out _ (by repeat (with_reducible first | assumption | exact Below.refl _ _ | apply below_alloc | apply pw_below_drewN | apply below_drew1 | refine below_set ?_ (by first | exact Nat.le_refl _ | assumption))), (by repeat (with_reducible first | assumption | exact Below.refl _ _ | apply below_alloc | apply pw_below_drewN | apply below_drew1 | refine below_set ?_ (by first | exact Nat.le_refl _ | assumption)))⟩)
    (first | (go_at_call 49; with_reducible refine (HSR.out _ (by repeat (with_reducible first | assumption | exact Below.refl _ _ | apply below_alloc | apply pw_below_drewN | apply below_drew1 | refine below_set ?_ (by first | exact Nat.le_refl _ | assumption)))).mono ?_; rintro x w2 ⟨rfl, hb2⟩; replace hb2 := below_step (show Below w1.heap.size w1 _ from (by repeat (with_reducible first | assumption | exact Below.refl _ _ | apply below_alloc | apply pw_below_drewN | apply below_drew1 | refine below_set ?_ (by first | exact Nat.le_refl _ | assumption)))) hb2; have hs2 := hb2.size))
  all_goals
    rename_i hS9
    have HB9 := Aside0.mk (below_step HB.out hS9.2.2.2)
    clear hS9
    go_wp2
    go_ret
    exact ⟨rfl, HB9.out⟩
set_option maxHeartbeats 4000000 in
set_option maxRecDepth 100000 in
theorem find_hit (P : Pt) (a0 a1 : Int) (w : World) (h : PtAt w P) (hh : hit P.sl a0 a1 = true) (hi : pos P.sl a0 a1 < P.sl.length) :
    Calls Tryd.prog 25 #[.pointer (some ⟨P.pb, 0, none⟩), .agg #[.int .i64 a0, .int .i64 a1]] w fun x w' => x = .returned (pv (P.sl[pos P.sl a0 a1]'hi)) ∧ Below w.heap.size w w' := by
  have mixed : Tryd.prog.follows .mixedOrders = true := by kernel_rfl
  have e49 : ∀ args w, (callFunc 49 args).run Tryd.prog w = .ok (.enter 49 args) w := enters_of Tryd.func49 (by kernel_rfl) rfl
  have hu28 := Tryd.underlying28
  have HPw := Aside0.mk h
  clear h
  go_enter Tryd.func25, Tryd.ntmps25
  go_wp2_with ((with_reducible refine gate_dst (N := 3) rfl ?_); refine box_event ?hg (N := 3) ?hd (cs := #[.int .i64 a0, .int .i64 a1]) (t := 28) ?hr ?_; (case hd => rfl); (case hg => rfl); (case hr => first | (go_simp; done) | (go_simp; rfl)); intro tb hg w1 hbox hb; have HB := Aside0.mk hb; have BX := Aside0.mk hbox; clear hb hbox hg)
  have HP := Aside0.mk (HPw.out.below HB.out)
  have H0 := Aside0.mk (fun W (hb : Below w1.heap.size w1 W) => show W.cell? ⟨P.pb, 0, none⟩ = some P.u from (blk_cell (blk_below HP.out.par hb) 0).trans rfl)
  have HT0 := Aside0.mk (fun W (hb : Below w1.heap.size w1 W) => show W.cell? ⟨tb, 0, none⟩ = some (.int .i64 a0) from (blk_cell (blk_below BX.out hb) 0).trans rfl)
  have HT1 := Aside0.mk (fun W (hb : Below w1.heap.size w1 W) => show W.cell? ⟨tb, 1, none⟩ = some (.int .i64 a1) from (blk_cell (blk_below BX.out hb) 1).trans rfl)
  have HSR := Aside0.mk (fun W (hb : Below w1.heap.size w1 W) => search_calls50 P.u P.sl a0 a1 W (Kd.R_below HP.out.row hb) (by have := HP.out.len; omega) HP.out.srt (fun x W2 hx hb2 => cmp50_calls x a0 a1 W2 (((HP.out.ent x hx).below hb).below hb2)))
  have h0 := H0.out w1 (Below.refl _ _)
  have ht0 := HT0.out w1 (Below.refl _ _)
  have ht1 := HT1.out w1 (Below.refl _ _)
  rw [hh] at HSR
  have hps : ((pos P.sl a0 a1 : Nat) : Int) < (P.sl.length : Int) := by omega
  obtain ⟨A, c, hu⟩ := Kd.R_slice HP.out.row
  rw [hu] at h0 H0 HSR
  have HROW := Aside0.mk (fun W (hb : Below w1.heap.size w1 W) => RE.cell (hu ▸ Kd.R_below HP.out.row hb : RE W (.slice A P.sl.length c) P.sl) (pos P.sl a0 a1) hi)
  obtain ⟨sbx, hsl⟩ : ∃ s, s = (P.sl[pos P.sl a0 a1]'hi).sb := ⟨_, rfl⟩
  rw [← hsl] at HROW
  have HG := Aside0.mk (show pv (P.sl[pos P.sl a0 a1]'hi) = .pointer (some ⟨sbx, 0, none⟩) by rw [hsl])
  clear hsl hh
  obtain ⟨n, hn⟩ : ∃ n, n = P.sl.length := ⟨_, rfl⟩
  obtain ⟨ps, hpp⟩ : ∃ n, n = pos P.sl a0 a1 := ⟨_, rfl⟩
  obtain ⟨pb, hpb⟩ : ∃ n, n = P.pb := ⟨_, rfl⟩
  rw [← hn, ← hpp] at hps HSR
  rw [← hpp] at HROW
  rw [← hn] at h0 H0
  rw [← hpb] at h0 H0
  rw [← hpb]
  clear hn hpp hpb
  go_region_held3 (fun W => W.cell? ⟨pb, 0, none⟩ = some (.slice A n c) ∧ W.cell? ⟨tb, 0, none⟩ = some (.int .i64 a0) ∧ W.cell? ⟨tb, 1, none⟩ = some (.int .i64 a1) ∧ Below w1.heap.size w1 W) (first | exact ⟨H0.out _ (by repeat (with_reducible first | assumption | exact Below.refl _ _ | apply below_alloc | apply pw_below_drewN | apply below_drew1 | refine below_set ?_ (by first | exact Nat.le_refl _ | assumption))), HT0.out _ (by repeat (with_reducible first | assumption | exact Below.refl _ _ | apply below_alloc | apply pw_below_drewN | apply below_drew1 | refine below_set ?_ (by first | exact Nat.le_refl _ | assumption))), HT1.out _ (by repeat (with_reducible first | assumption | exact Below.refl _ _ | apply below_alloc | apply pw_below_drewN | apply below_drew1 | refine below_set ?_ (by first | exact Nat.le_refl _ | assumption))), (by repeat (with_reducible first | assumption | exact Below.refl _ _ | apply below_alloc | apply pw_below_drewN | apply below_drew1 | refine below_set ?_ (by first | exact Nat.le_refl _ | assumption)))⟩)
    (first | (go_at_call 49; with_reducible refine (HSR.out _ (by repeat (with_reducible first | assumption | exact Below.refl _ _ | apply below_alloc | apply pw_below_drewN | apply below_drew1 | refine below_set ?_ (by first | exact Nat.le_refl _ | assumption)))).mono ?_; rintro x w2 ⟨rfl, hb2⟩; replace hb2 := below_step (show Below w1.heap.size w1 _ from (by repeat (with_reducible first | assumption | exact Below.refl _ _ | apply below_alloc | apply pw_below_drewN | apply below_drew1 | refine below_set ?_ (by first | exact Nat.le_refl _ | assumption)))) hb2; have hs2 := hb2.size))
  all_goals
    rename_i hS9
    have HB9 := Aside0.mk (below_step HB.out hS9.2.2.2)
    have hc9 := hS9.1
    obtain ⟨blk, e, hcell⟩ := HROW.out _ hS9.2.2.2
    subst e
    clear hS9
    go_wp2
    go_ret
    exact ⟨by rw [HG.out]; rfl, HB9.out⟩
end Go.Proofs.YtkahciadkgjbbaaDoor.QPty
namespace Go.Proofs.YtkahciadkgjbbaaDoor.QPty
open Go.RowKit Go.Proofs.YtkahciadkgjbbaaDoorW.PrintWords Go.Proofs.YtkahciadkgjbbaaDoorW.PrintLast Go.Proofs.YtkahciadkgjbbaaDoorW.PrintMore Gen
set_option linter.unusedVariables false
set_option linter.unusedSimpArgs false
def PS.lx (s : PS) (t0 t1 : Int) : Prop := s.a0 < t0 ∨ s.a0 = t0 ∧ s.a1 < t1
instance (s : PS) (t0 t1 : Int) : Decidable (s.lx t0 t1) := by unfold PS.lx; infer_instance
def PS.is (s : PS) (t0 t1 : Int) : Bool := decide (s.a0 = t0 ∧ s.a1 = t1)
def posS (l : List PS) (t0 t1 : Int) : Nat := l.countP fun x => decide (x.lx t0 t1)
def hitS (l : List PS) (t0 t1 : Int) : Bool := l.any fun x => x.is t0 t1
theorem pos_map (l : List Ent) (t0 t1 : Int) : posS (l.map Ent.ps) t0 t1 = pos l t0 t1 := by unfold posS pos; rw [List.countP_map]; rfl
theorem pos_spec (t0 t1 : Int) : ∀ l : List Ent, Srt l → (∀ q, (hq : q < l.length) → q < pos l t0 t1 → lx l[q] t0 t1) ∧ (∀ q, (hq : q < l.length) → pos l t0 t1 ≤ q → ¬ lx l[q] t0 t1)
  | [], _ => ⟨fun q hq => by simp at hq, fun q hq => by simp at hq⟩
  | x :: r, h => by
    have hr := pos_spec t0 t1 r (List.Pairwise.of_cons h)
    have hx : ∀ y, y ∈ r → lx x y.a0 y.a1 := (List.pairwise_cons.1 h).1
    by_cases c : lx x t0 t1
    · have e : pos (x :: r) t0 t1 = pos r t0 t1 + 1 := by unfold pos; rw [List.countP_cons_of_pos (by simpa using c)]
      rw [e]
      refine ⟨fun q hq hlt => ?_, fun q hq hle => ?_⟩
      · cases q with
        | zero => exact c
        | succ q => exact hr.1 q (by simpa using hq) (by omega)
      · cases q with
        | zero => omega
        | succ q => exact hr.2 q (by simpa using hq) (by omega)
    · have hall : ∀ y, y ∈ r → ¬ lx y t0 t1 := fun y hy hh => c (lx_trans (hx y hy) hh)
      have e : pos (x :: r) t0 t1 = 0 := by
        unfold pos
        rw [List.countP_eq_zero]
        intro y hy
        rcases List.mem_cons.1 hy with rfl | hy
        · simpa using c
        · simpa using hall y hy
      rw [e]
      refine ⟨fun q hq hlt => absurd hlt (by omega), fun q hq _ => ?_⟩
      cases q with
      | zero => exact c
      | succ q => exact hall _ (List.getElem_mem (by simpa using hq))
theorem Same.not_lx {x : Ent} {t0 t1 : Int} (h : Same x t0 t1) : ¬ lx x t0 t1 := by unfold Same lx at *; omega
theorem hit_none {l : List Ent} {t0 t1 : Int} (hs : Srt l) (h : hit l t0 t1 = false) : ∀ x, x ∈ l → ¬ Same x t0 t1 := by
  intro x hx hsm
  obtain ⟨i, hi, rfl⟩ := List.getElem_of_mem hx
  have hp := pos_spec t0 t1 l hs
  have h1 : pos l t0 t1 ≤ i := by
    rcases Nat.lt_or_ge i (pos l t0 t1) with k | k
    · exact absurd (hp.1 i hi k) hsm.not_lx
    · exact k
  unfold hit at h
  rw [List.getElem?_eq_getElem (by omega)] at h
  have hne : ¬ Same (l[pos l t0 t1]'(by omega)) t0 t1 := of_decide_eq_false h
  rcases Nat.lt_or_ge (pos l t0 t1) i with k | k
  · have hlt := List.pairwise_iff_getElem.1 hs (pos l t0 t1) i (by omega) hi k
    have := hp.2 (pos l t0 t1) (by omega) (Nat.le_refl _)
    unfold Same at hsm
    rw [hsm.1, hsm.2] at hlt
    exact this hlt
  · obtain rfl : i = pos l t0 t1 := by omega
    exact hne hsm
theorem hit_map {l : List Ent} (hs : Srt l) (t0 t1 : Int) : hitS (l.map Ent.ps) t0 t1 = hit l t0 t1 := by
  unfold hitS
  rw [List.any_map]
  rcases Bool.eq_false_or_eq_true (hit l t0 t1) with h | h
  · obtain ⟨hi, hsm⟩ := hit_lt h
    rw [h, List.any_eq_true]
    exact ⟨_, List.getElem_mem hi, by show PS.is _ _ _ = true; unfold PS.is; exact decide_eq_true hsm⟩
  · rw [h, List.any_eq_false]
    intro x hx
    have := hit_none hs h x hx
    show ¬ PS.is _ _ _ = true
    unfold PS.is
    rw [decide_eq_true_eq]
    exact this
theorem srt_ins {l : List Ent} (hs : Srt l) {t : Ent} (h : hit l t.a0 t.a1 = false) : Srt (l.take (pos l t.a0 t.a1) ++ [t] ++ l.drop (pos l t.a0 t.a1)) := by
  have hp := pos_spec t.a0 t.a1 l hs
  have hn := hit_none hs h
  generalize pos l t.a0 t.a1 = p at *
  have h1 : ∀ x, x ∈ l.take p → lx x t.a0 t.a1 := fun x hx => by
    obtain ⟨i, hi, rfl⟩ := List.getElem_of_mem hx
    rw [List.length_take] at hi
    rw [List.getElem_take]
    exact hp.1 i (by omega) (by omega)
  have h2 : ∀ x, x ∈ l.drop p → lx t x.a0 x.a1 := fun x hx => by
    obtain ⟨i, hi, rfl⟩ := List.getElem_of_mem hx
    rw [List.length_drop] at hi
    have k1 := hp.2 (p + i) (by omega) (by omega)
    have k2 := hn _ (List.getElem_mem (show p + i < l.length by omega))
    rw [List.getElem_drop]
    unfold lx Same at *
    omega
  show (l.take p ++ [t] ++ l.drop p).Pairwise _
  rw [List.append_assoc, List.pairwise_append]
  refine ⟨hs.sublist (List.take_sublist _ _), ?_, fun x hx y hy => ?_⟩
  · rw [List.singleton_append, List.pairwise_cons]
    exact ⟨h2, hs.sublist (List.drop_sublist _ _)⟩
  · rw [List.singleton_append] at hy
    rcases List.mem_cons.1 hy with rfl | hy
    · exact h1 x hx
    · exact lx_trans (h1 x hx) (h2 y hy)
def PM.upd (m : PM) (t0 t1 : Int) (f : PS → PS) : PM := { m with sl := m.sl.map fun s => if s.is t0 t1 then f s else s }
theorem set_upd {l : List Ent} (hs : Srt l) {i : Nat} (hi : i < l.length) {t0 t1 : Int} (hsm : Same l[i] t0 t1) (e : Ent) (f : PS → PS) (hf : e.ps = f l[i].ps) :
    (l.set i e).map Ent.ps = (l.map Ent.ps).map fun s => if s.is t0 t1 then f s else s := by
  apply List.ext_getElem (by simp)
  intro j h1 h2
  simp only [List.length_map, List.length_set] at h1
  simp only [List.getElem_map, List.getElem_set]
  have he : ∀ x : Ent, x.ps.is t0 t1 = decide (Same x t0 t1) := fun x => rfl
  rw [he]
  by_cases c : i = j
  · subst c
    rw [if_pos rfl, if_pos (by simpa using hsm), hf]
  · rw [if_neg c, if_neg]
    simp only [decide_eq_true_eq]
    intro hh
    have hpw := List.pairwise_iff_getElem.1 hs
    rcases Nat.lt_trichotomy i j with k | k | k
    · have := hpw i j hi h1 k; unfold lx Same at *; omega
    · exact c k
    · have := hpw j i h1 hi k; unfold lx Same at *; omega
def psNew (t0 t1 : Int) : PS := ⟨t0, t1, 0, 0, ⟨0, 0, 0, 0⟩⟩
def insS (l : List PS) (t0 t1 : Int) : List PS := l.take (posS l t0 t1) ++ [psNew t0 t1] ++ l.drop (posS l t0 t1)
def PM.room (m : PM) (t0 t1 : Int) : PM :=
  if hitS m.sl t0 t1 then m else if 16 ≤ m.sl.length then { m with fails := wrap64 (m.fails + 1) } else { m with sl := insS m.sl t0 t1 }
set_option maxHeartbeats 4000000 in
set_option maxRecDepth 100000 in
theorem room_hit (P : Pt) (a0 a1 : Int) (w : World) (h : PtAt w P) (hh : hit P.sl a0 a1 = true) (hi : pos P.sl a0 a1 < P.sl.length) :
    Calls Tryd.prog 26 #[.pointer (some ⟨P.pb, 0, none⟩), .agg #[.int .i64 a0, .int .i64 a1]] w fun x w' => x = .returned (pv (P.sl[pos P.sl a0 a1]'hi)) ∧ Below w.heap.size w w' := by
  have e25 : ∀ args w, (callFunc 25 args).run Tryd.prog w = .ok (.enter 25 args) w := enters_of Tryd.func25 (by kernel_rfl) rfl
  have hu28 := Tryd.underlying28
  have HPw := Aside0.mk h
  clear h
  go_enter Tryd.func26, Tryd.ntmps26
  go_wp2_with (first
    | (((with_reducible refine gate_dst (N := 3) rfl ?_); refine box_event ?hg (N := 3) ?hd (cs := #[.int .i64 a0, .int .i64 a1]) (t := 28) ?hr ?_; (case hd => rfl); (case hg => rfl); (case hr => first | (go_simp; done) | (go_simp; rfl)); intro tb hg w1 hbox hb; have HB := Aside0.mk hb; have BX := Aside0.mk hbox; clear hb hbox hg); have hb0 : w1.cell? ⟨tb, 0, none⟩ = some (.int .i64 a0) := (blk_cell BX.out 0).trans rfl; have hb1 : w1.cell? ⟨tb, 1, none⟩ = some (.int .i64 a1) := (blk_cell BX.out 1).trans rfl)
    | (go_at_fn 25; with_reducible refine (find_hit P a0 a1 _ (HPw.out.below HB.out) hh hi).mono ?_; rintro x w2 ⟨rfl, hb2⟩; have HB2 := Aside0.mk (below_step HB.out hb2); clear hb2))
  go_ret
  exact ⟨rfl, HB2.out⟩
set_option maxHeartbeats 4000000 in
set_option maxRecDepth 100000 in
theorem room_full (P : Pt) (a0 a1 : Int) (w : World) (h : PtAt w P) (hh : hit P.sl a0 a1 = false) (hl : 16 ≤ P.sl.length) :
    Calls Tryd.prog 26 #[.pointer (some ⟨P.pb, 0, none⟩), .agg #[.int .i64 a0, .int .i64 a1]] w fun x w' => x = .returned (.pointer none) ∧ PTurn w P { P.m with fails := wrap64 (P.fails + 1) } w' { P with fails := wrap64 (P.fails + 1) } := by
  have e25 : ∀ args w, (callFunc 25 args).run Tryd.prog w = .ok (.enter 25 args) w := enters_of Tryd.func25 (by kernel_rfl) rfl
  have hu28 := Tryd.underlying28
  have HPw := Aside0.mk h
  have hl16 : (16 : Int) ≤ (P.sl.length : Int) := by omega
  obtain ⟨A, c, hu⟩ := Kd.R_slice h.row
  clear h
  go_enter Tryd.func26, Tryd.ntmps26
  go_wp2_with (first
    | (((with_reducible refine gate_dst (N := 3) rfl ?_); refine box_event ?hg (N := 3) ?hd (cs := #[.int .i64 a0, .int .i64 a1]) (t := 28) ?hr ?_; (case hd => rfl); (case hg => rfl); (case hr => first | (go_simp; done) | (go_simp; rfl)); intro tb hg w1 hbox hb; have HB := Aside0.mk hb; have BX := Aside0.mk hbox; clear hb hbox hg); have hb0 : w1.cell? ⟨tb, 0, none⟩ = some (.int .i64 a0) := (blk_cell BX.out 0).trans rfl; have hb1 : w1.cell? ⟨tb, 1, none⟩ = some (.int .i64 a1) := (blk_cell BX.out 1).trans rfl)
    | (go_at_fn 25; with_reducible refine (find_miss P a0 a1 _ (HPw.out.below HB.out) hh).mono ?_; rintro x w2 ⟨rfl, hb2⟩; have HP2 := Aside0.mk ((HPw.out.below HB.out).below hb2); have HB2 := Aside0.mk (below_step HB.out hb2); have h0 : w2.cell? ⟨P.pb, 0, none⟩ = some P.u := (blk_cell HP2.out.par 0).trans rfl; rw [hu] at h0; have h4 : w2.cell? ⟨P.pb, 4, none⟩ = some (.int .i64 P.fails) := (blk_cell HP2.out.par 4).trans rfl; have hf4 := blk_frozen HP2.out.par 4; clear hb2))
  go_ret
  have hk := kept_set w2 P.pb 4 (.int .i64 (wrap64 (P.fails + 1)))
  have hnot : ∀ k cells t z, w2.heap[k]? = some (.cells cells t z) → t ≠ 61 → ¬ k = P.pb := fun k cells t z hk n1 e => blk_types hk HP2.out.par n1 e
  refine ⟨rfl, { at_ := ?_, pb := rfl, m := rfl, wr := (Wr.of_below HB2.out P.F).set (.inl (.inl rfl)) 4 _, own := fun k hk => .inl hk }⟩
  exact { par := blk_put HP2.out.par 4 _ rfl, drw := HP2.out.drw.kept hk (hnot _ _ _ _ HP2.out.drw.cell (by decide)) (fun q hq => by obtain ⟨c, hc⟩ := typed_of_drw HP2.out.drw q hq; exact hnot _ _ _ _ hc (by decide)), row := R_kept rfl HP2.out.row hk (fun q hq => by obtain ⟨c, hc⟩ := typed_of_row HP2.out.row q hq; exact hnot _ _ _ _ hc (by decide)), ent := fun e he => (HP2.out.ent e he).kept hk (hnot _ _ _ _ (HP2.out.ent e he).sl (by decide)) (hnot _ _ _ _ (HP2.out.ent e he).rg (by decide)), nds := HP2.out.nds, ndr := HP2.out.ndr, srt := HP2.out.srt, ok := HP2.out.ok, len := HP2.out.len }
theorem mem_ins {l : List Ent} {p : Nat} {t x : Ent} (h : x ∈ l.take p ++ [t] ++ l.drop p) : x ∈ l ∨ x = t := by
  rcases List.mem_append.1 h with h | h
  · rcases List.mem_append.1 h with h | h
    · exact .inl (List.mem_of_mem_take h)
    · exact .inr (List.mem_singleton.1 h)
  · exact .inl (List.mem_of_mem_drop h)
theorem nodup_ins {f : Ent → Nat} {l : List Ent} {p : Nat} {t : Ent} (h : (l.map f).Nodup) (hn : ∀ x, x ∈ l → f x ≠ f t) : ((l.take p ++ [t] ++ l.drop p).map f).Nodup := by
  have hd : (l.take p ++ l.drop p) = l := List.take_append_drop p l
  have hp : ((l.take p ++ [t] ++ l.drop p).map f).Perm ((t :: l).map f) := by
    refine List.Perm.map f ?_
    have : (l.take p ++ [t] ++ l.drop p).Perm (t :: (l.take p ++ l.drop p)) := by
      rw [List.append_assoc, List.singleton_append]
      exact List.perm_middle
    rw [hd] at this
    exact this
  rw [hp.nodup_iff, List.map_cons, List.nodup_cons]
  refine ⟨fun hm => ?_, h⟩
  obtain ⟨x, hx, e⟩ := List.mem_map.1 hm
  exact hn x hx e
theorem PtAt.ins {w W7 : World} {P : Pt} (h : PtAt w P) {t : Ent} {v : Value} (hs : hit P.sl t.a0 t.a1 = false) (hl : P.sl.length < 16) (ht : EntAt w t) (hok : t.st < 5 ∧ t.rg.st < 3) (hns : ∀ x, x ∈ P.sl → x.sb ≠ t.sb) (hnr : ∀ x, x ∈ P.sl → x.rb ≠ t.rb)
    (T : Turn w P.u v (P.sl.take (pos P.sl t.a0 t.a1) ++ [t] ++ P.sl.drop (pos P.sl t.a0 t.a1)) W7) :
    PtAt (W7.setCell ⟨P.pb, 0, none⟩ v) { P with u := v, sl := P.sl.take (pos P.sl t.a0 t.a1) ++ [t] ++ P.sl.drop (pos P.sl t.a0 t.a1) } ∧ Wr w P.F (W7.setCell ⟨P.pb, 0, none⟩ v) := by
  have hub : ∀ k cells t z, w.heap[k]? = some (.cells cells t z) → t ≠ 63 → ¬ Blk P.u k := fun k cells t z hk n1 hh => by
    obtain ⟨c, hc⟩ := typed_of_row h.row k hh
    exact blk_types hk hc n1 rfl
  have hpar := blk_kept h.par T.wr.kept (hub _ _ _ _ h.par (by decide))
  have hk2 : Wr w (fun k => k = P.pb ∨ Blk P.u k) (W7.setCell ⟨P.pb, 0, none⟩ v) := (T.wr.mono (fun k hk => .inr hk)).set (.inl (.inl rfl)) 0 _
  have hnot : ∀ k cells t z, w.heap[k]? = some (.cells cells t z) → t ≠ 63 → t ≠ 61 → ¬ (k = P.pb ∨ Blk P.u k) := fun k cells t z hk n1 n2 hh => by
    rcases hh with rfl | hh
    · exact blk_types hk h.par n2 rfl
    · exact hub _ _ _ _ hk n1 hh
  have hvne : ∀ q, Blk v q → q ≠ P.pb := fun q hq e => by
    subst e
    rcases T.own with k | k
    · exact hub _ _ _ _ h.par (by decide) (k.symm.trans hq)
    · have := k _ hq
      have := blk_lt h.par
      omega
  refine ⟨{ par := blk_put hpar 0 _ rfl, drw := ?_, row := R_kept rfl T.row (kept_set _ _ _ _) (fun q hq => hvne q hq), ent := ?_, nds := nodup_ins h.nds hns, ndr := nodup_ins h.ndr hnr, srt := srt_ins h.srt hs, ok := ?_, len := ?_ }, hk2.mono (fun k hk => hk.elim .inl (fun q => .inr (.inr (.inl q))))⟩
  · exact h.drw.kept hk2.kept (hnot _ _ _ _ h.drw.cell (by decide) (by decide)) (fun q hq => by obtain ⟨c, hc⟩ := typed_of_drw h.drw q hq; exact hnot _ _ _ _ hc (by decide) (by decide))
  · intro e he
    have hE : EntAt w e := by
      rcases mem_ins he with he | rfl
      · exact h.ent e he
      · exact ht
    exact hE.kept hk2.kept (hnot _ _ _ _ hE.sl (by decide) (by decide)) (hnot _ _ _ _ hE.rg (by decide) (by decide))
  · intro e he
    rcases mem_ins he with he | rfl
    · exact h.ok e he
    · exact hok
  · show (P.sl.take _ ++ [t] ++ P.sl.drop _).length ≤ 16
    simp; omega
set_option maxHeartbeats 4000000 in
set_option maxRecDepth 100000 in
theorem room_new (P : Pt) (a0 a1 : Int) (w : World) (h : PtAt w P) (hh : hit P.sl a0 a1 = false) (hl : P.sl.length < 16) :
    Calls Tryd.prog 26 #[.pointer (some ⟨P.pb, 0, none⟩), .agg #[.int .i64 a0, .int .i64 a1]] w fun x w' => ∃ t P', x = .returned (pv t) ∧ t.ps = psNew a0 a1 ∧ P'.sl = P.sl.take (pos P.sl a0 a1) ++ [t] ++ P.sl.drop (pos P.sl a0 a1) ∧ PTurn w P { P.m with sl := insS P.m.sl a0 a1 } w' P' := by
  have mixed : Tryd.prog.follows .mixedOrders = true := by kernel_rfl
  have e25 : ∀ args w, (callFunc 25 args).run Tryd.prog w = .ok (.enter 25 args) w := enters_of Tryd.func25 (by kernel_rfl) rfl
  have e52 : ∀ args w, (callFunc 52 args).run Tryd.prog w = .ok (.enter 52 args) w := enters_of Tryd.func52 (by kernel_rfl) rfl
  have e49 : ∀ args w, (callFunc 49 args).run Tryd.prog w = .ok (.enter 49 args) w := enters_of Tryd.func49 (by kernel_rfl) rfl
  have e54 : ∀ args w, (callFunc 54 args).run Tryd.prog w = .ok (.enter 54 args) w := enters_of Tryd.func54 (by kernel_rfl) rfl
  have hu28 := Tryd.underlying28
  have HPw := Aside0.mk h
  have hl16 : ¬ (16 : Int) ≤ (P.sl.length : Int) := by omega
  obtain ⟨A, c, hu⟩ := Kd.R_slice h.row
  clear h
  go_enter Tryd.func26, Tryd.ntmps26
  go_wp2_with (first
    | (((with_reducible refine gate_dst (N := 3) rfl ?_); refine box_event ?hg (N := 3) ?hd (cs := #[.int .i64 a0, .int .i64 a1]) (t := 28) ?hr ?_; (case hd => rfl); (case hg => rfl); (case hr => first | (go_simp; done) | (go_simp; rfl)); intro tb hg w1 hbox hb; have HB := Aside0.mk hb; have BX := Aside0.mk hbox; clear hb hbox hg); have hb0 : w1.cell? ⟨tb, 0, none⟩ = some (.int .i64 a0) := (blk_cell BX.out 0).trans rfl; have hb1 : w1.cell? ⟨tb, 1, none⟩ = some (.int .i64 a1) := (blk_cell BX.out 1).trans rfl)
    | (go_at_fn 25; with_reducible refine (find_miss P a0 a1 _ (HPw.out.below HB.out) hh).mono ?_; rintro x w2 ⟨rfl, hb2⟩; have HP2 := Aside0.mk ((HPw.out.below HB.out).below hb2); have BX2 := Aside0.mk (blk_below BX.out hb2); have HB2 := Aside0.mk (below_step HB.out hb2); have h0 : w2.cell? ⟨P.pb, 0, none⟩ = some P.u := (blk_cell HP2.out.par 0).trans rfl; rw [hu] at h0; clear hb2)
    | (go_at_fn 52; with_reducible refine (rnew_calls _).mono ?_; rintro x w3 ⟨rb, rfl, hrb, hrg, hb3⟩; have HRB := Aside0.mk (show w.heap.size ≤ rb by rw [hrb]; exact HB2.out.size); have HP3 := Aside0.mk (HP2.out.below hb3); have BX3 := Aside0.mk (blk_below BX2.out hb3); have HB3 := Aside0.mk (below_step HB2.out hb3); have HR3 := Aside0.mk hrg; have hb30 : w3.cell? ⟨tb, 0, none⟩ = some (.int .i64 a0) := (blk_cell BX3.out 0).trans rfl; have hb31 : w3.cell? ⟨tb, 1, none⟩ = some (.int .i64 a1) := (blk_cell BX3.out 1).trans rfl; clear hb3 hrg hrb h0 hb0 hb1)
    | ((with_reducible refine gate_dst (N := 37) rfl ?_); refine box_event ?hg (N := 37) ?hd (cs := slCells ⟨a0, a1, rb, 0, 0⟩) (t := 69) ?hr ?_; (case hd => rfl); (case hg => rfl); (case hr => first | (go_simp; done) | (go_simp; rfl)); intro sb hg w4 hbox hb; have HSB := Aside0.mk (show w.heap.size ≤ sb by rw [hg]; exact HB3.out.size); have HP4 := Aside0.mk (HP3.out.below hb); have BX4 := Aside0.mk (blk_below BX3.out hb); have HB4 := Aside0.mk (below_step HB3.out hb); have HE4 := Aside0.mk (show EntAt w4 ⟨sb, rb, a0, a1, 0, 0, ⟨0, 0, 0, 0⟩⟩ from ⟨hbox, blk_below HR3.out hb⟩); clear hb hbox hg hb30 hb31))
  clear HP2 BX2 HB2 HP3 BX3 HB3 HR3 HB BX
  have H0 := Aside0.mk (fun W (hb : Below w4.heap.size w4 W) => show W.cell? ⟨P.pb, 0, none⟩ = some P.u from (blk_cell (blk_below HP4.out.par hb) 0).trans rfl)
  have HT0 := Aside0.mk (fun W (hb : Below w4.heap.size w4 W) => show W.cell? ⟨tb, 0, none⟩ = some (.int .i64 a0) from (blk_cell (blk_below BX4.out hb) 0).trans rfl)
  have HT1 := Aside0.mk (fun W (hb : Below w4.heap.size w4 W) => show W.cell? ⟨tb, 1, none⟩ = some (.int .i64 a1) from (blk_cell (blk_below BX4.out hb) 1).trans rfl)
  have HSR := Aside0.mk (fun W (hb : Below w4.heap.size w4 W) => search_calls53 P.u P.sl a0 a1 W (Kd.R_below HP4.out.row hb) (by have := HP4.out.len; omega) HP4.out.srt (fun x W2 hx hb2 => cmp53_calls x a0 a1 W2 (((HP4.out.ent x hx).below hb).below hb2)))
  have h0 := H0.out w4 (Below.refl _ _)
  have ht0 := HT0.out w4 (Below.refl _ _)
  have ht1 := HT1.out w4 (Below.refl _ _)
  have HNE := Aside0.mk (fun W (hb : Below w4.heap.size w4 W) => show P.u.ownBlock ≠ some W.heap.size from fun e => by have h1 := (HP4.out.below hb).F_lt _ (.inr (.inr (.inl e))); exact Nat.lt_irrefl _ h1)
  rw [hh] at HSR
  rw [hu] at h0 H0 HSR HNE
  obtain ⟨n, hn⟩ : ∃ n, n = P.sl.length := ⟨_, rfl⟩
  obtain ⟨ps, hpp⟩ : ∃ n, n = pos P.sl a0 a1 := ⟨_, rfl⟩
  obtain ⟨pb, hpb⟩ : ∃ n, n = P.pb := ⟨_, rfl⟩
  have HIN := Aside0.mk (fun W (hb : Below w4.heap.size w4 W) vb hvb hne => show Calls Tryd.prog 54 #[.slice A n c, .int .i64 ps, .slice (some ⟨vb, 0, none⟩) 1 1] W fun e w' => ∃ v, e = .returned v ∧ Turn W P.u v (P.sl.take (pos P.sl a0 a1) ++ [(⟨sb, rb, a0, a1, 0, 0, ⟨0, 0, 0, 0⟩⟩ : Ent)] ++ P.sl.drop (pos P.sl a0 a1)) w' from by
    have := insert_calls P.u P.sl W (Kd.R_below HP4.out.row hb) (pos P.sl a0 a1) (pos_le _ _ _) ⟨sb, rb, a0, a1, 0, 0, ⟨0, 0, 0, 0⟩⟩ vb hvb (by rw [hu, ← hn]; exact hne) (by have := HP4.out.len; omega)
    rw [hn, hpp]
    rw [hu] at this ⊢
    exact this)
  rw [← hn, ← hpp] at HSR
  rw [← hn] at HNE
  rw [← hn, ← hpb] at h0 H0
  rw [← hpb]
  rw [← hn] at hu hl16
  have HPB := Aside0.mk hpb
  have HPP := Aside0.mk hpp
  have HU := Aside0.mk hu
  clear hn hpp hpb hu
  go_region_held3 (fun W => W.cell? ⟨pb, 0, none⟩ = some (.slice A n c) ∧ W.cell? ⟨tb, 0, none⟩ = some (.int .i64 a0) ∧ W.cell? ⟨tb, 1, none⟩ = some (.int .i64 a1) ∧ Below w4.heap.size w4 W) (first | exact ⟨H0.out _ (by repeat (with_reducible first | assumption | exact Below.refl _ _ | apply below_alloc | apply pw_below_drewN | apply below_drew1 | refine below_set ?_ (by first | exact Nat.le_refl _ | assumption))), HT0.out _ (by repeat (with_reducible first | assumption | exact Below.refl _ _ | apply below_alloc | apply pw_below_drewN | apply below_drew1 | refine below_set ?_ (by first | exact Nat.le_refl _ | assumption))), HT1.out _ (by repeat (with_reducible first | assumption | exact Below.refl _ _ | apply below_alloc | apply pw_below_drewN | apply below_drew1 | refine below_set ?_ (by first | exact Nat.le_refl _ | assumption))), (by repeat (with_reducible first | assumption | exact Below.refl _ _ | apply below_alloc | apply pw_below_drewN | apply below_drew1 | refine below_set ?_ (by first | exact Nat.le_refl _ | assumption)))⟩)
    (first | (go_at_call 49; with_reducible refine (HSR.out _ (by repeat (with_reducible first | assumption | exact Below.refl _ _ | apply below_alloc | apply pw_below_drewN | apply below_drew1 | refine below_set ?_ (by first | exact Nat.le_refl _ | assumption)))).mono ?_; rintro x w5 ⟨rfl, hb2⟩; replace hb2 := below_step (show Below w4.heap.size w4 _ from (by repeat (with_reducible first | assumption | exact Below.refl _ _ | apply below_alloc | apply pw_below_drewN | apply below_drew1 | refine below_set ?_ (by first | exact Nat.le_refl _ | assumption)))) hb2; have hs2 := hb2.size))
  all_goals
    rename_i hS9
    have HB9 := Aside0.mk hS9.2.2.2
    have hc9 := hS9.1
    clear hS9 h0 ht0 ht1
    go_wp2_with (go_at_fn 54; with_reducible refine (HIN.out _ (below_alloc HB9.out _) _ (blk_new _ _) (HNE.out _ HB9.out)).mono ?_; rintro x w6 ⟨v, rfl, T⟩; have HT := Aside0.mk T; have HPW := Aside0.mk (HP4.out.below (below_alloc HB9.out (.cells #[.pointer (some ⟨sb, 0, none⟩)] 63))); have HEW := Aside0.mk (HE4.out.below (below_alloc HB9.out (.cells #[.pointer (some ⟨sb, 0, none⟩)] 63))); have hpar := blk_kept HPW.out.par T.wr.kept (fun hh => by obtain ⟨c, hc⟩ := typed_of_row HPW.out.row _ hh; exact absurd rfl (blk_types HPW.out.par hc (by decide))); rw [← HPB.out] at hpar; have hp0 : w6.cell? ⟨pb, 0, none⟩ = some P.u := (blk_cell hpar 0).trans rfl; rw [HU.out] at hp0; have hpf := blk_frozen hpar 0; obtain ⟨A6, n6, c6, rfl⟩ : ∃ A n c, v = .slice A n c := (by obtain ⟨A, c, e⟩ := Kd.R_slice T.row; exact ⟨A, _, c, e⟩); clear hpar T)
    go_ret
    have hHB := below_step HB4.out (below_alloc HB9.out (.cells #[.pointer (some ⟨sb, 0, none⟩)] 63))
    have hI := PtAt.ins (t := ⟨sb, rb, a0, a1, 0, 0, ⟨0, 0, 0, 0⟩⟩) HPW.out hh hl HEW.out ⟨show (0 : Nat) < 5 by decide, show (0 : Nat) < 3 by decide⟩ (fun x hx e => by have h1 := blk_lt (HPw.out.ent x hx).sl; have h2 := HSB.out; simp only at e; omega) (fun x hx e => by have h1 := blk_lt (HPw.out.ent x hx).rg; have h2 := HRB.out; simp only at e; omega) HT.out
    rw [HPB.out]
    refine ⟨⟨sb, rb, a0, a1, 0, 0, ⟨0, 0, 0, 0⟩⟩, _, rfl, rfl, ?_, hI.1, rfl, ?_, (Wr.of_below hHB P.F).trans hI.2 (fun k hk => .inl hk), ?_⟩
    · rfl
    · show PM.mk _ _ _ _ _ _ = _
      unfold insS Pt.m
      dsimp only
      rw [pos_map]
      simp only [List.map_append, List.map_take, List.map_drop]
      rfl
    · intro k hk
      rcases hk with hk | hk | hk | ⟨e, he, hk⟩
      · exact .inl (.inl hk)
      · exact .inl (.inr (.inl hk))
      · rcases HT.out.own with q | q
        · exact .inl (.inr (.inr (.inl (q.symm.trans hk))))
        · exact .inr (Nat.le_trans hHB.size (q k hk))
      · rcases mem_ins he with he | rfl
        · exact .inl (.inr (.inr (.inr ⟨e, he, hk⟩)))
        · rcases hk with rfl | rfl
          · exact .inr HSB.out
          · exact .inr HRB.out
end Go.Proofs.YtkahciadkgjbbaaDoor.QPty
namespace Go.Proofs.YtkahciadkgjbbaaDoor.QPty
open Go.RowKit Go.Proofs.YtkahciadkgjbbaaDoorW.PrintWords Go.Proofs.YtkahciadkgjbbaaDoorW.PrintLast Go.Proofs.YtkahciadkgjbbaaDoorW.PrintMore Gen
set_option linter.unusedVariables false
set_option linter.unusedSimpArgs false
theorem ins_at {l : List Ent} {p : Nat} {t : Ent} (hp : p ≤ l.length) : ∃ hi : p < (l.take p ++ [t] ++ l.drop p).length, (l.take p ++ [t] ++ l.drop p)[p] = t := by
  have h1 : (l.take p).length = p := by rw [List.length_take]; omega
  refine ⟨by simp; omega, ?_⟩
  rw [List.getElem_append_left (by simp; omega), List.getElem_append_right (by omega)]
  simp [h1]
theorem room_calls (P : Pt) (a0 a1 : Int) (w : World) (h : PtAt w P) :
    Calls Tryd.prog 26 #[.pointer (some ⟨P.pb, 0, none⟩), .agg #[.int .i64 a0, .int .i64 a1]] w fun x w' => ∃ P', PTurn w P (P.m.room a0 a1) w' P' ∧
      ((x = .returned (.pointer none) ∧ hit P.sl a0 a1 = false ∧ 16 ≤ P.sl.length) ∨ ((hit P.sl a0 a1 = true ∨ P.sl.length < 16) ∧ ∃ i, ∃ hi : i < P'.sl.length, x = .returned (pv P'.sl[i]) ∧ Same P'.sl[i] a0 a1)) := by
  have e1 : hitS P.m.sl a0 a1 = hit P.sl a0 a1 := hit_map h.srt a0 a1
  have e2 : P.m.sl.length = P.sl.length := List.length_map _
  unfold PM.room
  rw [e1, e2]
  rcases Bool.eq_false_or_eq_true (hit P.sl a0 a1) with hh | hh
  · obtain ⟨hi, hsm⟩ := hit_lt hh
    rw [if_pos hh]
    refine (room_hit P a0 a1 w h hh hi).mono ?_
    rintro x w' ⟨rfl, hb⟩
    exact ⟨P, PTurn.of_below h hb, .inr ⟨.inl hh, _, hi, rfl, hsm⟩⟩
  · rw [if_neg (by rw [hh]; decide)]
    by_cases hl : 16 ≤ P.sl.length
    · rw [if_pos hl]
      refine (room_full P a0 a1 w h hh hl).mono ?_
      rintro x w' ⟨rfl, T⟩
      exact ⟨_, T, .inl ⟨rfl, hh, hl⟩⟩
    · rw [if_neg hl]
      refine (room_new P a0 a1 w h hh (by omega)).mono ?_
      rintro x w' ⟨t, P', rfl, ht, hP, T⟩
      obtain ⟨hi, e⟩ := ins_at (t := t) (pos_le P.sl a0 a1)
      have hps : t.a0 = a0 ∧ t.a1 = a1 := by
        have h0 := congrArg PS.a0 ht
        have h1 := congrArg PS.a1 ht
        exact ⟨h0, h1⟩
      have hi' : pos P.sl a0 a1 < P'.sl.length := by rw [hP]; exact hi
      have e' : P'.sl[pos P.sl a0 a1] = t := by simp only [hP]; exact e
      exact ⟨P', T, .inr ⟨.inr (by omega), _, hi', by rw [e'], by rw [e']; exact hps⟩⟩
theorem PTurn.upd {w W : World} {P : Pt} (h : PtAt w P) (i : Nat) (hi : i < P.sl.length) (e : Ent) (hs : e.sb = P.sl[i].sb) (hr : e.rb = P.sl[i].rb) (h0 : e.a0 = P.sl[i].a0) (h1 : e.a1 = P.sl[i].a1) (hok : e.st < 5 ∧ e.rg.st < 3)
    (hw : Wr w (fun k => k = P.sl[i].sb ∨ k = P.sl[i].rb) W) (he : EntAt W e) {a0 a1 : Int} (hsm : Same P.sl[i] a0 a1) (f : PS → PS) (hf : e.ps = f P.sl[i].ps) : PTurn w P (P.m.upd a0 a1 f) W { P with sl := P.sl.set i e } where
  at_ := h.set i hi e hs hr h0 h1 hok hw he
  pb := rfl
  m := by
    show PM.mk _ _ _ _ _ _ = _
    unfold PM.upd Pt.m
    dsimp only
    rw [set_upd h.srt hi hsm e f hf]
  wr := hw.mono (fun k hk => .inr (.inr (.inr ⟨_, List.getElem_mem hi, hk⟩)))
  own := fun k hk => .inl (F_set hi hs hr k hk)
theorem PTurn.tidy_ {w W : World} {P P' : Pt} {m : PM} (a : PTurn w P m W P') {W2 : World} (h : ∃ P2, PTurn W P' P'.m.tidy W2 P2 ∧ P2.sl = dropP P'.sl idleP) : ∃ P2, PTurn w P m.tidy W2 P2 := by
  obtain ⟨P2, h, _⟩ := h
  have e := a.m
  rw [e] at h
  exact ⟨P2, a.trans h⟩
def attrOk (a0 a1 : Int) : Bool := if a0 = 1 then decide (1 ≤ a1 ∧ a1 ≤ 4094) else if a0 = 2 then (decide (0 ≤ a1 ∧ a1 ≤ 281474976710655) && (Go.bits .and .i64 (a1 / 1099511627776) 1 == 1)) else if a0 = 3 then decide (a1 = 0 ∨ a1 = 1) else false
theorem attr_ev (a0 a1 : Int) : mrpdu_Attr.f a0 a1 = some (attrOk a0 a1) := by
  unfold mrpdu_Attr.f attrOk addr_Vid.f addr_Many.f addr_Good.f
  by_cases c1 : a0 = 1
  · rw [if_pos c1, if_pos c1]
    by_cases k : a1 ≥ 1
    · rw [if_pos k]; simp; omega
    · rw [if_neg k]; simp; omega
  · rw [if_neg c1, if_neg c1]
    by_cases c2 : a0 = 2
    · rw [if_pos c2, if_pos c2]
      by_cases k : a1 ≥ 0
      · rw [if_pos k]
        by_cases k2 : a1 ≤ 281474976710655
        · simp [k2, show (0 : Int) ≤ a1 from k]
        · simp [k2]
      · rw [if_neg k]; simp; intro h; omega
    · rw [if_neg c2, if_neg c2]
      by_cases c3 : a0 = 3
      · rw [if_pos c3, if_pos c3]
        by_cases k : a1 = 0
        · rw [if_pos k]; simp [k]
        · rw [if_neg k]
          by_cases k1 : a1 = 1 <;> simp [k, k1]
      · rw [if_neg c3, if_neg c3]
theorem attr_calls (a0 a1 : Int) (w : World) : Calls Tryd.prog 24 #[.agg #[.int .i64 a0, .int .i64 a1]] w fun e w' => e = .returned (.bool (attrOk a0 a1)) ∧ Below w.heap.size w w' :=
  mrpdu_Attr.calls a0 a1 _ w (attr_ev a0 a1)
def wst (st : Nat) (born : Int) (new : Bool) : Nat := if born < 0 then aN st 1 else if asays st then st else aN st (if new then 5 else 0)
def PS.want (born : Int) (new : Bool) (s : PS) : PS := { s with st := wst s.st born new, born := if born < 0 then s.born else born }
theorem awant_eq (s : SL) (born : Int) (new : Bool) : awant s born new = ⟨s.a0, s.a1, s.rb, wst s.st born new, if born < 0 then s.born else born⟩ := by
  unfold awant wst astep abirth
  split
  · rfl
  · split <;> rfl
theorem wst_lt (st : Nat) (born : Int) (new : Bool) (h : st < 5) : wst st born new < 5 := by
  have := awant_st ⟨0, 0, 0, st, 0⟩ born new h
  rw [awant_eq] at this
  exact this
theorem slot_want (P : Pt) (w : World) (h : PtAt w P) (i : Nat) (hi : i < P.sl.length) {a0 a1 : Int} (hsm : Same P.sl[i] a0 a1) (born : Int) (new : Bool) :
    Calls Tryd.prog 27 #[.pointer (some ⟨P.sl[i].sb, 3, none⟩), .int .i64 born, .bool new] w fun x w' => x = .returned (.tuple #[]) ∧ ∃ P', PTurn w P (P.m.upd a0 a1 (PS.want born new)) w' P' := by
  have hE := h.ent _ (List.getElem_mem hi)
  have hok := h.ok _ (List.getElem_mem hi)
  refine (awant_calls P.sl[i].sb P.sl[i].sl born new w hE.sl hok.1).mono ?_
  rintro x w' ⟨rfl, h1, h2⟩
  rw [awant_eq] at h1
  refine ⟨rfl, _, PTurn.upd h i hi { P.sl[i] with st := wst P.sl[i].st born new, born := if born < 0 then P.sl[i].born else born } rfl rfl rfl rfl ⟨wst_lt _ _ _ hok.1, hok.2⟩ (h2.mono (fun k hk => .inl hk)) ⟨h1, ?_⟩ hsm _ rfl⟩
  exact blk_kept hE.rg h2.kept (fun e => blk_types hE.rg hE.sl (by decide) e)
def PM.want (m : PM) (a0 a1 born : Int) (new : Bool) : PM :=
  if attrOk a0 a1 = false ∨ 1048576 < born then m else if hitS m.sl a0 a1 then (m.upd a0 a1 (PS.want born new)).tidy else if born < 0 then m else if 16 ≤ m.sl.length then m.room a0 a1 else ((m.room a0 a1).upd a0 a1 (PS.want born new)).tidy
def wantRes (m : PM) (a0 a1 born : Int) : Int :=
  if attrOk a0 a1 = false ∨ 1048576 < born then 1 else if hitS m.sl a0 a1 then 0 else if born < 0 then 0 else if 16 ≤ m.sl.length then 6 else 0
set_option maxHeartbeats 4000000 in
set_option maxRecDepth 100000 in
theorem want_bad (P : Pt) (a0 a1 born : Int) (new : Bool) (w : World) (h : PtAt w P) (hb : attrOk a0 a1 = false ∨ 1048576 < born) :
    Calls Tryd.prog 10 #[.pointer (some ⟨P.pb, 0, none⟩), .agg #[.int .i64 a0, .int .i64 a1], .int .i64 born, .bool new] w fun x w' => x = .returned (.int .i64 1) ∧ Below w.heap.size w w' := by
  rcases Bool.eq_false_or_eq_true (attrOk a0 a1) with hat | hat
  · have hbig : 1048576 < born := hb.resolve_left (by rw [hat]; decide)
    clear hb
    have hdec : decide (1048576 < born) = true := decide_eq_true hbig
    have e24 : ∀ args w, (callFunc 24 args).run Tryd.prog w = .ok (.enter 24 args) w := enters_of Tryd.func24 (by kernel_rfl) rfl
    have e25 : ∀ args w, (callFunc 25 args).run Tryd.prog w = .ok (.enter 25 args) w := enters_of Tryd.func25 (by kernel_rfl) rfl
    have e26 : ∀ args w, (callFunc 26 args).run Tryd.prog w = .ok (.enter 26 args) w := enters_of Tryd.func26 (by kernel_rfl) rfl
    have e27 : ∀ args w, (callFunc 27 args).run Tryd.prog w = .ok (.enter 27 args) w := enters_of Tryd.func27 (by kernel_rfl) rfl
    have e28 : ∀ args w, (callFunc 28 args).run Tryd.prog w = .ok (.enter 28 args) w := enters_of Tryd.func28 (by kernel_rfl) rfl
    have hu28 := Tryd.underlying28
    have HPw := Aside0.mk h
    clear h
    go_enter Tryd.func10, Tryd.ntmps10
    go_wp2_with (first
      | (((with_reducible refine gate_dst (N := 5) rfl ?_); refine box_event ?hg (N := 5) ?hd (cs := #[.int .i64 a0, .int .i64 a1]) (t := 28) ?hr ?_; (case hd => rfl); (case hg => rfl); (case hr => first | (go_simp; done) | (go_simp; rfl)); intro tb hg w1 hbox hb; have HB := Aside0.mk hb; have BX := Aside0.mk hbox; clear hb hbox hg); have hb0 : w1.cell? ⟨tb, 0, none⟩ = some (.int .i64 a0) := (blk_cell BX.out 0).trans rfl; have hb1 : w1.cell? ⟨tb, 1, none⟩ = some (.int .i64 a1) := (blk_cell BX.out 1).trans rfl)
      | (go_at_fn 24; with_reducible refine (attr_calls a0 a1 _).mono ?_; rintro x w2 ⟨rfl, hb2⟩; have HB2 := Aside0.mk (below_step HB.out hb2); have BX2 := Aside0.mk (blk_below BX.out hb2); have hb20 : w2.cell? ⟨tb, 0, none⟩ = some (.int .i64 a0) := (blk_cell BX2.out 0).trans rfl; have hb21 : w2.cell? ⟨tb, 1, none⟩ = some (.int .i64 a1) := (blk_cell BX2.out 1).trans rfl; clear hb2 hb0 hb1; rw [hat]))
    go_ret
    exact ⟨rfl, HB2.out⟩
  · clear hb
    have e24 : ∀ args w, (callFunc 24 args).run Tryd.prog w = .ok (.enter 24 args) w := enters_of Tryd.func24 (by kernel_rfl) rfl
    have e25 : ∀ args w, (callFunc 25 args).run Tryd.prog w = .ok (.enter 25 args) w := enters_of Tryd.func25 (by kernel_rfl) rfl
    have e26 : ∀ args w, (callFunc 26 args).run Tryd.prog w = .ok (.enter 26 args) w := enters_of Tryd.func26 (by kernel_rfl) rfl
    have e27 : ∀ args w, (callFunc 27 args).run Tryd.prog w = .ok (.enter 27 args) w := enters_of Tryd.func27 (by kernel_rfl) rfl
    have e28 : ∀ args w, (callFunc 28 args).run Tryd.prog w = .ok (.enter 28 args) w := enters_of Tryd.func28 (by kernel_rfl) rfl
    have hu28 := Tryd.underlying28
    have HPw := Aside0.mk h
    clear h
    go_enter Tryd.func10, Tryd.ntmps10
    go_wp2_with (first
      | (((with_reducible refine gate_dst (N := 5) rfl ?_); refine box_event ?hg (N := 5) ?hd (cs := #[.int .i64 a0, .int .i64 a1]) (t := 28) ?hr ?_; (case hd => rfl); (case hg => rfl); (case hr => first | (go_simp; done) | (go_simp; rfl)); intro tb hg w1 hbox hb; have HB := Aside0.mk hb; have BX := Aside0.mk hbox; clear hb hbox hg); have hb0 : w1.cell? ⟨tb, 0, none⟩ = some (.int .i64 a0) := (blk_cell BX.out 0).trans rfl; have hb1 : w1.cell? ⟨tb, 1, none⟩ = some (.int .i64 a1) := (blk_cell BX.out 1).trans rfl)
      | (go_at_fn 24; with_reducible refine (attr_calls a0 a1 _).mono ?_; rintro x w2 ⟨rfl, hb2⟩; have HB2 := Aside0.mk (below_step HB.out hb2); have BX2 := Aside0.mk (blk_below BX.out hb2); have hb20 : w2.cell? ⟨tb, 0, none⟩ = some (.int .i64 a0) := (blk_cell BX2.out 0).trans rfl; have hb21 : w2.cell? ⟨tb, 1, none⟩ = some (.int .i64 a1) := (blk_cell BX2.out 1).trans rfl; clear hb2 hb0 hb1; rw [hat]))
    go_ret
    exact ⟨rfl, HB2.out⟩
set_option maxHeartbeats 4000000 in
set_option maxRecDepth 100000 in
theorem want_hit (P : Pt) (a0 a1 born : Int) (new : Bool) (w : World) (h : PtAt w P) (hat : attrOk a0 a1 = true) (hbo : ¬ 1048576 < born) (hh : hit P.sl a0 a1 = true) :
    Calls Tryd.prog 10 #[.pointer (some ⟨P.pb, 0, none⟩), .agg #[.int .i64 a0, .int .i64 a1], .int .i64 born, .bool new] w fun x w' => x = .returned (.int .i64 0) ∧ ∃ P', PTurn w P (P.m.upd a0 a1 (PS.want born new)).tidy w' P' := by
  obtain ⟨hi, hsm⟩ := hit_lt hh
  have e24 : ∀ args w, (callFunc 24 args).run Tryd.prog w = .ok (.enter 24 args) w := enters_of Tryd.func24 (by kernel_rfl) rfl
  have e25 : ∀ args w, (callFunc 25 args).run Tryd.prog w = .ok (.enter 25 args) w := enters_of Tryd.func25 (by kernel_rfl) rfl
  have e26 : ∀ args w, (callFunc 26 args).run Tryd.prog w = .ok (.enter 26 args) w := enters_of Tryd.func26 (by kernel_rfl) rfl
  have e27 : ∀ args w, (callFunc 27 args).run Tryd.prog w = .ok (.enter 27 args) w := enters_of Tryd.func27 (by kernel_rfl) rfl
  have e28 : ∀ args w, (callFunc 28 args).run Tryd.prog w = .ok (.enter 28 args) w := enters_of Tryd.func28 (by kernel_rfl) rfl
  have hu28 := Tryd.underlying28
  have HPw := Aside0.mk h
  clear h
  go_enter Tryd.func10, Tryd.ntmps10
  go_wp2_with (first
    | (((with_reducible refine gate_dst (N := 5) rfl ?_); refine box_event ?hg (N := 5) ?hd (cs := #[.int .i64 a0, .int .i64 a1]) (t := 28) ?hr ?_; (case hd => rfl); (case hg => rfl); (case hr => first | (go_simp; done) | (go_simp; rfl)); intro tb hg w1 hbox hb; have HB := Aside0.mk hb; have BX := Aside0.mk hbox; clear hb hbox hg); have hb0 : w1.cell? ⟨tb, 0, none⟩ = some (.int .i64 a0) := (blk_cell BX.out 0).trans rfl; have hb1 : w1.cell? ⟨tb, 1, none⟩ = some (.int .i64 a1) := (blk_cell BX.out 1).trans rfl)
    | (go_at_fn 24; with_reducible refine (attr_calls a0 a1 _).mono ?_; rintro x w2 ⟨rfl, hb2⟩; have HB2 := Aside0.mk (below_step HB.out hb2); have BX2 := Aside0.mk (blk_below BX.out hb2); have hb20 : w2.cell? ⟨tb, 0, none⟩ = some (.int .i64 a0) := (blk_cell BX2.out 0).trans rfl; have hb21 : w2.cell? ⟨tb, 1, none⟩ = some (.int .i64 a1) := (blk_cell BX2.out 1).trans rfl; clear hb2 hb0 hb1; rw [hat])
    | (go_at_fn 25; with_reducible refine (find_hit P a0 a1 _ (HPw.out.below HB2.out) hh hi).mono ?_; rintro x w3 ⟨rfl, hb2⟩; have HB3 := Aside0.mk (below_step HB2.out hb2); clear hb2)
    | (go_at_fn 27; with_reducible refine (slot_want P _ (HPw.out.below HB3.out) _ hi hsm born new).mono ?_; rintro x w4 ⟨rfl, P4, T4⟩; have HT4 := Aside0.mk (PTurn.pre HB3.out T4); clear T4)
    | (go_at_fn 28; with_reducible refine ((HT4.out.pb ▸ tidy_calls P4 _ HT4.out.at_)).mono ?_; rintro x w5 ⟨rfl, T5⟩; have HT5 := Aside0.mk (HT4.out.tidy_ T5); clear T5))
  go_ret
  exact ⟨rfl, HT5.out⟩
set_option maxHeartbeats 4000000 in
set_option maxRecDepth 100000 in
theorem want_none (P : Pt) (a0 a1 born : Int) (new : Bool) (w : World) (h : PtAt w P) (hat : attrOk a0 a1 = true) (hbo : ¬ 1048576 < born) (hh : hit P.sl a0 a1 = false) (hneg : ¬ 0 ≤ born) :
    Calls Tryd.prog 10 #[.pointer (some ⟨P.pb, 0, none⟩), .agg #[.int .i64 a0, .int .i64 a1], .int .i64 born, .bool new] w fun x w' => x = .returned (.int .i64 0) ∧ Below w.heap.size w w' := by
  have e24 : ∀ args w, (callFunc 24 args).run Tryd.prog w = .ok (.enter 24 args) w := enters_of Tryd.func24 (by kernel_rfl) rfl
  have e25 : ∀ args w, (callFunc 25 args).run Tryd.prog w = .ok (.enter 25 args) w := enters_of Tryd.func25 (by kernel_rfl) rfl
  have e26 : ∀ args w, (callFunc 26 args).run Tryd.prog w = .ok (.enter 26 args) w := enters_of Tryd.func26 (by kernel_rfl) rfl
  have e27 : ∀ args w, (callFunc 27 args).run Tryd.prog w = .ok (.enter 27 args) w := enters_of Tryd.func27 (by kernel_rfl) rfl
  have e28 : ∀ args w, (callFunc 28 args).run Tryd.prog w = .ok (.enter 28 args) w := enters_of Tryd.func28 (by kernel_rfl) rfl
  have hu28 := Tryd.underlying28
  have HPw := Aside0.mk h
  clear h
  go_enter Tryd.func10, Tryd.ntmps10
  go_wp2_with (first
    | (((with_reducible refine gate_dst (N := 5) rfl ?_); refine box_event ?hg (N := 5) ?hd (cs := #[.int .i64 a0, .int .i64 a1]) (t := 28) ?hr ?_; (case hd => rfl); (case hg => rfl); (case hr => first | (go_simp; done) | (go_simp; rfl)); intro tb hg w1 hbox hb; have HB := Aside0.mk hb; have BX := Aside0.mk hbox; clear hb hbox hg); have hb0 : w1.cell? ⟨tb, 0, none⟩ = some (.int .i64 a0) := (blk_cell BX.out 0).trans rfl; have hb1 : w1.cell? ⟨tb, 1, none⟩ = some (.int .i64 a1) := (blk_cell BX.out 1).trans rfl)
    | (go_at_fn 24; with_reducible refine (attr_calls a0 a1 _).mono ?_; rintro x w2 ⟨rfl, hb2⟩; have HB2 := Aside0.mk (below_step HB.out hb2); have BX2 := Aside0.mk (blk_below BX.out hb2); have hb20 : w2.cell? ⟨tb, 0, none⟩ = some (.int .i64 a0) := (blk_cell BX2.out 0).trans rfl; have hb21 : w2.cell? ⟨tb, 1, none⟩ = some (.int .i64 a1) := (blk_cell BX2.out 1).trans rfl; clear hb2 hb0 hb1; rw [hat])
    | (go_at_fn 25; with_reducible refine (find_miss P a0 a1 _ (HPw.out.below HB2.out) hh).mono ?_; rintro x w3 ⟨rfl, hb2⟩; have HB3 := Aside0.mk (below_step HB2.out hb2); clear hb2))
  go_ret
  exact ⟨rfl, HB3.out⟩
set_option maxHeartbeats 4000000 in
set_option maxRecDepth 100000 in
theorem want_full (P : Pt) (a0 a1 born : Int) (new : Bool) (w : World) (h : PtAt w P) (hat : attrOk a0 a1 = true) (hbo : ¬ 1048576 < born) (hh : hit P.sl a0 a1 = false) (hneg : 0 ≤ born) (hl : 16 ≤ P.sl.length) :
    Calls Tryd.prog 10 #[.pointer (some ⟨P.pb, 0, none⟩), .agg #[.int .i64 a0, .int .i64 a1], .int .i64 born, .bool new] w fun x w' => x = .returned (.int .i64 6) ∧ ∃ P', PTurn w P (P.m.room a0 a1) w' P' := by
  have e24 : ∀ args w, (callFunc 24 args).run Tryd.prog w = .ok (.enter 24 args) w := enters_of Tryd.func24 (by kernel_rfl) rfl
  have e25 : ∀ args w, (callFunc 25 args).run Tryd.prog w = .ok (.enter 25 args) w := enters_of Tryd.func25 (by kernel_rfl) rfl
  have e26 : ∀ args w, (callFunc 26 args).run Tryd.prog w = .ok (.enter 26 args) w := enters_of Tryd.func26 (by kernel_rfl) rfl
  have e27 : ∀ args w, (callFunc 27 args).run Tryd.prog w = .ok (.enter 27 args) w := enters_of Tryd.func27 (by kernel_rfl) rfl
  have e28 : ∀ args w, (callFunc 28 args).run Tryd.prog w = .ok (.enter 28 args) w := enters_of Tryd.func28 (by kernel_rfl) rfl
  have hu28 := Tryd.underlying28
  have HPw := Aside0.mk h
  clear h
  go_enter Tryd.func10, Tryd.ntmps10
  go_wp2_with (first
    | (((with_reducible refine gate_dst (N := 5) rfl ?_); refine box_event ?hg (N := 5) ?hd (cs := #[.int .i64 a0, .int .i64 a1]) (t := 28) ?hr ?_; (case hd => rfl); (case hg => rfl); (case hr => first | (go_simp; done) | (go_simp; rfl)); intro tb hg w1 hbox hb; have HB := Aside0.mk hb; have BX := Aside0.mk hbox; clear hb hbox hg); have hb0 : w1.cell? ⟨tb, 0, none⟩ = some (.int .i64 a0) := (blk_cell BX.out 0).trans rfl; have hb1 : w1.cell? ⟨tb, 1, none⟩ = some (.int .i64 a1) := (blk_cell BX.out 1).trans rfl)
    | (go_at_fn 24; with_reducible refine (attr_calls a0 a1 _).mono ?_; rintro x w2 ⟨rfl, hb2⟩; have HB2 := Aside0.mk (below_step HB.out hb2); have BX2 := Aside0.mk (blk_below BX.out hb2); have hb20 : w2.cell? ⟨tb, 0, none⟩ = some (.int .i64 a0) := (blk_cell BX2.out 0).trans rfl; have hb21 : w2.cell? ⟨tb, 1, none⟩ = some (.int .i64 a1) := (blk_cell BX2.out 1).trans rfl; clear hb2 hb0 hb1; rw [hat])
    | (go_at_fn 25; with_reducible refine (find_miss P a0 a1 _ (HPw.out.below HB2.out) hh).mono ?_; rintro x w3 ⟨rfl, hb2⟩; have HB3 := Aside0.mk (below_step HB2.out hb2); have BX3 := Aside0.mk (blk_below BX2.out hb2); have hb30 : w3.cell? ⟨tb, 0, none⟩ = some (.int .i64 a0) := (blk_cell BX3.out 0).trans rfl; have hb31 : w3.cell? ⟨tb, 1, none⟩ = some (.int .i64 a1) := (blk_cell BX3.out 1).trans rfl; clear hb2 hb20 hb21)
    | (go_at_fn 26; with_reducible refine (room_calls P a0 a1 _ (HPw.out.below HB3.out)).mono ?_; rintro x w4 ⟨P4, T4, ⟨rfl, _⟩ | ⟨k, _⟩⟩; all_goals first | (exfalso; (rcases k with k | k); (rw [hh] at k; cases k); omega) | (have HT4 := Aside0.mk (PTurn.pre HB3.out T4); clear T4)))
  go_ret
  exact ⟨rfl, _, HT4.out⟩
set_option maxHeartbeats 4000000 in
set_option maxRecDepth 100000 in
theorem want_new (P : Pt) (a0 a1 born : Int) (new : Bool) (w : World) (h : PtAt w P) (hat : attrOk a0 a1 = true) (hbo : ¬ 1048576 < born) (hh : hit P.sl a0 a1 = false) (hneg : 0 ≤ born) (hl : ¬ 16 ≤ P.sl.length) :
    Calls Tryd.prog 10 #[.pointer (some ⟨P.pb, 0, none⟩), .agg #[.int .i64 a0, .int .i64 a1], .int .i64 born, .bool new] w fun x w' => x = .returned (.int .i64 0) ∧ ∃ P', PTurn w P ((P.m.room a0 a1).upd a0 a1 (PS.want born new)).tidy w' P' := by
  have e24 : ∀ args w, (callFunc 24 args).run Tryd.prog w = .ok (.enter 24 args) w := enters_of Tryd.func24 (by kernel_rfl) rfl
  have e25 : ∀ args w, (callFunc 25 args).run Tryd.prog w = .ok (.enter 25 args) w := enters_of Tryd.func25 (by kernel_rfl) rfl
  have e26 : ∀ args w, (callFunc 26 args).run Tryd.prog w = .ok (.enter 26 args) w := enters_of Tryd.func26 (by kernel_rfl) rfl
  have e27 : ∀ args w, (callFunc 27 args).run Tryd.prog w = .ok (.enter 27 args) w := enters_of Tryd.func27 (by kernel_rfl) rfl
  have e28 : ∀ args w, (callFunc 28 args).run Tryd.prog w = .ok (.enter 28 args) w := enters_of Tryd.func28 (by kernel_rfl) rfl
  have hu28 := Tryd.underlying28
  have HPw := Aside0.mk h
  clear h
  go_enter Tryd.func10, Tryd.ntmps10
  go_wp2_with (first
    | (((with_reducible refine gate_dst (N := 5) rfl ?_); refine box_event ?hg (N := 5) ?hd (cs := #[.int .i64 a0, .int .i64 a1]) (t := 28) ?hr ?_; (case hd => rfl); (case hg => rfl); (case hr => first | (go_simp; done) | (go_simp; rfl)); intro tb hg w1 hbox hb; have HB := Aside0.mk hb; have BX := Aside0.mk hbox; clear hb hbox hg); have hb0 : w1.cell? ⟨tb, 0, none⟩ = some (.int .i64 a0) := (blk_cell BX.out 0).trans rfl; have hb1 : w1.cell? ⟨tb, 1, none⟩ = some (.int .i64 a1) := (blk_cell BX.out 1).trans rfl)
    | (go_at_fn 24; with_reducible refine (attr_calls a0 a1 _).mono ?_; rintro x w2 ⟨rfl, hb2⟩; have HB2 := Aside0.mk (below_step HB.out hb2); have BX2 := Aside0.mk (blk_below BX.out hb2); have hb20 : w2.cell? ⟨tb, 0, none⟩ = some (.int .i64 a0) := (blk_cell BX2.out 0).trans rfl; have hb21 : w2.cell? ⟨tb, 1, none⟩ = some (.int .i64 a1) := (blk_cell BX2.out 1).trans rfl; clear hb2 hb0 hb1; rw [hat])
    | (go_at_fn 25; with_reducible refine (find_miss P a0 a1 _ (HPw.out.below HB2.out) hh).mono ?_; rintro x w3 ⟨rfl, hb2⟩; have HB3 := Aside0.mk (below_step HB2.out hb2); have BX3 := Aside0.mk (blk_below BX2.out hb2); have hb30 : w3.cell? ⟨tb, 0, none⟩ = some (.int .i64 a0) := (blk_cell BX3.out 0).trans rfl; have hb31 : w3.cell? ⟨tb, 1, none⟩ = some (.int .i64 a1) := (blk_cell BX3.out 1).trans rfl; clear hb2 hb20 hb21)
    | (go_at_fn 26; with_reducible refine (room_calls P a0 a1 _ (HPw.out.below HB3.out)).mono ?_; rintro x w4 ⟨P4, T4, ⟨_, _, k⟩ | ⟨_, i4, hi4, rfl, hs4⟩⟩; all_goals first | (exfalso; omega) | (have HT4 := Aside0.mk (PTurn.pre HB3.out T4); have HS4 := Aside0.mk hs4; clear T4 hs4))
    | (go_at_fn 27; with_reducible refine (slot_want P4 _ HT4.out.at_ i4 hi4 HS4.out born new).mono ?_; rintro x w5 ⟨rfl, P5, T5⟩; have HT5 := Aside0.mk (HT4.out.trans T5); have HM5 := Aside0.mk (congrArg (fun m => PM.upd m a0 a1 (PS.want born new)) HT4.out.m); clear T5)
    | (go_at_fn 28; with_reducible refine ((HT5.out.pb ▸ tidy_calls P5 _ HT5.out.at_)).mono ?_; rintro x w6 ⟨rfl, T6⟩; have HT6 := Aside0.mk (HT5.out.tidy_ T6); clear T6))
  go_ret
  have h6 := HT6.out
  rw [HT4.out.m] at h6
  exact ⟨rfl, h6⟩
theorem want_calls (P : Pt) (a0 a1 born : Int) (new : Bool) (w : World) (h : PtAt w P) :
    Calls Tryd.prog 10 #[.pointer (some ⟨P.pb, 0, none⟩), .agg #[.int .i64 a0, .int .i64 a1], .int .i64 born, .bool new] w fun x w' => x = .returned (.int .i64 (wantRes P.m a0 a1 born)) ∧ ∃ P', PTurn w P (P.m.want a0 a1 born new) w' P' := by
  have e1 : hitS P.m.sl a0 a1 = hit P.sl a0 a1 := hit_map h.srt a0 a1
  have e2 : P.m.sl.length = P.sl.length := List.length_map _
  unfold PM.want wantRes
  rw [e1, e2]
  by_cases hb : attrOk a0 a1 = false ∨ 1048576 < born
  · rw [if_pos hb, if_pos hb]
    refine (want_bad P a0 a1 born new w h hb).mono ?_
    rintro x w' ⟨rfl, hb⟩
    exact ⟨rfl, P, PTurn.of_below h hb⟩
  · rw [if_neg hb, if_neg hb]
    have hat : attrOk a0 a1 = true := by
      cases hq : attrOk a0 a1
      · exact absurd (.inl hq) hb
      · rfl
    have hbo : ¬ 1048576 < born := fun k => hb (.inr k)
    rcases Bool.eq_false_or_eq_true (hit P.sl a0 a1) with hh | hh
    · rw [if_pos hh, if_pos hh]
      exact want_hit P a0 a1 born new w h hat hbo hh
    · have hf : ¬ hit P.sl a0 a1 = true := by rw [hh]; decide
      rw [if_neg hf, if_neg hf]
      by_cases hneg : born < 0
      · rw [if_pos hneg, if_pos hneg]
        refine (want_none P a0 a1 born new w h hat hbo hh (by omega)).mono ?_
        rintro x w' ⟨rfl, hb⟩
        exact ⟨rfl, P, PTurn.of_below h hb⟩
      · rw [if_neg hneg, if_neg hneg]
        by_cases hl : 16 ≤ P.sl.length
        · rw [if_pos hl, if_pos hl]
          exact want_full P a0 a1 born new w h hat hbo hh (by omega) hl
        · rw [if_neg hl, if_neg hl]
          exact want_new P a0 a1 born new w h hat hbo hh (by omega) hl
end Go.Proofs.YtkahciadkgjbbaaDoor.QPty
namespace Go.Proofs.YtkahciadkgjbbaaDoor.QPty
open Go.RowKit Go.Proofs.YtkahciadkgjbbaaDoorW.PrintWords Go.Proofs.YtkahciadkgjbbaaDoorW.PrintLast Go.Proofs.YtkahciadkgjbbaaDoorW.PrintMore Gen
set_option linter.unusedVariables false
set_option linter.unusedSimpArgs false
def loopL (f : Ent → Ent) (l : List Ent) (k : Nat) : List Ent := (l.take k).map f ++ l.drop k
theorem loopL_zero (f : Ent → Ent) (l : List Ent) : loopL f l 0 = l := rfl
theorem loopL_len (f : Ent → Ent) (l : List Ent) (k : Nat) : (loopL f l k).length = l.length := by unfold loopL; simp; omega
theorem loopL_end (f : Ent → Ent) (l : List Ent) : loopL f l l.length = l.map f := by unfold loopL; simp
theorem loopL_get (f : Ent → Ent) (l : List Ent) (k : Nat) (hk : k < l.length) : (loopL f l k)[k]'(by rw [loopL_len]; exact hk) = l[k] := by
  unfold loopL
  rw [List.getElem_append_right (by simp; omega)]
  simp [Nat.min_eq_left (Nat.le_of_lt hk)]
theorem loopL_set (f : Ent → Ent) (l : List Ent) (k : Nat) (hk : k < l.length) : (loopL f l k).set k (f l[k]) = loopL f l (k + 1) := by
  unfold loopL
  rw [List.set_append_right _ _ (by simp; omega), List.take_succ_eq_append_getElem hk, List.map_append, List.append_assoc]
  congr 1
  rw [show k - ((l.take k).map f).length = 0 by simp; omega, List.drop_eq_getElem_cons hk]
  rfl
structure Keeps (f : Ent → Ent) : Prop where
  sb : ∀ e, (f e).sb = e.sb
  rb : ∀ e, (f e).rb = e.rb
  a0 : ∀ e, (f e).a0 = e.a0
  a1 : ∀ e, (f e).a1 = e.a1
  ok : ∀ e, e.st < 5 → e.rg.st < 3 → (f e).st < 5 ∧ (f e).rg.st < 3
structure LoopAt (w : World) (P : Pt) (f : Ent → Ent) (k : Nat) (wr : World) : Prop where
  at_ : PtAt wr { P with sl := loopL f P.sl k }
  wr : Wr w P.F wr
section
variable {w wr W : World} {P : Pt} {f : Ent → Ent} {k : Nat}
theorem LoopAt.start (h : PtAt w P) : LoopAt w P f 0 w := ⟨by rw [loopL_zero]; exact h, Wr.refl _ _⟩
theorem LoopAt.ent (h : LoopAt w P f k wr) (hk : k < P.sl.length) : EntAt wr P.sl[k] := by
  have := h.at_.ent ((loopL f P.sl k)[k]'(by rw [loopL_len]; exact hk)) (List.getElem_mem _)
  rwa [loopL_get f P.sl k hk] at this
theorem LoopAt.ok (h : LoopAt w P f k wr) (hk : k < P.sl.length) : P.sl[k].st < 5 ∧ P.sl[k].rg.st < 3 := by
  have := h.at_.ok ((loopL f P.sl k)[k]'(by rw [loopL_len]; exact hk)) (List.getElem_mem _)
  rwa [loopL_get f P.sl k hk] at this
theorem LoopAt.cell (h : LoopAt w P f k wr) (hk : k < P.sl.length) {A : Option Addr} {n c : Nat} (hu : P.u = .slice A n c) : ∃ blk, A = some ⟨blk, 0, none⟩ ∧ wr.cell? ⟨blk, k, none⟩ = some (.pointer (some ⟨P.sl[k].sb, 0, none⟩)) := by
  have hr := h.at_.row
  rw [hu] at hr
  obtain ⟨blk, e, hc⟩ := RE.cell hr k (by show k < (loopL f P.sl k).length; rw [loopL_len]; exact hk)
  refine ⟨blk, e, ?_⟩
  have e2 : (loopL f P.sl k)[k]'(by rw [loopL_len]; exact hk) = P.sl[k] := loopL_get f P.sl k hk
  rw [hc]
  show some (Value.pointer (some ⟨((loopL f P.sl k)[k]'_).sb, 0, none⟩)) = _
  rw [e2]
theorem LoopAt.below (h : LoopAt w P f k wr) (hb : Below wr.heap.size wr W) : LoopAt w P f k W := ⟨h.at_.below hb, h.wr.below hb⟩
theorem LoopAt.step (h : LoopAt w P f k wr) (hf : Keeps f) (hk : k < P.sl.length) (hw : Wr wr (fun q => q = P.sl[k].sb ∨ q = P.sl[k].rb) W) (he : EntAt W (f P.sl[k])) : LoopAt w P f (k + 1) W := by
  have hk2 : k < (loopL f P.sl k).length := by rw [loopL_len]; exact hk
  have eg : (loopL f P.sl k)[k] = P.sl[k] := loopL_get f P.sl k hk
  have hok := h.ok hk
  have key := PtAt.set (P := { P with sl := loopL f P.sl k }) h.at_ k hk2 (f P.sl[k]) (by show _ = ((loopL f P.sl k)[k]).sb; rw [eg, hf.sb]) (by show _ = ((loopL f P.sl k)[k]).rb; rw [eg, hf.rb]) (by show _ = ((loopL f P.sl k)[k]).a0; rw [eg, hf.a0]) (by show _ = ((loopL f P.sl k)[k]).a1; rw [eg, hf.a1])
    (hf.ok _ hok.1 hok.2) (by show Wr wr (fun q => q = ((loopL f P.sl k)[k]).sb ∨ q = ((loopL f P.sl k)[k]).rb) W; rw [eg]; exact hw) he
  have e2 : ({ P with sl := (loopL f P.sl k).set k (f P.sl[k]) } : Pt) = { P with sl := loopL f P.sl (k + 1) } := by rw [loopL_set f P.sl k hk]
  refine ⟨?_, h.wr.trans hw (fun q hq => .inl (.inr (.inr (.inr ⟨_, List.getElem_mem hk, hq⟩))))⟩
  rw [← e2]
  exact key
theorem LoopAt.done (h : LoopAt w P f P.sl.length wr) (hf : Keeps f) (g : PS → PS) (hg : ∀ e, (f e).ps = g e.ps) : PTurn w P { P.m with sl := P.m.sl.map g } wr { P with sl := P.sl.map f } where
  at_ := by have := h.at_; rwa [loopL_end] at this
  pb := rfl
  m := by
    show PM.mk _ _ _ _ _ _ = _
    unfold Pt.m
    dsimp only
    rw [List.map_map, List.map_map]
    congr 1
    apply List.map_congr_left
    intro e he
    exact hg e
  wr := h.wr
  own := fun q hq => by
    rcases hq with hq | hq | hq | ⟨e, he, hq⟩
    · exact .inl (.inl hq)
    · exact .inl (.inr (.inl hq))
    · exact .inl (.inr (.inr (.inl hq)))
    · obtain ⟨x, hx, rfl⟩ := List.mem_map.1 he
      rw [hf.sb, hf.rb] at hq
      exact .inl (.inr (.inr (.inr ⟨x, hx, hq⟩)))
end
def PS.all (kind now : Int) (s : PS) : PS := if s.a0 = kind then { s with st := aN s.st 2, rg := rstep s.rg 2 now } else s
def fAll (kind now : Int) (e : Ent) : Ent := if e.a0 = kind then { e with st := aN e.st 2, rg := rstep e.rg 2 now } else e
theorem fAll_keeps (kind now : Int) : Keeps (fAll kind now) where
  sb e := by unfold fAll; split <;> rfl
  rb e := by unfold fAll; split <;> rfl
  a0 e := by unfold fAll; split <;> rfl
  a1 e := by unfold fAll; split <;> rfl
  ok e h1 h2 := by unfold fAll; split; exact ⟨aN_lt e.st h1 2 (by decide), rN_lt e.rg.st h2 2 (by decide)⟩; exact ⟨h1, h2⟩
theorem fAll_ps (kind now : Int) (e : Ent) : (fAll kind now e).ps = PS.all kind now e.ps := by
  unfold fAll PS.all Ent.ps
  dsimp only
  split <;> rfl
def PM.all (m : PM) (kind now : Int) : PM := { m with sl := m.sl.map (PS.all kind now) }
theorem halves {w W W2 : World} {e : Ent} (h : EntAt w e) {r : RG} (h1 : RgAt W e.rb r) (hw1 : Wr w (fun k => k = e.rb) W) {s : SL} (h2 : SlAt W e.sb e.sl → SlAt W2 e.sb s ∧ Wr W (fun k => k = e.sb) W2) : SlAt W2 e.sb s ∧ RgAt W2 e.rb r ∧ Wr w (fun k => k = e.sb ∨ k = e.rb) W2 := by
  have hs : SlAt W e.sb e.sl := blk_kept h.sl hw1.kept (fun q => blk_types h.sl h.rg (by decide) q)
  obtain ⟨h3, h4⟩ := h2 hs
  exact ⟨h3, blk_kept h1 h4.kept (fun q => blk_types h1 hs (by decide) q), (hw1.mono (fun k hk => .inr hk)).trans h4 (fun k hk => .inl (.inl hk))⟩
set_option maxHeartbeats 4000000 in
set_option maxRecDepth 100000 in
theorem all_calls (P : Pt) (kind now : Int) (w : World) (h : PtAt w P) :
    Calls Tryd.prog 30 #[.pointer (some ⟨P.pb, 0, none⟩), .int .i64 kind, .int .i64 now] w fun x w' => x = .returned (.tuple #[]) ∧ ∃ P', PTurn w P (P.m.all kind now) w' P' := by
  have e61 : ∀ args w, (callFunc 61 args).run Tryd.prog w = .ok (.enter 61 args) w := enters_of Tryd.func61 (by kernel_rfl) rfl
  have e62 : ∀ args w, (callFunc 62 args).run Tryd.prog w = .ok (.enter 62 args) w := enters_of Tryd.func62 (by kernel_rfl) rfl
  have hl16 := h.len
  obtain ⟨A, c, hu⟩ := Kd.R_slice h.row
  have h0 : w.cell? ⟨P.pb, 0, none⟩ = some P.u := (blk_cell h.par 0).trans rfl
  have HU := Aside0.mk hu
  rw [hu] at h0
  have H := Aside0.mk h
  clear h hu
  go_enter Tryd.func30, Tryd.ntmps30
  go_wp2
  go_loopg [7, 13] P.sl.length (fun gg _ s13 wr => ∃ kk : Nat, kk ≤ P.sl.length ∧ P.sl.length - kk ≤ gg ∧ s13 = .int .i64 kk ∧ Aside0 (LoopAt w P (fAll kind now) kk wr))
  case atStart => exact ⟨0, Nat.zero_le _, by omega, rfl, ⟨LoopAt.start H.out⟩⟩
  case round =>
    obtain ⟨kk, hkk, hg, rfl, LL⟩ := hrel
    by_cases hlt : kk < P.sl.length
    · have hltz : (kk : Int) < (P.sl.length : Int) := by omega
      obtain ⟨blk, e, hx0⟩ := LL.out.cell hlt HU.out
      subst e
      have HE := Aside0.mk (LL.out.ent hlt)
      have HOK := Aside0.mk (LL.out.ok hlt)
      have HST := Aside0.mk (fun W hw he => LL.out.step (W := W) (fAll_keeps kind now) hlt hw he)
      clear LL
      generalize P.sl[kk] = e at *
      have hc0 : wr.cell? ⟨e.sb, 0, none⟩ = some (.int .i64 e.a0) := (blk_cell HE.out.sl 0).trans rfl
      have hc2 : wr.cell? ⟨e.sb, 2, none⟩ = some (.pointer (some ⟨e.rb, 0, none⟩)) := (blk_cell HE.out.sl 2).trans rfl
      by_cases ck : e.a0 = kind
      · have ckb : (e.a0 == kind) = true := by simpa using ck
        have hfe : fAll kind now e = { e with st := aN e.st 2, rg := rstep e.rg 2 now } := by unfold fAll; rw [if_pos ck]
        rw [hfe] at HST
        go_wp2_with (first
          | (go_at_fn 61; with_reducible refine (rall_calls e.rb e.rg now _ HE.out.rg HOK.out.2).mono ?_; rintro x w2 ⟨rfl, hr2, hw2⟩; have HR2 := Aside0.mk hr2; have HW2 := Aside0.mk hw2; have HS2 := Aside0.mk (show SlAt w2 e.sb e.sl from blk_kept HE.out.sl hw2.kept (fun q => absurd q (blk_types HE.out.sl HE.out.rg (by decide)))); clear hr2 hw2)
          | (go_at_fn 62; with_reducible refine (aall_calls e.sb e.sl _ HS2.out HOK.out.1).mono ?_; rintro x w3 ⟨rfl, hs3, hw3⟩; have HN3 := Aside0.mk (halves HE.out HR2.out HW2.out (fun _ => ⟨hs3, hw3⟩)); clear hs3 hw3))
        go_roundg (P.sl.length - (kk + 1))
        case measure => omega
        case rel => exact ⟨kk + 1, by omega, by omega, by go_num, ⟨HST.out _ HN3.out.2.2 ⟨HN3.out.1, HN3.out.2.1⟩⟩⟩
      · have ckb : (e.a0 == kind) = false := by simpa using ck
        have hfe : fAll kind now e = e := by unfold fAll; rw [if_neg ck]
        rw [hfe] at HST
        go_wp2
        go_roundg (P.sl.length - (kk + 1))
        case measure => omega
        case rel => exact ⟨kk + 1, by omega, by omega, by go_num, ⟨HST.out _ (Wr.refl _ _) HE.out⟩⟩
    · have e : kk = P.sl.length := by omega
      subst e
      go_wp2
      go_end0
      exact ⟨rfl, _, LL.out.done (fAll_keeps kind now) _ (fAll_ps kind now)⟩
end Go.Proofs.YtkahciadkgjbbaaDoor.QPty
namespace Go.Proofs.YtkahciadkgjbbaaDoor.QPty
open Go.RowKit Go.Proofs.YtkahciadkgjbbaaDoorW.PrintWords Go.Proofs.YtkahciadkgjbbaaDoorW.PrintLast Go.Proofs.YtkahciadkgjbbaaDoorW.PrintMore Gen
set_option linter.unusedVariables false
set_option linter.unusedSimpArgs false
def laySort_ren : Go.Shelf.Ren := ⟨fun | 189 => 65 | 125 => 83 | 257 => 82 | 128 => 97 | 129 => 98 | 294 => 88 | 295 => 89 | 296 => 90 | 297 => 91 | 298 => 92 | 299 => 93 | 216 => 94 | 300 => 95 | 301 => 96 | 328 => 102 | 329 => 103 | 330 => 104 | 331 => 105 | 332 => 106 | 215 => 86 | 343 => 107 | n => n, fun | 28 => 22 | 3 => 3 | 46 => 40 | 0 => 0 | 51 => 134 | 53 => 136 | 4 => 4 | 183 => 128 | 182 => 127 | 131 => 89 | 5 => 5 | 9 => 9 | 218 => 139 | 222 => 143 | 228 => 145 | 229 => 146 | n => n, fun | n => n⟩
theorem laySort : Go.Proofs.Lays.n189 Tryd.prog laySort_ren := {
  mixed := by kernel_rfl
  f125 := Tryd.func83.trans (congrArg some (by kernel_rfl))
  f128 := Tryd.func97.trans (congrArg some (by kernel_rfl))
  f129 := Tryd.func98.trans (congrArg some (by kernel_rfl))
  f189 := Tryd.func65.trans (congrArg some (by kernel_rfl))
  f215 := Tryd.func86.trans (congrArg some (by kernel_rfl))
  f216 := Tryd.func94.trans (congrArg some (by kernel_rfl))
  f257 := Tryd.func82.trans (congrArg some (by kernel_rfl))
  f294 := Tryd.func88.trans (congrArg some (by kernel_rfl))
  f295 := Tryd.func89.trans (congrArg some (by kernel_rfl))
  f296 := Tryd.func90.trans (congrArg some (by kernel_rfl))
  f297 := Tryd.func91.trans (congrArg some (by kernel_rfl))
  f298 := Tryd.func92.trans (congrArg some (by kernel_rfl))
  f299 := Tryd.func93.trans (congrArg some (by kernel_rfl))
  f300 := Tryd.func95.trans (congrArg some (by kernel_rfl))
  f301 := Tryd.func96.trans (congrArg some (by kernel_rfl))
  f328 := Tryd.func102.trans (congrArg some (by kernel_rfl))
  f329 := Tryd.func103.trans (congrArg some (by kernel_rfl))
  f330 := Tryd.func104.trans (congrArg some (by kernel_rfl))
  f331 := Tryd.func105.trans (congrArg some (by kernel_rfl))
  f332 := Tryd.func106.trans (congrArg some (by kernel_rfl))
  f343 := Tryd.func107.trans (congrArg some (by kernel_rfl))
  t0 := Tryd.underlying0
  a0 := Tryd.isAgg0
  z0 := Tryd.sizeOf0
  v0 := Tryd.zeroValue0
  t3 := Tryd.underlying3
  a3 := Tryd.isAgg3
  z3 := Tryd.sizeOf3
  v3 := Tryd.zeroValue3
  t4 := Tryd.underlying4
  a4 := Tryd.isAgg4
  z4 := Tryd.sizeOf4
  v4 := Tryd.zeroValue4
  t5 := Tryd.underlying5
  a5 := Tryd.isAgg5
  z5 := Tryd.sizeOf5
  v5 := Tryd.zeroValue5
  t9 := Tryd.underlying9
  a9 := Tryd.isAgg9
  z9 := Tryd.sizeOf9
  v9 := Tryd.zeroValue9
  t28 := Tryd.underlying22
  a28 := Tryd.isAgg22
  z28 := Tryd.sizeOf22
  v28 := Tryd.zeroValue22
  t46 := Tryd.underlying40
  a46 := Tryd.isAgg40
  z46 := Tryd.sizeOf40
  v46 := Tryd.zeroValue40
  t51 := Tryd.underlying134
  a51 := Tryd.isAgg134
  z51 := Tryd.sizeOf134
  v51 := Tryd.zeroValue134
  t53 := Tryd.underlying136
  a53 := Tryd.isAgg136
  z53 := Tryd.sizeOf136
  v53 := Tryd.zeroValue136
  t131 := Tryd.underlying89
  a131 := Tryd.isAgg89
  z131 := Tryd.sizeOf89
  v131 := Tryd.zeroValue89
  t182 := Tryd.underlying127
  a182 := Tryd.isAgg127
  z182 := Tryd.sizeOf127
  v182 := Tryd.zeroValue127
  t183 := Tryd.underlying128
  a183 := Tryd.isAgg128
  z183 := Tryd.sizeOf128
  v183 := Tryd.zeroValue128
  t218 := Tryd.underlying139
  a218 := Tryd.isAgg139
  z218 := Tryd.sizeOf139
  v218 := Tryd.zeroValue139
  t222 := Tryd.underlying143
  a222 := Tryd.isAgg143
  z222 := Tryd.sizeOf143
  v222 := Tryd.zeroValue143
  t228 := Tryd.underlying145
  a228 := Tryd.isAgg145
  z228 := Tryd.sizeOf145
  v228 := Tryd.zeroValue145
  t229 := Tryd.underlying146
  a229 := Tryd.isAgg146
  z229 := Tryd.sizeOf146
  v229 := Tryd.zeroValue146 }
def layCpt_ren : Go.Shelf.Ren := ⟨fun | 20 => 66 | n => n, fun | 22 => 22 | 3 => 3 | 4 => 4 | 0 => 0 | n => n, fun | n => n⟩
theorem layCpt : Go.Proofs.Lays2.n20 Tryd.prog layCpt_ren := {
  mixed := by kernel_rfl
  f20 := Tryd.func66.trans (congrArg some (by kernel_rfl))
  t0 := Tryd.underlying0
  a0 := Tryd.isAgg0
  z0 := Tryd.sizeOf0
  v0 := Tryd.zeroValue0
  t3 := Tryd.underlying3
  a3 := Tryd.isAgg3
  z3 := Tryd.sizeOf3
  v3 := Tryd.zeroValue3
  t4 := Tryd.underlying4
  a4 := Tryd.isAgg4
  z4 := Tryd.sizeOf4
  v4 := Tryd.zeroValue4
  t22 := Tryd.underlying22
  a22 := Tryd.isAgg22
  z22 := Tryd.sizeOf22
  v22 := Tryd.zeroValue22
  i3 := by kernel_rfl }
theorem sort_calls (u : Value) (l : List Int) (w : World) (base : Nat) (ho0 : Kd.R (Kd.int .i64) 3 w base (fun _ => True) u l) (hbig : l.length < 4611686018427387904) :
    Calls Tryd.prog 65 #[u] w fun e w' => e = .returned (.tuple #[]) ∧ Kd.R (Kd.int .i64) 3 w' base (fun _ => True) u (l.mergeSort fun x y => decide (x ≤ y)) ∧ Wr w (Blk u) w' := by
  have ho := Kd.own_of_R ho0
  have hlen : (l.mergeSort fun x y => decide (x ≤ y)).length = l.length := List.length_mergeSort _
  rcases ho.2 with ⟨he, hx⟩ | ⟨g, cap, cur, hv, hg, hb, h1, h2, h3, h4⟩
  · obtain rfl : l = [] := List.length_eq_zero_iff.1 (by simpa using hx)
    subst he
    refine (Any.slices_Sort_int_none laySort none 0 w).mono ?_
    rintro e w' ⟨rfl, rfl⟩
    exact ⟨rfl, by simpa using ho0, Wr.refl _ _⟩
  · subst hv
    rw [Nat.mul_one] at h4
    have hH : Go.Sort.Holds (Value.int .i64) w g 0 l.toArray := holds_of_blockI hb h4
    have hgw : g < w.heap.size := (Array.getElem?_eq_some_iff.1 hb).1
    refine (Any.slices_Sort_int laySort g 0 cap l w hH hgw hbig).mono ?_
    rintro e w' ⟨rfl, n, os, rfl⟩
    refine ⟨rfl, ?_, (wr_of_grown (grownBy_sortedI _)).mono (fun k hk => hk)⟩
    refine Kd.R_of_own (enc := Value.int .i64) ?_ (fun k hk => trivial)
    rw [hlen]
    exact ownsRow_sortedI hlen hg hb h1 h2 h3
theorem take_putMore (cur : Array Value) (ts zs : List Int) (h : (ts ++ zs).length ≤ cur.size) : (Go.Sort.putCells (Value.int .i64) 0 (ts ++ zs).toArray cur).toList.take ts.length = ts.map (Value.int .i64) := by
  have := take_putCellsI cur (ts ++ zs) h
  have h2 : ((Go.Sort.putCells (Value.int .i64) 0 (ts ++ zs).toArray cur).toList.take (ts ++ zs).length).take ts.length = ((ts ++ zs).map (Value.int .i64)).take ts.length := by rw [this]
  rw [List.take_take, Nat.min_eq_left (by simp), List.map_append, List.take_left' (by simp)] at h2
  exact h2
theorem compact_len (l : List Int) : (Lib.compact l).length ≤ l.length := by
  unfold Lib.compact Lib.compactUpTo
  rw [List.length_map]
  exact Nat.le_trans (List.length_filter_le _ _) (by simp)
theorem compact_calls (u : Value) (l : List Int) (w : World) (base : Nat) (ho0 : Kd.R (Kd.int .i64) 3 w base (fun _ => True) u l) (hbig : l.length < 4611686018427387904) :
    Calls Tryd.prog 66 #[u] w fun e w' => ∃ v, e = .returned v ∧ Kd.R (Kd.int .i64) 3 w' base (fun _ => True) v (Lib.compact l) ∧ Wr w (Blk u) w' ∧ v.ownBlock = u.ownBlock := by
  have ho := Kd.own_of_R ho0
  rcases ho.2 with ⟨he, hx⟩ | ⟨g, cap, cur, hv, hg, hb, h1, h2, h3, h4⟩
  · obtain rfl : l = [] := List.length_eq_zero_iff.1 (by simpa using hx)
    subst he
    refine (Any.slices_Compact_int_empty layCpt none 0 w).mono ?_
    rintro e w' ⟨rfl, rfl⟩
    exact ⟨_, rfl, ho0, Wr.refl _ _, rfl⟩
  · subst hv
    rw [Nat.mul_one] at h4
    have hH : Go.Sort.Holds (Value.int .i64) w g 0 l.toArray := holds_of_blockI hb h4
    have hgw : g < w.heap.size := (Array.getElem?_eq_some_iff.1 hb).1
    have hcl := compact_len l
    refine (Any.slices_Compact_int layCpt g 0 cap l w hH (by omega) h1).mono ?_
    rintro e w' ⟨rfl, q, rfl⟩
    have eg : ∀ W : World, Go.Sort.grow W #[] = W := fun W => by simp [Go.Sort.grow]
    refine ⟨_, rfl, ?_, ?_, rfl⟩
    · refine Kd.R_of_own (enc := Value.int .i64) ?_ (fun k hk => trivial)
      refine ⟨by rw [Nat.mul_one]; exact List.length_map _, .inr ⟨g, cap, Go.Sort.putCells (Value.int .i64) 0 (Lib.compact l ++ List.replicate (l.length - (Lib.compact l).length) 0).toArray cur, rfl, hg, ?_, by omega, h2, ?_, ?_⟩⟩
      · rw [← eg (Go.Sort.putRow _ _ _ _ _)]
        exact heap_sortedI _ hb
      · simp [Go.Sort.putCells, h3]
      · rw [Nat.mul_one]
        exact take_putMore cur _ _ (by simp; omega)
    · rw [← eg (Go.Sort.putRow _ _ _ _ _)]
      exact (wr_of_grown (grownBy_sortedI _)).mono (fun k hk => hk)
def typesL (l : List Int) : List Int := Lib.compact ((1 :: l).mergeSort fun x y => decide (x ≤ y))
theorem CI_one {w : World} {b : Nat} {x : Int} (h : w.heap[b]? = some (.cells #[.int .i64 x] 3 (0, 0))) : Kd.C (Kd.int .i64) w (some ⟨b, 0, none⟩) 1 [x] := by
  have hr : Own (fun x : Int => [Value.int .i64 x]) 1 3 w b 1 [x] := ⟨⟨_, h, rfl, rfl⟩, Nat.le_refl _⟩
  have := hr.toR (d := Kd.int .i64) (base := 0) (ok := fun _ => True) (fun _ => rfl) rfl (fun _ _ _ _ => rfl) (Nat.zero_le _) trivial (by decide)
  exact (Kd.R_reads' this).2.2
set_option maxHeartbeats 4000000 in
set_option maxRecDepth 100000 in
theorem types_calls (P : Pt) (w : World) (h : PtAt w P) :
    Calls Tryd.prog 34 #[.pointer (some ⟨P.pb, 0, none⟩)] w fun x w' => ∃ v, x = .returned v ∧ Kd.R (Kd.int .i64) 3 w' w.heap.size (fun _ => True) v (typesL (P.sl.map Ent.a0)) ∧ Below w.heap.size w w' := by
  have e65 : ∀ args w, (callFunc 65 args).run Tryd.prog w = .ok (.enter 65 args) w := enters_of Tryd.func65 (by kernel_rfl) rfl
  have e66 : ∀ args w, (callFunc 66 args).run Tryd.prog w = .ok (.enter 66 args) w := enters_of Tryd.func66 (by kernel_rfl) rfl
  have hl16 := h.len
  obtain ⟨A, c, hu⟩ := Kd.R_slice h.row
  have H0 := Aside0.mk (fun W (hb : Below w.heap.size w W) => show W.cell? ⟨P.pb, 0, none⟩ = some (.slice A P.sl.length c) from by rw [← hu]; exact (blk_cell (blk_below h.par hb) 0).trans rfl)
  have HU := Aside0.mk hu
  have H := Aside0.mk h
  clear h hu
  go_enter Tryd.func34, Tryd.ntmps34
  go_wp2_with ((with_reducible refine gate_dst (N := 6) rfl ?_); refine Kd.R_lit (Kd.int .i64) w.heap.size 3 ?hg (N := 6) ?hd (xs := ([1] : List Int)) (inner := [.int .i64 1]) (ok := fun _ => True) (okp := fun _ => True) (w0 := w) ?hr ?hp (fun _ hk => hk) trivial (Below.refl _ _) (Nat.le_refl _) (by simp) ?_; (case hd => rfl); (case hg => rfl); (case hr => first | (go_simp; done) | (go_simp; rfl)); (case hp => exact (Reps.one (show Kd.M (Kd.int .i64) _ _ _ 1 [.int .i64 1] from rfl) (Reps.none _ _))); intro v1 w1 ho1 hb1 hg1 hn1; have HO1 := Aside0.mk ho1; have HB1 := Aside0.mk hb1; have h0 := H0.out w1 hb1; clear ho1 hb1 hg1 hn1)
  go_loopg [3, 5, 12] P.sl.length (fun gg s3 _ s12 wr => ∃ kk : Nat, kk ≤ P.sl.length ∧ P.sl.length - kk ≤ gg ∧ s12 = .int .i64 kk ∧ Aside0 (Below w.heap.size w wr) ∧ Aside0 (Kd.R (Kd.int .i64) 3 wr w.heap.size (fun _ => True) s3 (1 :: (P.sl.take kk).map Ent.a0)))
  case atStart => exact ⟨0, Nat.zero_le _, by omega, rfl, HB1, HO1⟩
  case round =>
    clear HB1 HO1
    obtain ⟨kk, hkk, hg, rfl, HB, HO⟩ := hrel
    by_cases hlt : kk < P.sl.length
    · have hltz : (kk : Int) < (P.sl.length : Int) := by omega
      have hPr := H.out.below HB.out
      have hrow := hPr.row
      rw [HU.out] at hrow
      obtain ⟨blk, e, hx0⟩ := RE.cell hrow kk hlt
      subst e
      have HE := Aside0.mk (hPr.ent _ (List.getElem_mem hlt))
      have HTK := Aside0.mk (show 1 :: (P.sl.take (kk + 1)).map Ent.a0 = (1 :: (P.sl.take kk).map Ent.a0) ++ [P.sl[kk].a0] by rw [List.take_succ_eq_append_getElem hlt, List.map_append]; rfl)
      have HLN := Aside0.mk (show (1 :: (P.sl.take kk).map Ent.a0).length ≤ 17 by simp; omega)
      clear hPr hrow
      generalize 1 :: (P.sl.take kk).map Ent.a0 = l0 at *
      generalize P.sl[kk] = e at *
      obtain ⟨A3, c3, rfl⟩ := Kd.R_slice HO.out
      have hc0 : wr.cell? ⟨e.sb, 0, none⟩ = some (.int .i64 e.a0) := (blk_cell HE.out.sl 0).trans rfl
      have HOw := Aside0.mk (Kd.R_below HO.out (below_alloc (Below.refl _ wr) (.cells #[.int .i64 e.a0] 3)))
      have HBw := Aside0.mk (below_alloc HB.out (.cells #[.int .i64 e.a0] 3))
      have HC1 := Aside0.mk (CI_one (blk_new wr (.cells #[.int .i64 e.a0] 3)))
      go_wp2_with ((with_reducible refine gate_builtin (b := .append) (xs := #[.tmp 16, .tmp 22]) rfl ?_); at_builtin; refine Kd.R_append_rows (Kd.int .i64) (w0 := w) w.heap.size rfl (.tmp 16) (.tmp 22) 22 3 (.int .i64 0) 8 rfl Tryd.underlying22 info3 rfl (by decide) (by omega) (.slice A3 l0.length c3) l0 [e.a0] (some ⟨wr.heap.size, 0, none⟩) 1 1 (fun _ => True) (fun _ => False) rfl rfl ?aO ?aR (fun _ _ h => h) (fun _ h => h.elim) ?aF ?aB ?aS ?aL ?_; (case aR => exact HC1.out); (case aB => exact HBw.out); (case aF => exact (fun _ _ => trivial)); (case aO => exact HOw.out); (case aS => exact HBw.out.size); (case aL => have := HLN.out; omega); intro v2 w2 ho2 hb2 hg2 hat; have HO2 := Aside0.mk ho2; have HB2 := Aside0.mk hb2; clear ho2 hb2 hg2 hat)
      all_goals
        go_roundg (P.sl.length - (kk + 1))
        case measure => omega
        case rel => exact ⟨kk + 1, by omega, by omega, by go_num, HB2, ⟨by rw [HTK.out]; exact HO2.out⟩⟩
    · have e : kk = P.sl.length := by omega
      subst e
      rw [List.take_of_length_le (Nat.le_refl _)] at HO
      have HLN := Aside0.mk (show (1 :: P.sl.map Ent.a0).length ≤ 17 by simp; omega)
      have HTL := Aside0.mk (show typesL (P.sl.map Ent.a0) = Lib.compact ((1 :: P.sl.map Ent.a0).mergeSort fun x y => decide (x ≤ y)) from rfl)
      generalize 1 :: P.sl.map Ent.a0 = l0 at *
      obtain ⟨A3, c3, rfl⟩ := Kd.R_slice HO.out
      have hbase : ∀ k, Blk (.slice A3 l0.length c3) k → w.heap.size ≤ k := fun k hk => own_base (Kd.own_of_R HO.out) k hk
      have HBS := Aside0.mk hbase
      have HSO := Aside0.mk (sort_calls (.slice A3 l0.length c3) l0 wr w.heap.size HO.out (by have := HLN.out; omega))
      clear hbase
      go_wp2_with (first
        | (go_at_fn 65; with_reducible refine HSO.out.mono ?_; rintro x w2 ⟨rfl, hr2, hw2⟩; have HR2 := Aside0.mk hr2; have HB2 := Aside0.mk (hw2.low HB.out HB.out.size HBS.out); clear hr2 hw2)
        | (go_at_fn 66; with_reducible refine (compact_calls (.slice A3 l0.length c3) (l0.mergeSort fun x y => decide (x ≤ y)) _ w.heap.size HR2.out (by rw [List.length_mergeSort]; have := HLN.out; omega)).mono ?_; rintro x w3 ⟨v, rfl, hr3, hw3, hv3⟩; have HR3 := Aside0.mk hr3; have HB3 := Aside0.mk (hw3.low HB2.out HB2.out.size HBS.out); clear hr3 hw3))
      go_ret
      exact ⟨v, rfl, by rw [HTL.out]; exact HR3.out, HB3.out⟩
end Go.Proofs.YtkahciadkgjbbaaDoor.QPty
namespace Go.Proofs.YtkahciadkgjbbaaDoor.QPty
open Go.RowKit Go.Proofs.YtkahciadkgjbbaaDoorW.PrintWords Go.Proofs.YtkahciadkgjbbaaDoorW.PrintLast Go.Proofs.YtkahciadkgjbbaaDoorW.PrintMore
set_option linter.unusedVariables false
set_option linter.unusedSimpArgs false
structure EV (w : World) : Prop where
  c0 : w.cell? ⟨0, 0, none⟩ = some (.int .i64 0)
  c1 : w.cell? ⟨0, 1, none⟩ = some (.int .i64 0)
  c2 : w.cell? ⟨0, 2, none⟩ = some (.int .i64 1)
  c3 : w.cell? ⟨0, 3, none⟩ = some (.int .i64 5)
theorem EV.wr {w W : World} {F : Nat → Prop} (h : EV w) (hw : Wr w F W) (h0 : ¬ F 0) : EV W := ⟨hw.cell h.c0 h0, hw.cell h.c1 h0, hw.cell h.c2 h0, hw.cell h.c3 h0⟩
theorem EV.below {w W : World} (h : EV w) (hb : Below w.heap.size w W) : EV W := h.wr (Wr.of_below hb (fun _ => False)) id
theorem EV.lt {w : World} (h : EV w) : 0 < w.heap.size := World.block_lt_of_cell? w _ h.c0
def evt (a : Nat) : Int := [(0 : Int), 0, 1, 5].getD a 0
theorem EV.at_ {w : World} (h : EV w) (a : Nat) (ha : a < 4) : w.cell? ⟨0, a, none⟩ = some (.int .i64 (evt a)) := by
  match a, ha with
  | 0, _ => exact h.c0
  | 1, _ => exact h.c1
  | 2, _ => exact h.c2
  | 3, _ => exact h.c3
def sayV (s : SL) : Value := if aA s.st 4 = 0 then .tuple #[.int .i64 0, .int .i64 0, .bool false] else .tuple #[.int .i64 (evt (aA s.st 4)), .int .i64 s.born, .bool true]
set_option maxHeartbeats 4000000 in
set_option maxRecDepth 100000 in
theorem say1_calls (b : Nat) (s : SL) (w : World) (h : SlAt w b s) (hs : s.st < 5) (hE : EV w) (hb0 : b ≠ 0) :
    Calls Tryd.prog 67 #[.pointer (some ⟨b, 3, none⟩)] w fun x w' => x = .returned (sayV s) ∧ SlAt w' b (astep s 4) ∧ Wr w (fun k => k = b) w' := by
  have mixed : Tryd.prog.follows .mixedOrders = true := by kernel_rfl
  have e55 : ∀ args w, (callFunc 55 args).run Tryd.prog w = .ok (.enter 55 args) w := enters_of Tryd.func55 (by kernel_rfl) rfl
  have HS := Aside0.mk (astep_at b s 4 4 rfl w h hs (by decide))
  have hA4 := aA_lt s.st hs 4 (by decide)
  have HE := Aside0.mk hE
  unfold sayV
  generalize aA s.st 4 = act at *
  clear h hs hE
  by_cases c : act = 0
  · subst c
    rw [if_pos rfl]
    go_enter Tryd.func67, Tryd.ntmps67
    go_wp2_with (go_at_fn 55; with_reducible refine HS.out.mono ?_; rintro x w1 ⟨rfl, h1, h2⟩; have H1 := Aside0.mk h1; have H2 := Aside0.mk h2; clear h1 h2)
    go_ret3
    exact ⟨rfl, H1.out, H2.out⟩
  · rw [if_neg c]
    have cz : ¬ (act : Int) = 0 := by omega
    have c4 : (act : Int) < 4 := by omega
    go_enter Tryd.func67, Tryd.ntmps67
    go_wp2_with (go_at_fn 55; with_reducible refine HS.out.mono ?_; rintro x w1 ⟨rfl, h1, h2⟩; have hx := (HE.out.wr h2 (Ne.symm hb0)).at_ act hA4; have hy : w1.cell? ⟨b, 4, none⟩ = some (.int .i64 s.born) := (blk_cell h1 4).trans rfl; have H1 := Aside0.mk h1; have H2 := Aside0.mk h2; clear h1 h2)
    go_quiet (fail)
    go_wp2
    go_ret3
    exact ⟨rfl, blk_below H1.out (pw_below_drewN (Below.refl _ _) _), H2.out.below (pw_below_drewN (Below.refl _ _) _)⟩
end Go.Proofs.YtkahciadkgjbbaaDoor.QPty
namespace Go.Proofs.YtkahciadkgjbbaaDoor.QPty
open Go.RowKit Go.Proofs.YtkahciadkgjbbaaDoorW.PrintWords Go.Proofs.YtkahciadkgjbbaaDoorW.PrintLast Go.Proofs.YtkahciadkgjbbaaDoorW.PrintMore Gen
set_option linter.unusedVariables false
set_option linter.unusedSimpArgs false
theorem PtAt.field {w W : World} {P : Pt} (h : PtAt w P) (due : Int) (ask : Bool) (fails : Int) (hw : Wr w (fun k => k = P.pb) W) (hp : W.heap[P.pb]? = some (.cells (ptCells { P with due := due, ask := ask, fails := fails }) 61 (0, 0))) :
    PTurn w P { P.m with due := due, ask := ask, fails := fails } W { P with due := due, ask := ask, fails := fails } := by
  have hnot : ∀ k cells t z, w.heap[k]? = some (.cells cells t z) → t ≠ 61 → ¬ k = P.pb := fun k cells t z hk n1 e => blk_types hk h.par n1 e
  refine ⟨?_, rfl, rfl, hw.mono (fun k hk => .inl hk), fun k hk => .inl hk⟩
  exact { par := hp, drw := h.drw.kept hw.kept (hnot _ _ _ _ h.drw.cell (by decide)) (fun q hq => by obtain ⟨c, hc⟩ := typed_of_drw h.drw q hq; exact hnot _ _ _ _ hc (by decide)), row := R_kept rfl h.row hw.kept (fun q hq => by obtain ⟨c, hc⟩ := typed_of_row h.row q hq; exact hnot _ _ _ _ hc (by decide)), ent := fun e he => (h.ent e he).kept hw.kept (hnot _ _ _ _ (h.ent e he).sl (by decide)) (hnot _ _ _ _ (h.ent e he).rg (by decide)), nds := h.nds, ndr := h.ndr, srt := h.srt, ok := h.ok, len := h.len }
theorem info42 : (Tryd.prog.info? 42).map (fun i => (i.zero, i.size, i.bytes)) = some (some (.agg #[.int .i64 0, .int .i64 0, .int .i64 0, .int .i64 0]), 4, 32) := by kernel_rfl
abbrev wdCells (x : S42) : List Value := [.int .i64 x.f0.f0, .int .i64 x.f0.f1, .int .i64 x.f1, .int .i64 x.f2]
theorem C_one42 {w : World} {b : Nat} {x : S42} (h : w.heap[b]? = some (.cells #[.int .i64 x.f0.f0, .int .i64 x.f0.f1, .int .i64 x.f1, .int .i64 x.f2] 42 (0, 0))) : Kd.C k42 w (some ⟨b, 0, none⟩) 1 [x] := by
  have hr : Own wdCells 4 42 w b 1 [x] := ⟨⟨_, h, rfl, rfl⟩, Nat.le_refl _⟩
  have := hr.toR (d := k42) (base := 0) (ok := fun _ => True) (fun _ => rfl) rfl (fun w base ok x => k42_mkM w base ok x) (Nat.zero_le _) trivial (by decide)
  exact (Kd.R_reads' this).2.2
def PS.word (s : PS) : Option S42 := if aA s.st 4 = 0 then none else some ⟨⟨s.a0, s.a1⟩, evt (aA s.st 4), s.born⟩
def PS.say (s : PS) : PS := { s with st := aN s.st 4 }
def fSay (e : Ent) : Ent := { e with st := aN e.st 4 }
theorem fSay_keeps : Keeps fSay := ⟨fun _ => rfl, fun _ => rfl, fun _ => rfl, fun _ => rfl, fun e h1 h2 => ⟨aN_lt e.st h1 4 (by decide), h2⟩⟩
def PM.sayAll (m : PM) : List Int := if m.ask then typesL (m.sl.map PS.a0) else []
def PM.sayWords (m : PM) : List S42 := m.sl.filterMap PS.word
def PM.say (m : PM) : PM := { m with ask := false, sl := m.sl.map PS.say }
def wordsL (l : List Ent) : List S42 := (l.map Ent.ps).filterMap PS.word
structure SayAt (w : World) (P : Pt) (b2 b3 base : Nat) (vA vW : Value) (all : List Int) (k : Nat) (wr : World) : Prop where
  loop : LoopAt w P fSay k wr
  ev : EV wr
  r2 : wr.heap[b2]? = some (.cells #[.slice none 0 0, .slice none 0 0] 37 (0, 0))
  r3 : wr.heap[b3]? = some (.cells #[vA, vW] 37 (0, 0))
  ra : Kd.R (Kd.int .i64) 3 wr base (fun _ => True) vA all
  rw : Kd.R k42 42 wr base (fun _ => True) vW (wordsL (P.sl.take k))
theorem typed_int {w : World} {base : Nat} {u : Value} {l : List Int} (h : Kd.R (Kd.int .i64) 3 w base (fun _ => True) u l) (q : Nat) (hq : Blk u q) : ∃ cells, w.heap[q]? = some (.cells cells 3 (0, 0)) := by
  obtain ⟨inner, ho⟩ := h.2
  exact own_typed ho.1 q hq
theorem typed_wd {w : World} {base : Nat} {u : Value} {l : List S42} (h : Kd.R k42 42 w base (fun _ => True) u l) (q : Nat) (hq : Blk u q) : ∃ cells, w.heap[q]? = some (.cells cells 42 (0, 0)) := by
  obtain ⟨inner, ho⟩ := h.2
  exact own_typed ho.1 q hq
section
variable {w wr W : World} {P : Pt} {b2 b3 base : Nat} {vA vW : Value} {all : List Int} {k : Nat}
theorem SayAt.ne0 (h : SayAt w P b2 b3 base vA vW all k wr) (h0 : ¬ P.F 0) (hk : k < P.sl.length) : P.sl[k].sb ≠ 0 := fun e => h0 (.inr (.inr (.inr ⟨_, List.getElem_mem hk, .inl e.symm⟩)))
theorem SayAt.step (h : SayAt w P b2 b3 base vA vW all k wr) (h0 : ¬ P.F 0) (hk : k < P.sl.length) (hw : Wr wr (fun q => q = P.sl[k].sb) W) (he : SlAt W P.sl[k].sb (astep P.sl[k].sl 4)) :
    LoopAt w P fSay (k + 1) W ∧ EV W ∧ W.heap[b2]? = some (.cells #[.slice none 0 0, .slice none 0 0] 37 (0, 0)) ∧ W.heap[b3]? = some (.cells #[vA, vW] 37 (0, 0)) ∧ Kd.R (Kd.int .i64) 3 W base (fun _ => True) vA all ∧ Kd.R k42 42 W base (fun _ => True) vW (wordsL (P.sl.take k)) := by
  have hE := h.loop.ent hk
  refine ⟨h.loop.step fSay_keeps hk (hw.mono (fun q hq => .inl hq)) ⟨he, ?_⟩, h.ev.wr hw (Ne.symm (h.ne0 h0 hk)), ?_, ?_, ?_, ?_⟩
  · exact blk_kept hE.rg hw.kept (fun q => blk_types hE.rg hE.sl (by decide) q)
  · exact blk_kept h.r2 hw.kept (fun q => blk_types h.r2 hE.sl (by decide) q)
  · exact blk_kept h.r3 hw.kept (fun q => blk_types h.r3 hE.sl (by decide) q)
  · exact R_kept rfl h.ra hw.kept (fun q hq e => by obtain ⟨c, hc⟩ := typed_int h.ra q hq; exact blk_types hc hE.sl (by decide) e)
  · exact R_kept rfl h.rw hw.kept (fun q hq e => by obtain ⟨c, hc⟩ := typed_wd h.rw q hq; exact blk_types hc hE.sl (by decide) e)
end
theorem wordsL_take (l : List Ent) (k : Nat) (hk : k < l.length) : wordsL (l.take (k + 1)) = wordsL (l.take k) ++ (match l[k].ps.word with | some x => [x] | none => []) := by
  unfold wordsL
  rw [List.take_succ_eq_append_getElem hk, List.map_append, List.filterMap_append]
  congr 1
  simp only [List.map_cons, List.map_nil, List.filterMap_cons, List.filterMap_nil]
  cases l[k].ps.word <;> rfl
theorem wordsL_len (l : List Ent) : (wordsL l).length ≤ l.length := by
  unfold wordsL
  exact Nat.le_trans (List.length_filterMap_le _ _) (by simp)
theorem LoopAt.F0 {P : Pt} {f : Ent → Ent} (hf : Keeps f) (k : Nat) (q : Nat) (h : Pt.F { P with sl := loopL f P.sl k } q) : P.F q := by
  rcases h with h | h | h | ⟨e, he, hk⟩
  · exact .inl h
  · exact .inr (.inl h)
  · exact .inr (.inr (.inl h))
  · unfold loopL at he
    rcases List.mem_append.1 he with he | he
    · obtain ⟨x, hx, rfl⟩ := List.mem_map.1 he
      rw [hf.sb, hf.rb] at hk
      exact .inr (.inr (.inr ⟨x, List.mem_of_mem_take hx, hk⟩))
    · exact .inr (.inr (.inr ⟨e, List.mem_of_mem_drop he, hk⟩))
theorem LoopAt.start' {w W : World} {P : Pt} {f : Ent → Ent} (h : PtAt W P) (hw : Wr w P.F W) : LoopAt w P f 0 W := ⟨by rw [loopL_zero]; exact h, hw⟩
theorem typed_drw {w : World} {P : Pt} (h : PtAt w P) (q : Nat) (hq : Blk P.dv q) : ∃ cells, w.heap[q]? = some (.cells cells 3 (0, 0)) := typed_of_drw h.drw q hq
theorem said {w w5 w4 : World} {P : Pt} {b2 b3 : Nat} {vA vW v4 : Value} {all : List Int} {k : Nat} {xs : List S42} {x : S42} (q1 : LoopAt w P fSay (k + 1) w5) (q2 : EV w5) (q3 : w5.heap[b2]? = some (.cells #[.slice none 0 0, .slice none 0 0] 37 (0, 0))) (q4 : w5.heap[b3]? = some (.cells #[vA, vW] 37 (0, 0)))
    (q5 : Kd.R (Kd.int .i64) 3 w5 w.heap.size (fun _ => True) vA all) (q6 : Kd.R k42 42 w5 w.heap.size (fun _ => True) vW xs) (hb3 : w.heap.size ≤ b3) (h23 : b2 ≠ b3) (hpos : 0 < w.heap.size) (hg : Wr w5 (fun q => Blk vW q) w4) (h4 : w4.heap[b3]? = some (.cells #[vA, vW] 37 (0, 0)))
    (ho : Kd.R k42 42 w4 w.heap.size (fun _ => True) v4 (xs ++ [x])) (hx : wordsL (P.sl.take (k + 1)) = xs ++ [x]) : SayAt w P b2 b3 w.heap.size vA v4 all (k + 1) (w4.setCell ⟨b3, 1, none⟩ v4) := by
  have hW : Wr w5 (fun q => q = b3 ∨ Blk vW q) (w4.setCell ⟨b3, 1, none⟩ v4) := (hg.mono (fun q hq => .inr hq)).set (.inl (.inl rfl)) 1 _
  have hty : ∀ q, (q = b3 ∨ Blk vW q) → ∃ cells t, w5.heap[q]? = some (.cells cells t (0, 0)) ∧ (t = 37 ∨ t = 42) := fun q hq => by
    rcases hq with rfl | hq
    · exact ⟨_, 37, q4, .inl rfl⟩
    · obtain ⟨c, hc⟩ := typed_wd q6 q hq; exact ⟨c, 42, hc, .inr rfl⟩
  have hfr : ∀ q, (q = b3 ∨ Blk vW q) → w.heap.size ≤ q := fun q hq => by
    rcases hq with rfl | hq
    · exact hb3
    · obtain ⟨inner, ho⟩ := q6.2
      exact own_base ho.1 q hq
  have hno : ∀ q cells t, w5.heap[q]? = some (.cells cells t (0, 0)) → t ≠ 37 → t ≠ 42 → ¬ (q = b3 ∨ Blk vW q) := fun q cells t hq n1 n2 hh => by
    obtain ⟨c, t2, h2, h3⟩ := hty q hh
    rcases h3 with h3 | h3
    · subst h3; exact blk_types hq h2 n1 rfl
    · subst h3; exact blk_types hq h2 n2 rfl
  refine ⟨⟨q1.at_.kept hW.kept (fun q hq hh => ?_) (fun q hq => ?_), q1.wr.trans hW (fun q hq => .inr (hfr q hq))⟩, q2.wr hW (fun hh => absurd (hfr 0 hh) (by omega)), ?_, blk_put h4 1 _ rfl, ?_, ?_⟩
  · obtain ⟨c, t, hc, ht⟩ := q1.at_.F_type q hq
    refine hno q c t hc ?_ ?_ hh
    · rcases ht with h | h | h | h | h <;> (rw [h]; decide)
    · rcases ht with h | h | h | h | h <;> (rw [h]; decide)
  · obtain ⟨c, hc⟩ := typed_drw q1.at_ q hq
    exact hno q c 3 hc (by decide) (by decide)
  · refine blk_kept q3 hW.kept (fun hh => ?_)
    rcases hh with hh | hh
    · exact h23 hh
    · obtain ⟨c, hc⟩ := typed_wd q6 b2 hh; exact blk_types hc q3 (by decide) rfl
  · exact R_kept rfl q5 hW.kept (fun q hq => by obtain ⟨c, hc⟩ := typed_int q5 q hq; exact hno q c 3 hc (by decide) (by decide))
  · rw [hx]
    refine R_kept rfl ho (kept_set _ _ _ _) (fun q hq e => ?_)
    obtain ⟨c, hc⟩ := typed_wd ho q hq
    exact blk_types hc h4 (by decide) e
set_option maxHeartbeats 4000000 in
set_option maxRecDepth 100000 in
theorem say_false (P : Pt) (w : World) (h : PtAt w P) (hev : EV w) (hF0 : ¬ P.F 0) (hask : P.ask = false) :
    Calls Tryd.prog 35 #[.pointer (some ⟨P.pb, 0, none⟩)] w fun x w' => ∃ vA vW P', x = .returned (.agg #[vA, vW]) ∧ Kd.R (Kd.int .i64) 3 w' w.heap.size (fun _ => True) vA [] ∧ Kd.R k42 42 w' w.heap.size (fun _ => True) vW P.m.sayWords ∧ PTurn w P P.m.say w' P' := by
  have mixed : Tryd.prog.follows .mixedOrders = true := by kernel_rfl
  have e34 : ∀ args w, (callFunc 34 args).run Tryd.prog w = .ok (.enter 34 args) w := enters_of Tryd.func34 (by kernel_rfl) rfl
  have e67 : ∀ args w, (callFunc 67 args).run Tryd.prog w = .ok (.enter 67 args) w := enters_of Tryd.func67 (by kernel_rfl) rfl
  have hu42 := Tryd.underlying42
  have hu28 := Tryd.underlying28
  have hu37 := Tryd.underlying37
  have hl16 := h.len
  obtain ⟨A, c, hu⟩ := Kd.R_slice h.row
  have HU := Aside0.mk hu
  have H := Aside0.mk h
  have HEV := Aside0.mk hev
  have HF0 := Aside0.mk hF0
  have H3 := Aside0.mk (fun W (hb : Below w.heap.size w W) => show W.cell? ⟨P.pb, 3, none⟩ = some (.bool false) from by rw [← hask]; exact (blk_cell (blk_below h.par hb) 3).trans rfl)
  have HCU := Aside0.mk (fun W (hb : Below w.heap.size w W) => show W.cell? ⟨P.pb, 0, none⟩ = some (.slice A P.sl.length c) from by rw [← hu]; exact (blk_cell (blk_below h.par hb) 0).trans rfl)
  have HQ := Aside0.mk hask
  clear h hu hev hF0 hask
  go_enter Tryd.func35, Tryd.ntmps35
  go_wp2_with (first
    | ((with_reducible refine gate_dst (N := 2) rfl ?_); refine box_event ?hg (N := 2) ?hd (cs := #[.slice none 0 0, .slice none 0 0]) (t := 37) ?hr ?_; (case hd => rfl); (case hg => rfl); (case hr => first | (go_simp; done) | (go_simp; rfl)); intro b2 hg w1 hbox hb; have HG2 := Aside0.mk hg; have HB1 := Aside0.mk hb; have BX2 := Aside0.mk hbox; clear hb hbox hg)
    | ((with_reducible refine gate_dst (N := 3) rfl ?_); refine box_event ?hg (N := 3) ?hd (cs := #[.slice none 0 0, .slice none 0 0]) (t := 37) ?hr ?_; (case hd => rfl); (case hg => rfl); (case hr => first | (go_simp; done) | (go_simp; rfl)); intro b3 hg w2 hbox hb; have HG3 := Aside0.mk hg; have HB2 := Aside0.mk (below_step HB1.out hb); have BX3 := Aside0.mk hbox; have BY2 := Aside0.mk (blk_below BX2.out hb); have hc3 := H3.out w2 HB2.out; have hcu := HCU.out w2 HB2.out; clear hb hbox hg))
  have hW3 : Wr w P.F w2 := Wr.of_below HB2.out _
  have hT := PtAt.field H.out P.due false P.fails (Wr.of_below HB2.out _) (by have := blk_below H.out.par HB2.out; rw [this]; unfold ptCells; rw [HQ.out])
  have SA0 : SayAt w { P with ask := false } b2 b3 w.heap.size (.slice none 0 0) (.slice none 0 0) [] 0 w2 := ⟨LoopAt.start' hT.at_ hT.wr, HEV.out.below HB2.out, BY2.out, BX3.out, Kd.R_nil _ _ _ _ _, Kd.R_nil _ _ _ _ _⟩
  have SA := Aside0.mk SA0
  clear hT SA0 hW3
  have HN23 := Aside0.mk (show b2 ≠ b3 by have h1 := blk_lt BX2.out; have h2 := HG3.out; omega)
  have HB3G := Aside0.mk (show w.heap.size ≤ b3 by rw [HG3.out]; exact HB1.out.size)
  go_loopg [5, 6, 7, 8, 24] P.sl.length (fun gg _ _ _ _ s24 wr => ∃ kk : Nat, kk ≤ P.sl.length ∧ P.sl.length - kk ≤ gg ∧ s24 = .int .i64 kk ∧ ∃ vW, Aside0 (SayAt w { P with ask := false } b2 b3 w.heap.size (.slice none 0 0) vW [] kk wr))
  case atStart => exact ⟨0, Nat.zero_le _, by omega, rfl, _, SA⟩
  case round =>
    clear SA
    obtain ⟨kk, hkk, hg, rfl, vW, SA⟩ := hrel
    by_cases hlt : kk < P.sl.length
    · have hltz : (kk : Int) < (P.sl.length : Int) := by omega
      obtain ⟨blk, e, hx0⟩ := SA.out.loop.cell hlt HU.out
      subst e
      have HE := Aside0.mk (SA.out.loop.ent hlt)
      have HOK := Aside0.mk (SA.out.loop.ok hlt)
      have HN0 := Aside0.mk (SA.out.ne0 HF0.out hlt)
      have HST := Aside0.mk (fun W hw he => SA.out.step (W := W) HF0.out hlt hw he)
      have HTK := Aside0.mk (wordsL_take P.sl kk hlt)
      have HWL := Aside0.mk (show (wordsL (P.sl.take kk)).length ≤ 16 from by have h1 := wordsL_len (P.sl.take kk); rw [List.length_take] at h1; omega)
      dsimp only at hx0 HE HOK HN0 HST HTK
      generalize P.sl[kk] = e at *
      have H1 := Aside0.mk (say1_calls e.sb e.sl wr HE.out.sl HOK.out.1 SA.out.ev HN0.out)
      by_cases ca : aA e.st 4 = 0
      · have hsv : sayV e.sl = .tuple #[.int .i64 0, .int .i64 0, .bool false] := by unfold sayV; rw [if_pos ca]
        have hwd : e.ps.word = none := by unfold PS.word Ent.ps; rw [if_pos ca]
        rw [hsv] at H1
        rw [hwd] at HTK
        go_wp2_with (go_at_fn 67; with_reducible refine H1.out.mono ?_; rintro x w5 ⟨rfl, hs5, hw5⟩; have HS5 := Aside0.mk (HST.out w5 hw5 hs5); clear hs5 hw5)
        go_roundg (P.sl.length - (kk + 1))
        case measure => omega
        case rel =>
          obtain ⟨q1, q2, q3, q4, q5, q6⟩ := HS5.out
          exact ⟨kk + 1, by omega, by omega, by go_num, vW, ⟨⟨q1, q2, q3, q4, q5, by have := HTK.out; rw [this, List.append_nil]; exact q6⟩⟩⟩
      · have hsv : sayV e.sl = .tuple #[.int .i64 (evt (aA e.st 4)), .int .i64 e.born, .bool true] := by unfold sayV; rw [if_neg ca]
        have hwd : e.ps.word = some ⟨⟨e.a0, e.a1⟩, evt (aA e.st 4), e.born⟩ := by unfold PS.word Ent.ps; rw [if_neg ca]
        rw [hsv] at H1
        rw [hwd] at HTK
        generalize evt (aA e.st 4) = ev at *
        obtain ⟨A3, n3, c3, hvW⟩ : ∃ A n c, vW = .slice A n c := by obtain ⟨A, c, e⟩ := Kd.R_slice SA.out.rw; exact ⟨A, _, c, e⟩
        subst hvW
        go_wp2_with (go_at_fn 67; with_reducible refine H1.out.mono ?_; rintro x w5 ⟨rfl, hs5, hw5⟩; have HS5 := Aside0.mk (HST.out w5 hw5 hs5); have HW5 := Aside0.mk hs5; clear hw5 hs5)
        have hb5 := Below.refl w5.heap.size w5
        have hz1 : w5.cell? ⟨b3, 1, none⟩ = some (.slice A3 n3 c3) := (blk_cell HS5.out.2.2.2.1 1).trans rfl
        have hza : w5.cell? ⟨e.sb, 0, none⟩ = some (.int .i64 e.a0) := (blk_cell HW5.out 0).trans rfl
        have hzb : w5.cell? ⟨e.sb, 1, none⟩ = some (.int .i64 e.a1) := (blk_cell HW5.out 1).trans rfl
        have hl3 := blk_lt HS5.out.2.2.2.1
        have hls := blk_lt HW5.out
        have hn1 : ¬ (b3 = w5.heap.size) := by omega
        have hn2 : ¬ (w5.heap.size = b3) := by omega
        have hn3 : ¬ (e.sb = w5.heap.size) := by omega
        have hn4 : ¬ (w5.heap.size = e.sb) := by omega
        have HSZ := Aside0.mk (show w.heap.size ≤ w5.heap.size from HS5.out.1.wr.size)
        have HXW := Aside0.mk (HS5.out.2.2.2.2.2)
        go_wp2_with fail
        go_region_law_o (first
          | (refine Kd.R_append_rows_step k42 (w0 := w5) w.heap.size (by rfl) (.tmp 38) (.tmp 46) 35 42 (.agg #[.int .i64 0, .int .i64 0, .int .i64 0, .int .i64 0]) 32 rfl Tryd.underlying35 info42 rfl (by decide) (by omega) (.slice A3 n3 c3) (wordsL (P.sl.take kk)) [⟨⟨e.a0, e.a1⟩, ev, e.born⟩] _ 1 1 (fun _ => True) (fun _ => False) rfl rfl ?aO ?aR (fun _ _ h => h) (fun _ h => h.elim) ?aF ?aB ?aS ?aL ?_; (case aR => exact C_one42 (by repeat (with_reducible first | exact blk_new _ _ | exact blk_new2 _ _ _ | exact blk_new3 _ _ _ | (refine blk_alloc ?_ _) | refine blk_drew ?_))); (case aB => exact Below.mono (show Below w5.heap.size w5 _ from (by repeat (with_reducible first | assumption | apply below_alloc | apply pw_below_drewN | apply below_drew1))) HSZ.out); (case aF => exact (fun _ _ => trivial)); (case aO => exact Kd.R_below HXW.out (by repeat (with_reducible first | assumption | apply below_alloc | apply pw_below_drewN | apply below_drew1))); (case aS => exact Nat.le_trans HSZ.out (show Below w5.heap.size w5 _ from (by repeat (with_reducible first | assumption | apply below_alloc | apply pw_below_drewN | apply below_drew1))).size); (case aL => have := HWL.out; omega); intro v4 w4 ho4 hb4 hg4 hat4; have hg5 : Wr w5 (fun q => Blk (.slice A3 n3 c3) q) w4 := (Wr.of_below (show Below w5.heap.size w5 _ from (by repeat (with_reducible first | assumption | apply below_alloc | apply pw_below_drewN | apply below_drew1))) _).then_ ((wr_of_grown hg4).mono (fun k hk => hk)); have hb34 := blk_kept HS5.out.2.2.2.1 hg5.kept (fun hq => by obtain ⟨c, hc⟩ := typed_wd HXW.out _ hq; exact absurd rfl (blk_types hc HS5.out.2.2.2.1 (by decide))); have hx4 : w4.cell? ⟨b3, 1, none⟩ = some (.slice A3 n3 c3) := (blk_cell hb34 1).trans rfl; have hf4 := blk_frozen hb34 1; obtain ⟨A4, n4, c4, rfl⟩ : ∃ A n c, v4 = .slice A n c := (by obtain ⟨A, c, e⟩ := Kd.R_slice ho4; exact ⟨A, _, c, e⟩); have HB34 := Aside0.mk hb34; have HG5 := Aside0.mk hg5; have HO4 := Aside0.mk ho4; clear ho4 hb4 hg4 hat4 hb34 hg5))
        all_goals
          go_wp2
          go_roundg (P.sl.length - (kk + 1))
          case measure => omega
          case rel =>
            refine ⟨kk + 1, by omega, by omega, by go_num, .slice A4 n4 c4, ⟨?_⟩⟩
            obtain ⟨q1, q2, q3, q4, q5, q6⟩ := HS5.out
            exact said q1 q2 q3 q4 q5 q6 HB3G.out HN23.out HEV.out.lt HG5.out HB34.out HO4.out HTK.out
    · have e : kk = P.sl.length := by omega
      subst e
      have HD := Aside0.mk (SA.out.loop.done (P := { P with ask := false }) fSay_keeps PS.say (fun _ => rfl))
      have HRW := Aside0.mk SA.out.rw
      have HRA2 := Aside0.mk SA.out.ra
      have HX3 := Aside0.mk SA.out.r3
      have HX2 := Aside0.mk SA.out.r2
      dsimp only at HRW
      rw [List.take_of_length_le (Nat.le_refl _)] at HRW
      obtain ⟨A3, n3, c3, hvW⟩ : ∃ A n c, vW = .slice A n c := by obtain ⟨A, c, e⟩ := Kd.R_slice SA.out.rw; exact ⟨A, _, c, e⟩
      subst hvW
      clear SA
      have hz0 : wr.cell? ⟨b3, 0, none⟩ = some (.slice none 0 0) := (blk_cell HX3.out 0).trans rfl
      have hz1 : wr.cell? ⟨b3, 1, none⟩ = some (.slice A3 n3 c3) := (blk_cell HX3.out 1).trans rfl
      have hy0 : wr.cell? ⟨b2, 0, none⟩ = some (.slice none 0 0) := (blk_cell HX2.out 0).trans rfl
      have hy1 : wr.cell? ⟨b2, 1, none⟩ = some (.slice none 0 0) := (blk_cell HX2.out 1).trans rfl
      have hyf0 := blk_frozen HX2.out 0
      have hyf1 := blk_frozen HX2.out 1
      go_wp2
      try simp only [Exit.inBlock, Exit.then]
      have hfin : ((wr.setCell ⟨b2, 0, none⟩ (.slice none 0 0)).setCell ⟨b2, 1, none⟩ (.slice A3 n3 c3)).heap[b2]? = some (.cells #[(.slice none 0 0), .slice A3 n3 c3] 37 (0, 0)) := blk_put (blk_put HX2.out 0 _ rfl) 1 _ rfl
      refine bodyPost_ret (results_cell_row rfl _ _ b2 37 #[(.slice none 0 0), .slice A3 n3 c3] (0, 0) _ rfl hfin Tryd.underlying37 rfl (by kernel_rfl)) rfl ?_
      have hWr : Wr wr (fun q => q = b2) ((wr.setCell ⟨b2, 0, none⟩ (.slice none 0 0)).setCell ⟨b2, 1, none⟩ (.slice A3 n3 c3)) := ((Wr.refl wr (fun q => q = b2)).set (.inl rfl) 0 _).set (.inl rfl) 1 _
      have hb2g : w.heap.size ≤ b2 := by rw [HG2.out]; exact Nat.le_refl _
      refine ⟨_, _, rfl, R_kept rfl HRA2.out hWr.kept (fun q hq e => ?_), R_kept rfl HRW.out hWr.kept (fun q hq e => ?_), { P with ask := false, sl := P.sl.map fSay }, ?_⟩
      · obtain ⟨c, hc⟩ := typed_int HRA2.out q hq; exact blk_types hc HX2.out (by decide) e
      · obtain ⟨c, hc⟩ := typed_wd HRW.out q hq; exact blk_types hc HX2.out (by decide) e
      · have hat := HD.out.at_.kept hWr.kept (fun k hk e => by subst e; exact HD.out.at_.not_F HX2.out (by decide) hk) (fun k hk e => by obtain ⟨c, hc⟩ := typed_drw HD.out.at_ k hk; exact blk_types hc HX2.out (by decide) e)
        exact ⟨hat, rfl, HD.out.m, HD.out.wr.trans hWr (fun k hk => .inr (by rw [show k = b2 from hk]; exact hb2g)), HD.out.own⟩
set_option maxHeartbeats 4000000 in
set_option maxRecDepth 100000 in
theorem say_true (P : Pt) (w : World) (h : PtAt w P) (hev : EV w) (hF0 : ¬ P.F 0) (hask : P.ask = true) :
    Calls Tryd.prog 35 #[.pointer (some ⟨P.pb, 0, none⟩)] w fun x w' => ∃ vA vW P', x = .returned (.agg #[vA, vW]) ∧ Kd.R (Kd.int .i64) 3 w' w.heap.size (fun _ => True) vA (typesL (P.sl.map Ent.a0)) ∧ Kd.R k42 42 w' w.heap.size (fun _ => True) vW P.m.sayWords ∧ PTurn w P P.m.say w' P' := by
  have mixed : Tryd.prog.follows .mixedOrders = true := by kernel_rfl
  have e34 : ∀ args w, (callFunc 34 args).run Tryd.prog w = .ok (.enter 34 args) w := enters_of Tryd.func34 (by kernel_rfl) rfl
  have e67 : ∀ args w, (callFunc 67 args).run Tryd.prog w = .ok (.enter 67 args) w := enters_of Tryd.func67 (by kernel_rfl) rfl
  have hu42 := Tryd.underlying42
  have hu28 := Tryd.underlying28
  have hu37 := Tryd.underlying37
  have hl16 := h.len
  obtain ⟨A, c, hu⟩ := Kd.R_slice h.row
  have HU := Aside0.mk hu
  have H := Aside0.mk h
  have HEV := Aside0.mk hev
  have HF0 := Aside0.mk hF0
  have H3 := Aside0.mk (fun W (hb : Below w.heap.size w W) => show W.cell? ⟨P.pb, 3, none⟩ = some (.bool true) from by rw [← hask]; exact (blk_cell (blk_below h.par hb) 3).trans rfl)
  have HCU := Aside0.mk (fun W (hb : Below w.heap.size w W) => show W.cell? ⟨P.pb, 0, none⟩ = some (.slice A P.sl.length c) from by rw [← hu]; exact (blk_cell (blk_below h.par hb) 0).trans rfl)
  have HQ := Aside0.mk hask
  clear h hu hev hF0 hask
  go_enter Tryd.func35, Tryd.ntmps35
  go_wp2_with (first
    | ((with_reducible refine gate_dst (N := 2) rfl ?_); refine box_event ?hg (N := 2) ?hd (cs := #[.slice none 0 0, .slice none 0 0]) (t := 37) ?hr ?_; (case hd => rfl); (case hg => rfl); (case hr => first | (go_simp; done) | (go_simp; rfl)); intro b2 hg w1 hbox hb; have HG2 := Aside0.mk hg; have HB1 := Aside0.mk hb; have BX2 := Aside0.mk hbox; clear hb hbox hg)
    | ((with_reducible refine gate_dst (N := 3) rfl ?_); refine box_event ?hg (N := 3) ?hd (cs := #[.slice none 0 0, .slice none 0 0]) (t := 37) ?hr ?_; (case hd => rfl); (case hg => rfl); (case hr => first | (go_simp; done) | (go_simp; rfl)); intro b3 hg w2 hbox hb; have HG3 := Aside0.mk hg; have HB2 := Aside0.mk (below_step HB1.out hb); have BX3 := Aside0.mk hbox; have BY2 := Aside0.mk (blk_below BX2.out hb); have hc3 := H3.out w2 HB2.out; have hcu := HCU.out w2 HB2.out; clear hb hbox hg)
    | (go_at_fn 34; with_reducible refine (types_calls P _ (H.out.below HB2.out)).mono ?_; rintro x w3 ⟨vA, rfl, hra, hb⟩; obtain ⟨AA, nA, cA, rfl⟩ : ∃ A n c, vA = .slice A n c := (by obtain ⟨A, c, e⟩ := Kd.R_slice hra; exact ⟨A, _, c, e⟩); have HRA := Aside0.mk (Kd.R_lower hra HB2.out.size); have HB3 := Aside0.mk (below_step HB2.out hb); have BX33 := Aside0.mk (blk_below BX3.out hb); have BY23 := Aside0.mk (blk_below BY2.out hb); have HPAR3 := Aside0.mk (blk_below H.out.par HB3.out); have hc33 := H3.out w3 HB3.out; have hf33 := blk_frozen HPAR3.out 3; have hm0 : w3.cell? ⟨b3, 0, none⟩ = some (.slice none 0 0) := (blk_cell BX33.out 0).trans rfl; have hmf := blk_frozen BX33.out 0; have hne := blk_types HPAR3.out BX33.out (by decide); have hneS := hne.symm; have hcu3 := HCU.out w3 HB3.out; clear hb hra))
  obtain ⟨wL, hwL⟩ : ∃ wL, wL = (w3.setCell ⟨b3, 0, none⟩ (.slice AA nA cA)).setCell ⟨P.pb, 3, none⟩ (.bool false) := ⟨_, rfl⟩
  have SA0 : SayAt w { P with ask := false } b2 b3 w.heap.size (.slice AA nA cA) (.slice none 0 0) (typesL (P.sl.map Ent.a0)) 0 wL := by
    have hs1 : Below w.heap.size w (w3.setCell ⟨b3, 0, none⟩ (.slice AA nA cA)) := below_set HB3.out (by rw [HG3.out]; exact HB1.out.size)
    have hP1 := H.out.below hs1
    have hpar1 := blk_put hP1.par 3 (.bool false) (rfl : _ = ptCells { P with ask := false })
    have hk : Wr w (fun k => k = P.pb) wL := by rw [hwL]; exact (Wr.of_below hs1 (fun k => k = P.pb)).set (.inl rfl) 3 _
    have hT := PtAt.field H.out P.due false P.fails hk (by rw [hwL]; exact hpar1)
    have hk2 : Wr w3 (fun k => k = b3 ∨ k = P.pb) wL := by rw [hwL]; exact ((Wr.refl w3 (fun k => k = b3 ∨ k = P.pb)).set (.inl (.inl rfl)) 0 _).set (.inl (.inr rfl)) 3 _
    have hgb := blk_lt BX2.out
    have hg3 := HG3.out
    refine ⟨LoopAt.start' hT.at_ hT.wr, HEV.out.wr hT.wr HF0.out, ?_, ?_, R_kept rfl HRA.out hk2.kept (fun q hq e => ?_), Kd.R_nil _ _ _ _ _⟩
    · refine blk_kept BY23.out hk2.kept (fun e => e.elim (fun e => ?_) (fun e => ?_))
      · have := blk_lt BX2.out; omega
      · exact blk_types BY23.out HPAR3.out (by decide) e
    · rw [hwL]
      exact blk_far (blk_put BX33.out 0 _ rfl) (fun e => blk_types BX33.out HPAR3.out (by decide) e) _
    · obtain ⟨c, hc⟩ := typed_int HRA.out q hq
      rcases e with e | e
      · exact blk_types hc BX33.out (by decide) e
      · exact blk_types hc HPAR3.out (by decide) e
  have SA := Aside0.mk SA0
  rw [← hwL]
  clear SA0 hwL
  have HN23 := Aside0.mk (show b2 ≠ b3 by have h1 := blk_lt BX2.out; have h2 := HG3.out; omega)
  have HB3G := Aside0.mk (show w.heap.size ≤ b3 by rw [HG3.out]; exact HB1.out.size)
  go_loopg [5, 6, 7, 8, 24] P.sl.length (fun gg _ _ _ _ s24 wr => ∃ kk : Nat, kk ≤ P.sl.length ∧ P.sl.length - kk ≤ gg ∧ s24 = .int .i64 kk ∧ ∃ vW, Aside0 (SayAt w { P with ask := false } b2 b3 w.heap.size (.slice AA nA cA) vW (typesL (P.sl.map Ent.a0)) kk wr))
  case atStart => exact ⟨0, Nat.zero_le _, by omega, rfl, _, SA⟩
  case round =>
    clear SA
    obtain ⟨kk, hkk, hg, rfl, vW, SA⟩ := hrel
    by_cases hlt : kk < P.sl.length
    · have hltz : (kk : Int) < (P.sl.length : Int) := by omega
      obtain ⟨blk, e, hx0⟩ := SA.out.loop.cell hlt HU.out
      subst e
      have HE := Aside0.mk (SA.out.loop.ent hlt)
      have HOK := Aside0.mk (SA.out.loop.ok hlt)
      have HN0 := Aside0.mk (SA.out.ne0 HF0.out hlt)
      have HST := Aside0.mk (fun W hw he => SA.out.step (W := W) HF0.out hlt hw he)
      have HTK := Aside0.mk (wordsL_take P.sl kk hlt)
      have HWL := Aside0.mk (show (wordsL (P.sl.take kk)).length ≤ 16 from by have h1 := wordsL_len (P.sl.take kk); rw [List.length_take] at h1; omega)
      dsimp only at hx0 HE HOK HN0 HST HTK
      generalize P.sl[kk] = e at *
      have H1 := Aside0.mk (say1_calls e.sb e.sl wr HE.out.sl HOK.out.1 SA.out.ev HN0.out)
      by_cases ca : aA e.st 4 = 0
      · have hsv : sayV e.sl = .tuple #[.int .i64 0, .int .i64 0, .bool false] := by unfold sayV; rw [if_pos ca]
        have hwd : e.ps.word = none := by unfold PS.word Ent.ps; rw [if_pos ca]
        rw [hsv] at H1
        rw [hwd] at HTK
        go_wp2_with (go_at_fn 67; with_reducible refine H1.out.mono ?_; rintro x w5 ⟨rfl, hs5, hw5⟩; have HS5 := Aside0.mk (HST.out w5 hw5 hs5); clear hs5 hw5)
        go_roundg (P.sl.length - (kk + 1))
        case measure => omega
        case rel =>
          obtain ⟨q1, q2, q3, q4, q5, q6⟩ := HS5.out
          exact ⟨kk + 1, by omega, by omega, by go_num, vW, ⟨⟨q1, q2, q3, q4, q5, by have := HTK.out; rw [this, List.append_nil]; exact q6⟩⟩⟩
      · have hsv : sayV e.sl = .tuple #[.int .i64 (evt (aA e.st 4)), .int .i64 e.born, .bool true] := by unfold sayV; rw [if_neg ca]
        have hwd : e.ps.word = some ⟨⟨e.a0, e.a1⟩, evt (aA e.st 4), e.born⟩ := by unfold PS.word Ent.ps; rw [if_neg ca]
        rw [hsv] at H1
        rw [hwd] at HTK
        generalize evt (aA e.st 4) = ev at *
        obtain ⟨A3, n3, c3, hvW⟩ : ∃ A n c, vW = .slice A n c := by obtain ⟨A, c, e⟩ := Kd.R_slice SA.out.rw; exact ⟨A, _, c, e⟩
        subst hvW
        go_wp2_with (go_at_fn 67; with_reducible refine H1.out.mono ?_; rintro x w5 ⟨rfl, hs5, hw5⟩; have HS5 := Aside0.mk (HST.out w5 hw5 hs5); have HW5 := Aside0.mk hs5; clear hw5 hs5)
        have hb5 := Below.refl w5.heap.size w5
        have hz1 : w5.cell? ⟨b3, 1, none⟩ = some (.slice A3 n3 c3) := (blk_cell HS5.out.2.2.2.1 1).trans rfl
        have hza : w5.cell? ⟨e.sb, 0, none⟩ = some (.int .i64 e.a0) := (blk_cell HW5.out 0).trans rfl
        have hzb : w5.cell? ⟨e.sb, 1, none⟩ = some (.int .i64 e.a1) := (blk_cell HW5.out 1).trans rfl
        have hl3 := blk_lt HS5.out.2.2.2.1
        have hls := blk_lt HW5.out
        have hn1 : ¬ (b3 = w5.heap.size) := by omega
        have hn2 : ¬ (w5.heap.size = b3) := by omega
        have hn3 : ¬ (e.sb = w5.heap.size) := by omega
        have hn4 : ¬ (w5.heap.size = e.sb) := by omega
        have HSZ := Aside0.mk (show w.heap.size ≤ w5.heap.size from HS5.out.1.wr.size)
        have HXW := Aside0.mk (HS5.out.2.2.2.2.2)
        go_wp2_with fail
        go_region_law_o (first
          | (refine Kd.R_append_rows_step k42 (w0 := w5) w.heap.size (by rfl) (.tmp 38) (.tmp 46) 35 42 (.agg #[.int .i64 0, .int .i64 0, .int .i64 0, .int .i64 0]) 32 rfl Tryd.underlying35 info42 rfl (by decide) (by omega) (.slice A3 n3 c3) (wordsL (P.sl.take kk)) [⟨⟨e.a0, e.a1⟩, ev, e.born⟩] _ 1 1 (fun _ => True) (fun _ => False) rfl rfl ?aO ?aR (fun _ _ h => h) (fun _ h => h.elim) ?aF ?aB ?aS ?aL ?_; (case aR => exact C_one42 (by repeat (with_reducible first | exact blk_new _ _ | exact blk_new2 _ _ _ | exact blk_new3 _ _ _ | (refine blk_alloc ?_ _) | refine blk_drew ?_))); (case aB => exact Below.mono (show Below w5.heap.size w5 _ from (by repeat (with_reducible first | assumption | apply below_alloc | apply pw_below_drewN | apply below_drew1))) HSZ.out); (case aF => exact (fun _ _ => trivial)); (case aO => exact Kd.R_below HXW.out (by repeat (with_reducible first | assumption | apply below_alloc | apply pw_below_drewN | apply below_drew1))); (case aS => exact Nat.le_trans HSZ.out (show Below w5.heap.size w5 _ from (by repeat (with_reducible first | assumption | apply below_alloc | apply pw_below_drewN | apply below_drew1))).size); (case aL => have := HWL.out; omega); intro v4 w4 ho4 hb4 hg4 hat4; have hg5 : Wr w5 (fun q => Blk (.slice A3 n3 c3) q) w4 := (Wr.of_below (show Below w5.heap.size w5 _ from (by repeat (with_reducible first | assumption | apply below_alloc | apply pw_below_drewN | apply below_drew1))) _).then_ ((wr_of_grown hg4).mono (fun k hk => hk)); have hb34 := blk_kept HS5.out.2.2.2.1 hg5.kept (fun hq => by obtain ⟨c, hc⟩ := typed_wd HXW.out _ hq; exact absurd rfl (blk_types hc HS5.out.2.2.2.1 (by decide))); have hx4 : w4.cell? ⟨b3, 1, none⟩ = some (.slice A3 n3 c3) := (blk_cell hb34 1).trans rfl; have hf4 := blk_frozen hb34 1; obtain ⟨A4, n4, c4, rfl⟩ : ∃ A n c, v4 = .slice A n c := (by obtain ⟨A, c, e⟩ := Kd.R_slice ho4; exact ⟨A, _, c, e⟩); have HB34 := Aside0.mk hb34; have HG5 := Aside0.mk hg5; have HO4 := Aside0.mk ho4; clear ho4 hb4 hg4 hat4 hb34 hg5))
        all_goals
          go_wp2
          go_roundg (P.sl.length - (kk + 1))
          case measure => omega
          case rel =>
            refine ⟨kk + 1, by omega, by omega, by go_num, .slice A4 n4 c4, ⟨?_⟩⟩
            obtain ⟨q1, q2, q3, q4, q5, q6⟩ := HS5.out
            exact said q1 q2 q3 q4 q5 q6 HB3G.out HN23.out HEV.out.lt HG5.out HB34.out HO4.out HTK.out
    · have e : kk = P.sl.length := by omega
      subst e
      have HD := Aside0.mk (SA.out.loop.done (P := { P with ask := false }) fSay_keeps PS.say (fun _ => rfl))
      have HRW := Aside0.mk SA.out.rw
      have HRA2 := Aside0.mk SA.out.ra
      have HX3 := Aside0.mk SA.out.r3
      have HX2 := Aside0.mk SA.out.r2
      dsimp only at HRW
      rw [List.take_of_length_le (Nat.le_refl _)] at HRW
      obtain ⟨A3, n3, c3, hvW⟩ : ∃ A n c, vW = .slice A n c := by obtain ⟨A, c, e⟩ := Kd.R_slice SA.out.rw; exact ⟨A, _, c, e⟩
      subst hvW
      clear SA
      have hz0 : wr.cell? ⟨b3, 0, none⟩ = some (.slice AA nA cA) := (blk_cell HX3.out 0).trans rfl
      have hz1 : wr.cell? ⟨b3, 1, none⟩ = some (.slice A3 n3 c3) := (blk_cell HX3.out 1).trans rfl
      have hy0 : wr.cell? ⟨b2, 0, none⟩ = some (.slice none 0 0) := (blk_cell HX2.out 0).trans rfl
      have hy1 : wr.cell? ⟨b2, 1, none⟩ = some (.slice none 0 0) := (blk_cell HX2.out 1).trans rfl
      have hyf0 := blk_frozen HX2.out 0
      have hyf1 := blk_frozen HX2.out 1
      go_wp2
      try simp only [Exit.inBlock, Exit.then]
      have hfin : ((wr.setCell ⟨b2, 0, none⟩ (.slice AA nA cA)).setCell ⟨b2, 1, none⟩ (.slice A3 n3 c3)).heap[b2]? = some (.cells #[(.slice AA nA cA), .slice A3 n3 c3] 37 (0, 0)) := blk_put (blk_put HX2.out 0 _ rfl) 1 _ rfl
      refine bodyPost_ret (results_cell_row rfl _ _ b2 37 #[(.slice AA nA cA), .slice A3 n3 c3] (0, 0) _ rfl hfin Tryd.underlying37 rfl (by kernel_rfl)) rfl ?_
      have hWr : Wr wr (fun q => q = b2) ((wr.setCell ⟨b2, 0, none⟩ (.slice AA nA cA)).setCell ⟨b2, 1, none⟩ (.slice A3 n3 c3)) := ((Wr.refl wr (fun q => q = b2)).set (.inl rfl) 0 _).set (.inl rfl) 1 _
      have hb2g : w.heap.size ≤ b2 := by rw [HG2.out]; exact Nat.le_refl _
      refine ⟨_, _, rfl, R_kept rfl HRA2.out hWr.kept (fun q hq e => ?_), R_kept rfl HRW.out hWr.kept (fun q hq e => ?_), { P with ask := false, sl := P.sl.map fSay }, ?_⟩
      · obtain ⟨c, hc⟩ := typed_int HRA2.out q hq; exact blk_types hc HX2.out (by decide) e
      · obtain ⟨c, hc⟩ := typed_wd HRW.out q hq; exact blk_types hc HX2.out (by decide) e
      · have hat := HD.out.at_.kept hWr.kept (fun k hk e => by subst e; exact HD.out.at_.not_F HX2.out (by decide) hk) (fun k hk e => by obtain ⟨c, hc⟩ := typed_drw HD.out.at_ k hk; exact blk_types hc HX2.out (by decide) e)
        exact ⟨hat, rfl, HD.out.m, HD.out.wr.trans hWr (fun k hk => .inr (by rw [show k = b2 from hk]; exact hb2g)), HD.out.own⟩
theorem say_calls (P : Pt) (w : World) (h : PtAt w P) (hev : EV w) (hF0 : ¬ P.F 0) :
    Calls Tryd.prog 35 #[.pointer (some ⟨P.pb, 0, none⟩)] w fun x w' => ∃ vA vW P', x = .returned (.agg #[vA, vW]) ∧ Kd.R (Kd.int .i64) 3 w' w.heap.size (fun _ => True) vA P.m.sayAll ∧ Kd.R k42 42 w' w.heap.size (fun _ => True) vW P.m.sayWords ∧ PTurn w P P.m.say w' P' := by
  have e1 : P.m.sayAll = if P.ask then typesL (P.sl.map Ent.a0) else [] := by
    unfold PM.sayAll Pt.m
    dsimp only
    rw [List.map_map]
    rfl
  rw [e1]
  rcases Bool.eq_false_or_eq_true P.ask with ha | ha
  · rw [if_pos ha]
    exact say_true P w h hev hF0 ha
  · rw [if_neg (by rw [ha]; decide)]
    exact say_false P w h hev hF0 ha
end Go.Proofs.YtkahciadkgjbbaaDoor.QPty
namespace Go.Proofs.YtkahciadkgjbbaaDoor.QPty
open Go.RowKit Go.Proofs.YtkahciadkgjbbaaDoorW.PrintWords Go.Proofs.YtkahciadkgjbbaaDoorW.PrintLast Go.Proofs.YtkahciadkgjbbaaDoorW.PrintMore Gen
set_option linter.unusedVariables false
set_option linter.unusedSimpArgs false
theorem typesL_len (l : List Int) : (typesL l).length ≤ l.length + 1 := by
  unfold typesL
  refine Nat.le_trans (compact_len _) ?_
  rw [List.length_mergeSort, List.length_cons]
  exact Nat.le_refl _
def PS.tick (n : Nat) (s : PS) : PS := { s with st := if (n : Int) % 6 = 0 then aN s.st 3 else s.st, rg := rtick s.rg n }
def fTick (n : Nat) (e : Ent) : Ent := { e with st := if (n : Int) % 6 = 0 then aN e.st 3 else e.st, rg := rtick e.rg n }
theorem fTick_keeps (n : Nat) : Keeps (fTick n) where
  sb _ := rfl
  rb _ := rfl
  a0 _ := rfl
  a1 _ := rfl
  ok e h1 h2 := ⟨by unfold fTick; dsimp only; split; exact aN_lt e.st h1 3 (by decide); exact h1, rtick_st e.rg n h2⟩
def PM.tick1 (m : PM) (n : Nat) : PM := { m with sl := m.sl.map (PS.tick n) }
def PM.kinds (m : PM) (l : List Int) (now : Int) : PM := l.foldl (fun m k => m.all k now) m
def PM.tick2 (m : PM) (n : Nat) : PM :=
  if m.due ≤ (n : Int) then PM.kinds { m with due := wrap64 ((n : Int) + jit m.dl m.dat), dat := nextAt m.dl m.dat 31, ask := true } (typesL (m.sl.map PS.a0)) n else m
def PM.tick3 (m : PM) (n : Nat) : PM := if (n : Int) % 2 = 0 then m.say else m
def PM.tick (m : PM) (n : Nat) : PM := (((m.tick1 n).tick2 n).tick3 n).tidy
def PM.msgAll (m : PM) (n : Nat) : List Int := if (n : Int) % 2 = 0 then ((m.tick1 n).tick2 n).sayAll else []
def PM.msgWords (m : PM) (n : Nat) : List S42 := if (n : Int) % 2 = 0 then ((m.tick1 n).tick2 n).sayWords else []
theorem PTurn.F0 {w W : World} {P P' : Pt} {m : PM} (T : PTurn w P m W P') (h : ¬ P.F 0) (hp : 0 < w.heap.size) : ¬ P'.F 0 := fun hh => (T.own 0 hh).elim h (fun k => by omega)
theorem PtAt.draw {w W : World} {P : Pt} (h : PtAt w P) {d : Nat} (hd : Drw W P.db P.dv P.dl d) (hw : Wr w (fun k => k = P.db) W) : PTurn w P { P.m with dat := d } W { P with dat := d } := by
  have hnot : ∀ k cells t z, w.heap[k]? = some (.cells cells t z) → t ≠ 88 → ¬ k = P.db := fun k cells t z hk n1 e => blk_types hk h.drw.cell n1 e
  refine ⟨?_, rfl, rfl, hw.mono (fun k hk => .inr (.inl hk)), fun k hk => .inl hk⟩
  exact { par := blk_kept h.par hw.kept (hnot _ _ _ _ h.par (by decide)), drw := hd, row := R_kept rfl h.row hw.kept (fun q hq => by obtain ⟨c, hc⟩ := typed_of_row h.row q hq; exact hnot _ _ _ _ hc (by decide)), ent := fun e he => (h.ent e he).kept hw.kept (hnot _ _ _ _ (h.ent e he).sl (by decide)) (hnot _ _ _ _ (h.ent e he).rg (by decide)), nds := h.nds, ndr := h.ndr, srt := h.srt, ok := h.ok, len := h.len }
theorem PTurn.blk {w W : World} {P P' : Pt} {m : PM} (h : PtAt w P) (T : PTurn w P m W P') {b t : Nat} {cells : Array Value} (hb : w.heap[b]? = some (.cells cells t (0, 0))) (ht : t ≠ 61 ∧ t ≠ 88 ∧ t ≠ 63 ∧ t ≠ 69 ∧ t ≠ 102) : W.heap[b]? = some (.cells cells t (0, 0)) := blk_kept hb T.wr.kept (h.not_F hb ht)
theorem PTurn.rowI {w W : World} {P P' : Pt} {m : PM} (h : PtAt w P) (T : PTurn w P m W P') {base : Nat} {u : Value} {l : List Int} (hr : Kd.R (Kd.int .i64) 3 w base (fun _ => True) u l) : Kd.R (Kd.int .i64) 3 W base (fun _ => True) u l :=
  R_kept rfl hr T.wr.kept (fun q hq => by obtain ⟨c, hc⟩ := typed_int hr q hq; exact h.not_F hc (by decide))
theorem PTurn.rowW {w W : World} {P P' : Pt} {m : PM} (h : PtAt w P) (T : PTurn w P m W P') {base : Nat} {u : Value} {l : List S42} (hr : Kd.R k42 42 w base (fun _ => True) u l) : Kd.R k42 42 W base (fun _ => True) u l :=
  R_kept rfl hr T.wr.kept (fun q hq => by obtain ⟨c, hc⟩ := typed_wd hr q hq; exact h.not_F hc (by decide))
theorem PTurn.len {w W : World} {P P' : Pt} {m : PM} (T : PTurn w P m W P') : P'.sl.length = m.sl.length := by rw [← T.m]; exact (List.length_map _).symm
theorem PM.sayWords_len (m : PM) : m.sayWords.length ≤ m.sl.length := List.length_filterMap_le _ _
theorem PM.sayAll_len (m : PM) : m.sayAll.length ≤ m.sl.length + 1 := by
  unfold PM.sayAll
  split
  · exact Nat.le_trans (typesL_len _) (by rw [List.length_map]; exact Nat.le_refl _)
  · exact Nat.zero_le _
theorem Pt.a0s (P : Pt) : P.m.sl.map PS.a0 = P.sl.map Ent.a0 := by unfold Pt.m; dsimp only; rw [List.map_map]; rfl
theorem results_cell_tmp_row {P : Program} {fn : Func} {p u : Tmp} {ty : TypeId} (h : fn.results = #[.cell p ty, .tmp u]) (tmps : Array Value) (w : World) (g : Nat) (t : TypeId) (cs : Array Value) (fr : Nat × Nat) (d : TypeDesc)
    (hp : tmps.getD p undef = .pointer (some ⟨g, 0, none⟩)) (hg : w.heap[g]? = some (.cells cs t fr))
    (hu : P.underlying ty = some d) (hd : (match d with | .struct _ | .array _ _ => true | _ => false) = true) (hi : (P.info? ty).map (·.size) = some cs.size) :
    (results fn tmps).run P w = .ok (.tuple #[.agg cs, tmps.getD u undef]) w := by
  have hp' : tmps[p]?.getD undef = .pointer (some ⟨g, 0, none⟩) := by simpa using hp
  rw [results_cell_tmp h]
  simp [hp', asAddr, run_loadVar_row w g t ty cs fr d hg hu hd hi]
theorem set37 {w : World} {b : Nat} {a c : Value} (h : w.heap[b]? = some (.cells #[a, c] 37 (0, 0))) (u v : Value) :
    ((w.setCell ⟨b, 0, none⟩ u).setCell ⟨b, 1, none⟩ v).heap[b]? = some (.cells #[u, v] 37 (0, 0)) ∧ Wr w (fun k => k = b) ((w.setCell ⟨b, 0, none⟩ u).setCell ⟨b, 1, none⟩ v) :=
  ⟨blk_put (blk_put h 0 u rfl) 1 v rfl, ((Wr.refl w (fun k => k = b)).set (.inl rfl) 0 u).set (.inl rfl) 1 v⟩
theorem PTurn.aside {w W W2 : World} {P P' : Pt} {m : PM} (T : PTurn w P m W P') {b : Nat} {cells : Array Value} (hb : W.heap[b]? = some (.cells cells 37 (0, 0))) (hw : Wr W (fun k => k = b) W2) (hf : w.heap.size ≤ b) : PTurn w P m W2 P' where
  at_ := T.at_.kept hw.kept (fun k hk e => by subst e; exact T.at_.not_F hb (by decide) hk) (fun k hk e => by obtain ⟨c, hc⟩ := typed_drw T.at_ k hk; exact blk_types hc hb (by decide) e)
  pb := T.pb
  m := T.m
  wr := T.wr.trans hw (fun k hk => .inr (by rw [show k = b from hk]; exact hf))
  own := T.own
theorem rowI_aside {W W2 : World} {base b : Nat} {u : Value} {l : List Int} {cells : Array Value} (hr : Kd.R (Kd.int .i64) 3 W base (fun _ => True) u l) (hb : W.heap[b]? = some (.cells cells 37 (0, 0))) (hw : Wr W (fun k => k = b) W2) : Kd.R (Kd.int .i64) 3 W2 base (fun _ => True) u l :=
  R_kept rfl hr hw.kept (fun q hq e => by obtain ⟨c, hc⟩ := typed_int hr q hq; exact blk_types hc hb (by decide) e)
theorem rowW_aside {W W2 : World} {base b : Nat} {u : Value} {l : List S42} {cells : Array Value} (hr : Kd.R k42 42 W base (fun _ => True) u l) (hb : W.heap[b]? = some (.cells cells 37 (0, 0))) (hw : Wr W (fun k => k = b) W2) : Kd.R k42 42 W2 base (fun _ => True) u l :=
  R_kept rfl hr hw.kept (fun q hq e => by obtain ⟨c, hc⟩ := typed_wd hr q hq; exact blk_types hc hb (by decide) e)
def TickPost (P : Pt) (n : Nat) (w : World) (x : Ending) (w' : World) : Prop := ∃ vA vW P' all words, x = .returned (.tuple #[.agg #[vA, vW], .bool (decide (0 < all.length + words.length))]) ∧ all = P.m.msgAll n ∧ words = P.m.msgWords n ∧ Kd.R (Kd.int .i64) 3 w' w.heap.size (fun _ => True) vA all ∧ Kd.R k42 42 w' w.heap.size (fun _ => True) vW words ∧ PTurn w P (P.m.tick n) w' P'
theorem say_at {w W : World} {P Q : Pt} {m : PM} (T : PTurn w P m W Q) (hev : EV W) (hF0 : ¬ Q.F 0) :
    Calls Tryd.prog 35 #[.pointer (some ⟨P.pb, 0, none⟩)] W fun x w' => ∃ AA nA cA AW nW cW P6, x = .returned (.agg #[.slice AA nA cA, .slice AW nW cW]) ∧ Kd.R (Kd.int .i64) 3 w' w.heap.size (fun _ => True) (.slice AA nA cA) m.sayAll ∧ Kd.R k42 42 w' w.heap.size (fun _ => True) (.slice AW nW cW) m.sayWords ∧ nA = m.sayAll.length ∧ nW = m.sayWords.length ∧
      (∀ (b t : Nat) (cells : Array Value), W.heap[b]? = some (.cells cells t (0, 0)) → (t ≠ 61 ∧ t ≠ 88 ∧ t ≠ 63 ∧ t ≠ 69 ∧ t ≠ 102) → w'.heap[b]? = some (.cells cells t (0, 0))) ∧ PTurn w P m.say w' P6 := by
  rw [← T.pb]
  refine (say_calls Q W T.at_ hev hF0).mono ?_
  rintro x w' ⟨vA, vW, P6, rfl, hra, hrw, T6⟩
  rw [T.m] at hra hrw T6
  obtain ⟨AA, cA, rfl⟩ := Kd.R_slice hra
  obtain ⟨AW, cW, rfl⟩ := Kd.R_slice hrw
  exact ⟨AA, _, cA, AW, _, cW, P6, rfl, Kd.R_lower hra T.wr.size, Kd.R_lower hrw T.wr.size, rfl, rfl, fun b t cells hb ht => T6.blk T.at_ hb ht, T.trans T6⟩
theorem tidy_at {w W : World} {P Q : Pt} {m : PM} (T : PTurn w P m W Q) :
    Calls Tryd.prog 28 #[.pointer (some ⟨P.pb, 0, none⟩)] W fun x w' => x = .returned (.tuple #[]) ∧ ∃ P7,
      (∀ (b t : Nat) (cells : Array Value), W.heap[b]? = some (.cells cells t (0, 0)) → (t ≠ 61 ∧ t ≠ 88 ∧ t ≠ 63 ∧ t ≠ 69 ∧ t ≠ 102) → w'.heap[b]? = some (.cells cells t (0, 0))) ∧ (∀ base u l, Kd.R (Kd.int .i64) 3 W base (fun _ => True) u l → Kd.R (Kd.int .i64) 3 w' base (fun _ => True) u l) ∧ (∀ base u l, Kd.R k42 42 W base (fun _ => True) u l → Kd.R k42 42 w' base (fun _ => True) u l) ∧ PTurn w P m.tidy w' P7 := by
  rw [← T.pb]
  refine (tidy_calls Q W T.at_).mono ?_
  rintro x w' ⟨rfl, P7, T7, _⟩
  rw [T.m] at T7
  exact ⟨rfl, P7, fun b t cells hb ht => T7.blk T.at_ hb ht, fun base u l hr => T7.rowI T.at_ hr, fun base u l hr => T7.rowW T.at_ hr, T.trans T7⟩
theorem all_at {w W : World} {P Q : Pt} {m : PM} (T : PTurn w P m W Q) (kind now : Int) :
    Calls Tryd.prog 30 #[.pointer (some ⟨P.pb, 0, none⟩), .int .i64 kind, .int .i64 now] W fun x w' => x = .returned (.tuple #[]) ∧ ∃ P7,
      (∀ (b t : Nat) (cells : Array Value), W.heap[b]? = some (.cells cells t (0, 0)) → (t ≠ 61 ∧ t ≠ 88 ∧ t ≠ 63 ∧ t ≠ 69 ∧ t ≠ 102) → w'.heap[b]? = some (.cells cells t (0, 0))) ∧ (∀ base u l, Kd.R (Kd.int .i64) 3 W base (fun _ => True) u l → Kd.R (Kd.int .i64) 3 w' base (fun _ => True) u l) ∧ PTurn w P (m.all kind now) w' P7 := by
  rw [← T.pb]
  refine (all_calls Q kind now W T.at_).mono ?_
  rintro x w' ⟨rfl, P7, T7⟩
  rw [T.m] at T7
  exact ⟨rfl, P7, fun b t cells hb ht => T7.blk T.at_ hb ht, fun base u l hr => T7.rowI T.at_ hr, T.trans T7⟩
theorem types_at {w W : World} {P Q : Pt} {m : PM} (T : PTurn w P m W Q) :
    Calls Tryd.prog 34 #[.pointer (some ⟨P.pb, 0, none⟩)] W fun x w' => ∃ A n c, x = .returned (.slice A n c) ∧ n = (typesL (m.sl.map PS.a0)).length ∧ Kd.R (Kd.int .i64) 3 w' w.heap.size (fun _ => True) (.slice A n c) (typesL (m.sl.map PS.a0)) ∧
      (∀ (b t : Nat) (cells : Array Value), W.heap[b]? = some (.cells cells t (0, 0)) → w'.heap[b]? = some (.cells cells t (0, 0))) ∧ PTurn w P m w' Q := by
  have e : m.sl.map PS.a0 = Q.sl.map Ent.a0 := by rw [← T.m]; exact Q.a0s
  rw [e, ← T.pb]
  refine (types_calls Q W T.at_).mono ?_
  rintro x w' ⟨v, rfl, hr, hb⟩
  obtain ⟨A, c, rfl⟩ := Kd.R_slice hr
  exact ⟨A, _, c, rfl, rfl, Kd.R_lower hr T.wr.size, fun b t cells h => blk_below h hb, T.below hb⟩
theorem kinds_take (m : PM) (l : List Int) (now : Int) (k : Nat) (hk : k < l.length) : PM.kinds m (l.take (k + 1)) now = (PM.kinds m (l.take k) now).all l[k] now := by
  unfold PM.kinds
  rw [List.take_succ_eq_append_getElem hk, List.foldl_append]
  rfl
set_option maxHeartbeats 4000000 in
set_option maxRecDepth 100000 in
theorem tick_no (P : Pt) (n : Nat) (w : World) (h : PtAt w P) (hev : EV w) (hF0 : ¬ P.F 0) (hdue : ¬ P.due ≤ (n : Int)) (heven : ¬ (n : Int) % 2 = 0) :
    Calls Tryd.prog 13 #[.pointer (some ⟨P.pb, 0, none⟩), .int .i64 n] w (TickPost P n w) := by
  have mixed : Tryd.prog.follows .mixedOrders = true := by kernel_rfl
  have e32 : ∀ args w, (callFunc 32 args).run Tryd.prog w = .ok (.enter 32 args) w := enters_of Tryd.func32 (by kernel_rfl) rfl
  have e33 : ∀ args w, (callFunc 33 args).run Tryd.prog w = .ok (.enter 33 args) w := enters_of Tryd.func33 (by kernel_rfl) rfl
  have e23 : ∀ args w, (callFunc 23 args).run Tryd.prog w = .ok (.enter 23 args) w := enters_of Tryd.func23 (by kernel_rfl) rfl
  have e34 : ∀ args w, (callFunc 34 args).run Tryd.prog w = .ok (.enter 34 args) w := enters_of Tryd.func34 (by kernel_rfl) rfl
  have e30 : ∀ args w, (callFunc 30 args).run Tryd.prog w = .ok (.enter 30 args) w := enters_of Tryd.func30 (by kernel_rfl) rfl
  have e35 : ∀ args w, (callFunc 35 args).run Tryd.prog w = .ok (.enter 35 args) w := enters_of Tryd.func35 (by kernel_rfl) rfl
  have e28 : ∀ args w, (callFunc 28 args).run Tryd.prog w = .ok (.enter 28 args) w := enters_of Tryd.func28 (by kernel_rfl) rfl
  have hu37 := Tryd.underlying37
  have hl16 := h.len
  obtain ⟨A, c, hu⟩ := Kd.R_slice h.row
  have HU := Aside0.mk hu
  have H := Aside0.mk h
  have HEV := Aside0.mk hev
  have HF0 := Aside0.mk hF0
  have HDUE := Aside0.mk hdue
  have HEVEN := Aside0.mk heven
  have HCU := Aside0.mk (fun W (hb : Below w.heap.size w W) => show W.cell? ⟨P.pb, 0, none⟩ = some (.slice A P.sl.length c) from by rw [← hu]; exact (blk_cell (blk_below h.par hb) 0).trans rfl)
  clear h hu hev hF0 hdue heven
  go_enter Tryd.func13, Tryd.ntmps13
  go_wp2_with ((with_reducible refine gate_dst (N := 4) rfl ?_); refine box_event ?hg (N := 4) ?hd (cs := #[.slice none 0 0, .slice none 0 0]) (t := 37) ?hr ?_; (case hd => rfl); (case hg => rfl); (case hr => first | (go_simp; done) | (go_simp; rfl)); intro b4 hg w1 hbox hb; have HG4 := Aside0.mk hg; have HB1 := Aside0.mk hb; have BX4 := Aside0.mk hbox; have hcu := HCU.out w1 hb; clear hb hbox hg)
  have HF4 := Aside0.mk (show w.heap.size ≤ b4 by rw [HG4.out]; exact Nat.le_refl _)
  go_loopg [7, 19] P.sl.length (fun gg _ s19 wr => ∃ kk : Nat, kk ≤ P.sl.length ∧ P.sl.length - kk ≤ gg ∧ s19 = .int .i64 kk ∧ Aside0 (LoopAt w P (fTick n) kk wr) ∧ Aside0 (wr.heap[b4]? = some (.cells #[.slice none 0 0, .slice none 0 0] 37 (0, 0))))
  case atStart => exact ⟨0, Nat.zero_le _, by omega, rfl, ⟨LoopAt.start' (H.out.below HB1.out) (Wr.of_below HB1.out _)⟩, BX4⟩
  case round =>
    clear BX4
    obtain ⟨kk, hkk, hg, rfl, LL, X4⟩ := hrel
    by_cases hlt : kk < P.sl.length
    · have hltz : (kk : Int) < (P.sl.length : Int) := by omega
      obtain ⟨blk, e, hx0⟩ := LL.out.cell hlt HU.out
      subst e
      have HE := Aside0.mk (LL.out.ent hlt)
      have HOK := Aside0.mk (LL.out.ok hlt)
      have HST := Aside0.mk (fun W hw he => LL.out.step (W := W) (fTick_keeps n) hlt hw he)
      clear LL
      generalize P.sl[kk] = e at *
      have hc2 : wr.cell? ⟨e.sb, 2, none⟩ = some (.pointer (some ⟨e.rb, 0, none⟩)) := (blk_cell HE.out.sl 2).trans rfl
      by_cases c6 : (n : Int) % 6 = 0
      · have c6b : ((n : Int) % 6 == 0) = true := by simpa using c6
        have hfe : fTick n e = { e with st := aN e.st 3, rg := rtick e.rg n } := by unfold fTick; rw [if_pos c6]
        rw [hfe] at HST
        go_wp2_with (first
          | (go_at_fn 32; with_reducible refine (rtick_calls e.rb e.rg n _ HE.out.rg HOK.out.2).mono ?_; rintro x w2 ⟨rfl, hr2, hw2⟩; have HR2 := Aside0.mk hr2; have HW2 := Aside0.mk hw2; have HS2 := Aside0.mk (show SlAt w2 e.sb e.sl from blk_kept HE.out.sl hw2.kept (fun q => absurd q (blk_types HE.out.sl HE.out.rg (by decide)))); clear hr2 hw2)
          | (go_at_fn 33; with_reducible refine (aagain_calls e.sb e.sl _ HS2.out HOK.out.1).mono ?_; rintro x w3 ⟨rfl, hs3, hw3⟩; have HN3 := Aside0.mk (halves HE.out HR2.out HW2.out (fun _ => ⟨hs3, hw3⟩)); clear hs3 hw3))
        go_roundg (P.sl.length - (kk + 1))
        case measure => omega
        case rel => exact ⟨kk + 1, by omega, by omega, by go_num, ⟨HST.out _ HN3.out.2.2 ⟨HN3.out.1, HN3.out.2.1⟩⟩, ⟨blk_kept X4.out HN3.out.2.2.kept (fun hh => hh.elim (fun q => blk_types X4.out HE.out.sl (by decide) q) (fun q => blk_types X4.out HE.out.rg (by decide) q))⟩⟩
      · have c6b : ((n : Int) % 6 == 0) = false := by simpa using c6
        have hfe : fTick n e = { e with rg := rtick e.rg n } := by unfold fTick; rw [if_neg c6]
        rw [hfe] at HST
        go_wp2_with (go_at_fn 32; with_reducible refine (rtick_calls e.rb e.rg n _ HE.out.rg HOK.out.2).mono ?_; rintro x w2 ⟨rfl, hr2, hw2⟩; have HR2 := Aside0.mk hr2; have HW2 := Aside0.mk hw2; have HS2 := Aside0.mk (show SlAt w2 e.sb e.sl from blk_kept HE.out.sl hw2.kept (fun q => absurd q (blk_types HE.out.sl HE.out.rg (by decide)))); clear hr2 hw2)
        go_roundg (P.sl.length - (kk + 1))
        case measure => omega
        case rel => exact ⟨kk + 1, by omega, by omega, by go_num, ⟨HST.out _ (HW2.out.mono (fun k hk => .inr hk)) ⟨HS2.out, HR2.out⟩⟩, ⟨blk_kept X4.out HW2.out.kept (fun q => blk_types X4.out HE.out.rg (by decide) q)⟩⟩
    · have e : kk = P.sl.length := by omega
      subst e
      have T1 := Aside0.mk (show PTurn w P (P.m.tick1 n) wr { P with sl := P.sl.map (fTick n) } from LL.out.done (fTick_keeps n) (PS.tick n) (fun _ => rfl))
      clear LL
      have hdc : wr.cell? ⟨P.pb, 2, none⟩ = some (.int .i64 P.due) := (blk_cell T1.out.at_.par 2).trans rfl
      have heb := HEVEN.out
      have hebb : ((n : Int) % 2 == 0) = false := by simpa using heb
      have hdd := HDUE.out
      have hddb : decide (P.due ≤ (n : Int)) = false := decide_eq_false (by omega)
      have TK2 : PM.tick2 (P.m.tick1 n) n = P.m.tick1 n := by unfold PM.tick2; exact if_neg (by show ¬ P.due ≤ (n : Int); omega)
      go_wp2_with ((with_reducible refine gate_dst (N := 10) rfl ?_); refine box_event ?hg (N := 10) ?hd (cs := #[.slice none 0 0, .slice none 0 0]) (t := 37) ?hr ?_; (case hd => rfl); (case hg => rfl); (case hr => first | (go_simp; done) | (go_simp; rfl)); intro b10 hg w5 hbox hb; have HG10 := Aside0.mk hg; have BX10 := Aside0.mk hbox; have T5 := Aside0.mk (T1.out.below hb); have X45 := Aside0.mk (blk_below X4.out hb); clear hb hbox hg)
      have HN4 := Aside0.mk (show b4 ≠ b10 by have h1 := blk_lt X4.out; have h2 := HG10.out; omega)
      have MLEN := Aside0.mk (show (PM.sl (P.m.tick1 n)).length ≤ 16 from Nat.le_trans (Nat.le_of_eq T1.out.len.symm) T1.out.at_.len)
      have HF10 := Aside0.mk (show w.heap.size ≤ b10 by have h1 := HG10.out; have h2 := T1.out.wr.size; omega)
      have TS := T5
      have XS := X45
      have BXS := BX10
      go_at_fn 28
      refine (tidy_at TS.out).mono ?_
      rintro x w7 ⟨rfl, P7, hkeep, hki, hkw, T7⟩
      have BX7 := Aside0.mk (hkeep _ _ _ BXS.out (by decide))
      have X7 := Aside0.mk (hkeep _ _ _ XS.out (by decide))
      have T7' := Aside0.mk T7
      clear T7
      have HKI := Aside0.mk hki
      have HKW := Aside0.mk hkw
      clear hkeep hki hkw
      have hz0 : w7.cell? ⟨b10, 0, none⟩ = some (.slice none 0 0) := (blk_cell BX7.out 0).trans rfl
      have hz1 : w7.cell? ⟨b10, 1, none⟩ = some (.slice none 0 0) := (blk_cell BX7.out 1).trans rfl
      have hy0 : w7.cell? ⟨b4, 0, none⟩ = some (.slice none 0 0) := (blk_cell X7.out 0).trans rfl
      have hy1 : w7.cell? ⟨b4, 1, none⟩ = some (.slice none 0 0) := (blk_cell X7.out 1).trans rfl
      have hyf0 := blk_frozen X7.out 0
      have hyf1 := blk_frozen X7.out 1
      have hne := HN4.out
      have hneS := hne.symm
      go_wp2_with fail
      go_region
      obtain ⟨w9, hw9⟩ : ∃ w9, w9 = ((w7.setCell ⟨b4, 0, none⟩ (.slice none 0 0)).setCell ⟨b4, 1, none⟩ (.slice none 0 0)).drew := ⟨_, rfl⟩
      rw [← hw9]
      have hset := set37 X7.out (.slice none 0 0) (.slice none 0 0)
      have X9 : w9.heap[b4]? = some (.cells #[(.slice none 0 0), (.slice none 0 0)] 37 (0, 0)) := by rw [hw9]; exact blk_drew hset.1
      have W9 : Wr w7 (fun k => k = b4) w9 := by rw [hw9]; exact hset.2.below (below_drew1 (Below.refl _ _))
      have T9 := Aside0.mk (T7'.out.aside X7.out W9 HF4.out)
      have HX9 := Aside0.mk X9
      have HW9 := Aside0.mk W9
      clear hw9 hset X9 W9
      go_wp2
      try simp only [Exit.inBlock, Exit.then]
      refine bodyPost_ret (results_cell_tmp_row rfl _ _ b4 37 #[(.slice none 0 0), (.slice none 0 0)] (0, 0) _ rfl HX9.out Tryd.underlying37 rfl (by kernel_rfl)) rfl ?_
      show TickPost P n w _ w9
      refine ⟨(.slice none 0 0), (.slice none 0 0), P7, [], [], ?_, ?_, ?_, ?_, ?_, ?_⟩
      · rfl
      · unfold PM.msgAll; rw [if_neg HEVEN.out]
      · unfold PM.msgWords; rw [if_neg HEVEN.out]
      · exact Kd.R_nil _ _ _ _ _
      · exact Kd.R_nil _ _ _ _ _
      · have t9 := T9.out; unfold PM.tick PM.tick3; rw [if_neg HEVEN.out, TK2]; exact t9
set_option maxHeartbeats 4000000 in
set_option maxRecDepth 100000 in
theorem tick_ne (P : Pt) (n : Nat) (w : World) (h : PtAt w P) (hev : EV w) (hF0 : ¬ P.F 0) (hdue : ¬ P.due ≤ (n : Int)) (heven : (n : Int) % 2 = 0) :
    Calls Tryd.prog 13 #[.pointer (some ⟨P.pb, 0, none⟩), .int .i64 n] w (TickPost P n w) := by
  have mixed : Tryd.prog.follows .mixedOrders = true := by kernel_rfl
  have e32 : ∀ args w, (callFunc 32 args).run Tryd.prog w = .ok (.enter 32 args) w := enters_of Tryd.func32 (by kernel_rfl) rfl
  have e33 : ∀ args w, (callFunc 33 args).run Tryd.prog w = .ok (.enter 33 args) w := enters_of Tryd.func33 (by kernel_rfl) rfl
  have e23 : ∀ args w, (callFunc 23 args).run Tryd.prog w = .ok (.enter 23 args) w := enters_of Tryd.func23 (by kernel_rfl) rfl
  have e34 : ∀ args w, (callFunc 34 args).run Tryd.prog w = .ok (.enter 34 args) w := enters_of Tryd.func34 (by kernel_rfl) rfl
  have e30 : ∀ args w, (callFunc 30 args).run Tryd.prog w = .ok (.enter 30 args) w := enters_of Tryd.func30 (by kernel_rfl) rfl
  have e35 : ∀ args w, (callFunc 35 args).run Tryd.prog w = .ok (.enter 35 args) w := enters_of Tryd.func35 (by kernel_rfl) rfl
  have e28 : ∀ args w, (callFunc 28 args).run Tryd.prog w = .ok (.enter 28 args) w := enters_of Tryd.func28 (by kernel_rfl) rfl
  have hu37 := Tryd.underlying37
  have hl16 := h.len
  obtain ⟨A, c, hu⟩ := Kd.R_slice h.row
  have HU := Aside0.mk hu
  have H := Aside0.mk h
  have HEV := Aside0.mk hev
  have HF0 := Aside0.mk hF0
  have HDUE := Aside0.mk hdue
  have HEVEN := Aside0.mk heven
  have HCU := Aside0.mk (fun W (hb : Below w.heap.size w W) => show W.cell? ⟨P.pb, 0, none⟩ = some (.slice A P.sl.length c) from by rw [← hu]; exact (blk_cell (blk_below h.par hb) 0).trans rfl)
  clear h hu hev hF0 hdue heven
  go_enter Tryd.func13, Tryd.ntmps13
  go_wp2_with ((with_reducible refine gate_dst (N := 4) rfl ?_); refine box_event ?hg (N := 4) ?hd (cs := #[.slice none 0 0, .slice none 0 0]) (t := 37) ?hr ?_; (case hd => rfl); (case hg => rfl); (case hr => first | (go_simp; done) | (go_simp; rfl)); intro b4 hg w1 hbox hb; have HG4 := Aside0.mk hg; have HB1 := Aside0.mk hb; have BX4 := Aside0.mk hbox; have hcu := HCU.out w1 hb; clear hb hbox hg)
  have HF4 := Aside0.mk (show w.heap.size ≤ b4 by rw [HG4.out]; exact Nat.le_refl _)
  go_loopg [7, 19] P.sl.length (fun gg _ s19 wr => ∃ kk : Nat, kk ≤ P.sl.length ∧ P.sl.length - kk ≤ gg ∧ s19 = .int .i64 kk ∧ Aside0 (LoopAt w P (fTick n) kk wr) ∧ Aside0 (wr.heap[b4]? = some (.cells #[.slice none 0 0, .slice none 0 0] 37 (0, 0))))
  case atStart => exact ⟨0, Nat.zero_le _, by omega, rfl, ⟨LoopAt.start' (H.out.below HB1.out) (Wr.of_below HB1.out _)⟩, BX4⟩
  case round =>
    clear BX4
    obtain ⟨kk, hkk, hg, rfl, LL, X4⟩ := hrel
    by_cases hlt : kk < P.sl.length
    · have hltz : (kk : Int) < (P.sl.length : Int) := by omega
      obtain ⟨blk, e, hx0⟩ := LL.out.cell hlt HU.out
      subst e
      have HE := Aside0.mk (LL.out.ent hlt)
      have HOK := Aside0.mk (LL.out.ok hlt)
      have HST := Aside0.mk (fun W hw he => LL.out.step (W := W) (fTick_keeps n) hlt hw he)
      clear LL
      generalize P.sl[kk] = e at *
      have hc2 : wr.cell? ⟨e.sb, 2, none⟩ = some (.pointer (some ⟨e.rb, 0, none⟩)) := (blk_cell HE.out.sl 2).trans rfl
      by_cases c6 : (n : Int) % 6 = 0
      · have c6b : ((n : Int) % 6 == 0) = true := by simpa using c6
        have hfe : fTick n e = { e with st := aN e.st 3, rg := rtick e.rg n } := by unfold fTick; rw [if_pos c6]
        rw [hfe] at HST
        go_wp2_with (first
          | (go_at_fn 32; with_reducible refine (rtick_calls e.rb e.rg n _ HE.out.rg HOK.out.2).mono ?_; rintro x w2 ⟨rfl, hr2, hw2⟩; have HR2 := Aside0.mk hr2; have HW2 := Aside0.mk hw2; have HS2 := Aside0.mk (show SlAt w2 e.sb e.sl from blk_kept HE.out.sl hw2.kept (fun q => absurd q (blk_types HE.out.sl HE.out.rg (by decide)))); clear hr2 hw2)
          | (go_at_fn 33; with_reducible refine (aagain_calls e.sb e.sl _ HS2.out HOK.out.1).mono ?_; rintro x w3 ⟨rfl, hs3, hw3⟩; have HN3 := Aside0.mk (halves HE.out HR2.out HW2.out (fun _ => ⟨hs3, hw3⟩)); clear hs3 hw3))
        go_roundg (P.sl.length - (kk + 1))
        case measure => omega
        case rel => exact ⟨kk + 1, by omega, by omega, by go_num, ⟨HST.out _ HN3.out.2.2 ⟨HN3.out.1, HN3.out.2.1⟩⟩, ⟨blk_kept X4.out HN3.out.2.2.kept (fun hh => hh.elim (fun q => blk_types X4.out HE.out.sl (by decide) q) (fun q => blk_types X4.out HE.out.rg (by decide) q))⟩⟩
      · have c6b : ((n : Int) % 6 == 0) = false := by simpa using c6
        have hfe : fTick n e = { e with rg := rtick e.rg n } := by unfold fTick; rw [if_neg c6]
        rw [hfe] at HST
        go_wp2_with (go_at_fn 32; with_reducible refine (rtick_calls e.rb e.rg n _ HE.out.rg HOK.out.2).mono ?_; rintro x w2 ⟨rfl, hr2, hw2⟩; have HR2 := Aside0.mk hr2; have HW2 := Aside0.mk hw2; have HS2 := Aside0.mk (show SlAt w2 e.sb e.sl from blk_kept HE.out.sl hw2.kept (fun q => absurd q (blk_types HE.out.sl HE.out.rg (by decide)))); clear hr2 hw2)
        go_roundg (P.sl.length - (kk + 1))
        case measure => omega
        case rel => exact ⟨kk + 1, by omega, by omega, by go_num, ⟨HST.out _ (HW2.out.mono (fun k hk => .inr hk)) ⟨HS2.out, HR2.out⟩⟩, ⟨blk_kept X4.out HW2.out.kept (fun q => blk_types X4.out HE.out.rg (by decide) q)⟩⟩
    · have e : kk = P.sl.length := by omega
      subst e
      have T1 := Aside0.mk (show PTurn w P (P.m.tick1 n) wr { P with sl := P.sl.map (fTick n) } from LL.out.done (fTick_keeps n) (PS.tick n) (fun _ => rfl))
      clear LL
      have hdc : wr.cell? ⟨P.pb, 2, none⟩ = some (.int .i64 P.due) := (blk_cell T1.out.at_.par 2).trans rfl
      have heb := HEVEN.out
      have hebb : ((n : Int) % 2 == 0) = true := by simpa using heb
      have hdd := HDUE.out
      have hddb : decide (P.due ≤ (n : Int)) = false := decide_eq_false (by omega)
      have TK2 : PM.tick2 (P.m.tick1 n) n = P.m.tick1 n := by unfold PM.tick2; exact if_neg (by show ¬ P.due ≤ (n : Int); omega)
      go_wp2_with ((with_reducible refine gate_dst (N := 10) rfl ?_); refine box_event ?hg (N := 10) ?hd (cs := #[.slice none 0 0, .slice none 0 0]) (t := 37) ?hr ?_; (case hd => rfl); (case hg => rfl); (case hr => first | (go_simp; done) | (go_simp; rfl)); intro b10 hg w5 hbox hb; have HG10 := Aside0.mk hg; have BX10 := Aside0.mk hbox; have T5 := Aside0.mk (T1.out.below hb); have X45 := Aside0.mk (blk_below X4.out hb); clear hb hbox hg)
      have HN4 := Aside0.mk (show b4 ≠ b10 by have h1 := blk_lt X4.out; have h2 := HG10.out; omega)
      have MLEN := Aside0.mk (show (PM.sl (P.m.tick1 n)).length ≤ 16 from Nat.le_trans (Nat.le_of_eq T1.out.len.symm) T1.out.at_.len)
      have HF10 := Aside0.mk (show w.heap.size ≤ b10 by have h1 := HG10.out; have h2 := T1.out.wr.size; omega)
      go_at_fn 35
      refine (say_at T5.out (HEV.out.wr T5.out.wr HF0.out) (T5.out.F0 HF0.out HEV.out.lt)).mono ?_
      rintro x w6 ⟨AA, nA, cA, AW, nW, cW, P6, rfl, hra, hrw, hnA, hnW, hkeep, T6⟩
      have HRA6 := Aside0.mk hra
      have HRW6 := Aside0.mk hrw
      have HLA := Aside0.mk hnA
      have HLW := Aside0.mk hnW
      have BX106 := Aside0.mk (hkeep _ _ _ BX10.out (by decide))
      have X46 := Aside0.mk (hkeep _ _ _ X45.out (by decide))
      have T6' := Aside0.mk T6
      clear hra hrw hkeep T6 hnA hnW
      have hm0 : w6.cell? ⟨b10, 0, none⟩ = some (.slice none 0 0) := (blk_cell BX106.out 0).trans rfl
      have hm1 : w6.cell? ⟨b10, 1, none⟩ = some (.slice none 0 0) := (blk_cell BX106.out 1).trans rfl
      have hmf0 := blk_frozen BX106.out 0
      have hmf1 := blk_frozen BX106.out 1
      go_wp2_with fail
      obtain ⟨wS, hwS⟩ : ∃ wS, wS = (w6.setCell ⟨b10, 0, none⟩ (.slice AA nA cA)).setCell ⟨b10, 1, none⟩ (.slice AW nW cW) := ⟨_, rfl⟩
      rw [← hwS]
      have hset := set37 BX106.out (.slice AA nA cA) (.slice AW nW cW)
      rw [← hwS] at hset
      have TS := Aside0.mk (T6'.out.aside BX106.out hset.2 HF10.out)
      have XS := Aside0.mk (blk_kept X46.out hset.2.kept (fun e => HN4.out e))
      have HRAS := Aside0.mk (rowI_aside HRA6.out BX106.out hset.2)
      have HRWS := Aside0.mk (rowW_aside HRW6.out BX106.out hset.2)
      have BXS := Aside0.mk hset.1
      clear hset hwS hm0 hm1 hmf0 hmf1
      go_at_fn 28
      refine (tidy_at TS.out).mono ?_
      rintro x w7 ⟨rfl, P7, hkeep, hki, hkw, T7⟩
      have BX7 := Aside0.mk (hkeep _ _ _ BXS.out (by decide))
      have X7 := Aside0.mk (hkeep _ _ _ XS.out (by decide))
      have T7' := Aside0.mk T7
      clear T7
      have HKI := Aside0.mk hki
      have HKW := Aside0.mk hkw
      clear hkeep hki hkw
      have hz0 : w7.cell? ⟨b10, 0, none⟩ = some (.slice AA nA cA) := (blk_cell BX7.out 0).trans rfl
      have hz1 : w7.cell? ⟨b10, 1, none⟩ = some (.slice AW nW cW) := (blk_cell BX7.out 1).trans rfl
      have hy0 : w7.cell? ⟨b4, 0, none⟩ = some (.slice none 0 0) := (blk_cell X7.out 0).trans rfl
      have hy1 : w7.cell? ⟨b4, 1, none⟩ = some (.slice none 0 0) := (blk_cell X7.out 1).trans rfl
      have hyf0 := blk_frozen X7.out 0
      have hyf1 := blk_frozen X7.out 1
      have hne := HN4.out
      have hneS := hne.symm
      go_wp2_with fail
      have hla : nA ≤ 17 := by have h2 := PM.sayAll_len (P.m.tick1 n); have h3 := MLEN.out; have h4 : nA = (PM.sayAll (P.m.tick1 n)).length := HLA.out; omega
      have hlw : nW ≤ 16 := by have h2 := PM.sayWords_len (P.m.tick1 n); have h3 := MLEN.out; have h4 : nW = (PM.sayWords (P.m.tick1 n)).length := HLW.out; omega
      go_region
      obtain ⟨w9, hw9⟩ : ∃ w9, w9 = ((w7.setCell ⟨b4, 0, none⟩ (.slice AA nA cA)).setCell ⟨b4, 1, none⟩ (.slice AW nW cW)).drew := ⟨_, rfl⟩
      rw [← hw9]
      have hset := set37 X7.out (.slice AA nA cA) (.slice AW nW cW)
      have X9 : w9.heap[b4]? = some (.cells #[(.slice AA nA cA), (.slice AW nW cW)] 37 (0, 0)) := by rw [hw9]; exact blk_drew hset.1
      have W9 : Wr w7 (fun k => k = b4) w9 := by rw [hw9]; exact hset.2.below (below_drew1 (Below.refl _ _))
      have T9 := Aside0.mk (T7'.out.aside X7.out W9 HF4.out)
      have HX9 := Aside0.mk X9
      have HW9 := Aside0.mk W9
      clear hw9 hset X9 W9
      go_wp2
      try simp only [Exit.inBlock, Exit.then]
      refine bodyPost_ret (results_cell_tmp_row rfl _ _ b4 37 #[(.slice AA nA cA), (.slice AW nW cW)] (0, 0) _ rfl HX9.out Tryd.underlying37 rfl (by kernel_rfl)) rfl ?_
      show TickPost P n w _ w9
      refine ⟨(.slice AA nA cA), (.slice AW nW cW), P7, PM.sayAll (P.m.tick1 n), PM.sayWords (P.m.tick1 n), ?_, ?_, ?_, ?_, ?_, ?_⟩
      · rw [← HLA.out, ← HLW.out]
        have hdd9 : decide ((0 : Int) < (nA : Int) + (nW : Int)) = decide (0 < nA + nW) := decide_eq_decide.2 (by omega)
        rw [← hdd9]
        rfl
      · unfold PM.msgAll; rw [if_pos HEVEN.out, TK2]
      · unfold PM.msgWords; rw [if_pos HEVEN.out, TK2]
      · exact rowI_aside (HKI.out _ _ _ HRAS.out) X7.out HW9.out
      · exact rowW_aside (HKW.out _ _ _ HRWS.out) X7.out HW9.out
      · have t9 := T9.out; unfold PM.tick PM.tick3; rw [if_pos HEVEN.out, TK2]; exact t9
set_option maxHeartbeats 4000000 in
set_option maxRecDepth 100000 in
theorem tick_do (P : Pt) (n : Nat) (w : World) (h : PtAt w P) (hev : EV w) (hF0 : ¬ P.F 0) (hdue : P.due ≤ (n : Int)) (heven : ¬ (n : Int) % 2 = 0) :
    Calls Tryd.prog 13 #[.pointer (some ⟨P.pb, 0, none⟩), .int .i64 n] w (TickPost P n w) := by
  have mixed : Tryd.prog.follows .mixedOrders = true := by kernel_rfl
  have e32 : ∀ args w, (callFunc 32 args).run Tryd.prog w = .ok (.enter 32 args) w := enters_of Tryd.func32 (by kernel_rfl) rfl
  have e33 : ∀ args w, (callFunc 33 args).run Tryd.prog w = .ok (.enter 33 args) w := enters_of Tryd.func33 (by kernel_rfl) rfl
  have e23 : ∀ args w, (callFunc 23 args).run Tryd.prog w = .ok (.enter 23 args) w := enters_of Tryd.func23 (by kernel_rfl) rfl
  have e34 : ∀ args w, (callFunc 34 args).run Tryd.prog w = .ok (.enter 34 args) w := enters_of Tryd.func34 (by kernel_rfl) rfl
  have e30 : ∀ args w, (callFunc 30 args).run Tryd.prog w = .ok (.enter 30 args) w := enters_of Tryd.func30 (by kernel_rfl) rfl
  have e35 : ∀ args w, (callFunc 35 args).run Tryd.prog w = .ok (.enter 35 args) w := enters_of Tryd.func35 (by kernel_rfl) rfl
  have e28 : ∀ args w, (callFunc 28 args).run Tryd.prog w = .ok (.enter 28 args) w := enters_of Tryd.func28 (by kernel_rfl) rfl
  have hu37 := Tryd.underlying37
  have hl16 := h.len
  obtain ⟨A, c, hu⟩ := Kd.R_slice h.row
  have HU := Aside0.mk hu
  have H := Aside0.mk h
  have HEV := Aside0.mk hev
  have HF0 := Aside0.mk hF0
  have HDUE := Aside0.mk hdue
  have HEVEN := Aside0.mk heven
  have HCU := Aside0.mk (fun W (hb : Below w.heap.size w W) => show W.cell? ⟨P.pb, 0, none⟩ = some (.slice A P.sl.length c) from by rw [← hu]; exact (blk_cell (blk_below h.par hb) 0).trans rfl)
  clear h hu hev hF0 hdue heven
  go_enter Tryd.func13, Tryd.ntmps13
  go_wp2_with ((with_reducible refine gate_dst (N := 4) rfl ?_); refine box_event ?hg (N := 4) ?hd (cs := #[.slice none 0 0, .slice none 0 0]) (t := 37) ?hr ?_; (case hd => rfl); (case hg => rfl); (case hr => first | (go_simp; done) | (go_simp; rfl)); intro b4 hg w1 hbox hb; have HG4 := Aside0.mk hg; have HB1 := Aside0.mk hb; have BX4 := Aside0.mk hbox; have hcu := HCU.out w1 hb; clear hb hbox hg)
  have HF4 := Aside0.mk (show w.heap.size ≤ b4 by rw [HG4.out]; exact Nat.le_refl _)
  go_loopg [7, 19] P.sl.length (fun gg _ s19 wr => ∃ kk : Nat, kk ≤ P.sl.length ∧ P.sl.length - kk ≤ gg ∧ s19 = .int .i64 kk ∧ Aside0 (LoopAt w P (fTick n) kk wr) ∧ Aside0 (wr.heap[b4]? = some (.cells #[.slice none 0 0, .slice none 0 0] 37 (0, 0))))
  case atStart => exact ⟨0, Nat.zero_le _, by omega, rfl, ⟨LoopAt.start' (H.out.below HB1.out) (Wr.of_below HB1.out _)⟩, BX4⟩
  case round =>
    clear BX4
    obtain ⟨kk, hkk, hg, rfl, LL, X4⟩ := hrel
    by_cases hlt : kk < P.sl.length
    · have hltz : (kk : Int) < (P.sl.length : Int) := by omega
      obtain ⟨blk, e, hx0⟩ := LL.out.cell hlt HU.out
      subst e
      have HE := Aside0.mk (LL.out.ent hlt)
      have HOK := Aside0.mk (LL.out.ok hlt)
      have HST := Aside0.mk (fun W hw he => LL.out.step (W := W) (fTick_keeps n) hlt hw he)
      clear LL
      generalize P.sl[kk] = e at *
      have hc2 : wr.cell? ⟨e.sb, 2, none⟩ = some (.pointer (some ⟨e.rb, 0, none⟩)) := (blk_cell HE.out.sl 2).trans rfl
      by_cases c6 : (n : Int) % 6 = 0
      · have c6b : ((n : Int) % 6 == 0) = true := by simpa using c6
        have hfe : fTick n e = { e with st := aN e.st 3, rg := rtick e.rg n } := by unfold fTick; rw [if_pos c6]
        rw [hfe] at HST
        go_wp2_with (first
          | (go_at_fn 32; with_reducible refine (rtick_calls e.rb e.rg n _ HE.out.rg HOK.out.2).mono ?_; rintro x w2 ⟨rfl, hr2, hw2⟩; have HR2 := Aside0.mk hr2; have HW2 := Aside0.mk hw2; have HS2 := Aside0.mk (show SlAt w2 e.sb e.sl from blk_kept HE.out.sl hw2.kept (fun q => absurd q (blk_types HE.out.sl HE.out.rg (by decide)))); clear hr2 hw2)
          | (go_at_fn 33; with_reducible refine (aagain_calls e.sb e.sl _ HS2.out HOK.out.1).mono ?_; rintro x w3 ⟨rfl, hs3, hw3⟩; have HN3 := Aside0.mk (halves HE.out HR2.out HW2.out (fun _ => ⟨hs3, hw3⟩)); clear hs3 hw3))
        go_roundg (P.sl.length - (kk + 1))
        case measure => omega
        case rel => exact ⟨kk + 1, by omega, by omega, by go_num, ⟨HST.out _ HN3.out.2.2 ⟨HN3.out.1, HN3.out.2.1⟩⟩, ⟨blk_kept X4.out HN3.out.2.2.kept (fun hh => hh.elim (fun q => blk_types X4.out HE.out.sl (by decide) q) (fun q => blk_types X4.out HE.out.rg (by decide) q))⟩⟩
      · have c6b : ((n : Int) % 6 == 0) = false := by simpa using c6
        have hfe : fTick n e = { e with rg := rtick e.rg n } := by unfold fTick; rw [if_neg c6]
        rw [hfe] at HST
        go_wp2_with (go_at_fn 32; with_reducible refine (rtick_calls e.rb e.rg n _ HE.out.rg HOK.out.2).mono ?_; rintro x w2 ⟨rfl, hr2, hw2⟩; have HR2 := Aside0.mk hr2; have HW2 := Aside0.mk hw2; have HS2 := Aside0.mk (show SlAt w2 e.sb e.sl from blk_kept HE.out.sl hw2.kept (fun q => absurd q (blk_types HE.out.sl HE.out.rg (by decide)))); clear hr2 hw2)
        go_roundg (P.sl.length - (kk + 1))
        case measure => omega
        case rel => exact ⟨kk + 1, by omega, by omega, by go_num, ⟨HST.out _ (HW2.out.mono (fun k hk => .inr hk)) ⟨HS2.out, HR2.out⟩⟩, ⟨blk_kept X4.out HW2.out.kept (fun q => blk_types X4.out HE.out.rg (by decide) q)⟩⟩
    · have e : kk = P.sl.length := by omega
      subst e
      have T1 := Aside0.mk (show PTurn w P (P.m.tick1 n) wr { P with sl := P.sl.map (fTick n) } from LL.out.done (fTick_keeps n) (PS.tick n) (fun _ => rfl))
      clear LL
      have hdc : wr.cell? ⟨P.pb, 2, none⟩ = some (.int .i64 P.due) := (blk_cell T1.out.at_.par 2).trans rfl
      have heb := HEVEN.out
      have hebb : ((n : Int) % 2 == 0) = false := by simpa using heb
      have hdd := HDUE.out
      have hddb : decide (P.due ≤ (n : Int)) = true := decide_eq_true (by omega)
      have TK2 : PM.tick2 (P.m.tick1 n) n = (PM.kinds (PM.mk (P.m.tick1 n).sl (P.m.tick1 n).dl (nextAt P.dl P.dat 31) (wrap64 ((n : Int) + jit P.dl P.dat)) true (P.m.tick1 n).fails) (typesL ((P.m.tick1 n).sl.map PS.a0)) n) := by unfold PM.tick2; exact if_pos (by show P.due ≤ (n : Int); omega)
      have hdb : wr.cell? ⟨P.pb, 1, none⟩ = some (.pointer (some ⟨P.db, 0, none⟩)) := (blk_cell T1.out.at_.par 1).trans rfl
      go_wp2_with fail
      go_at_fn 23
      refine (jit_calls P.db P.dat P.dv P.dl wr T1.out.at_.drw).mono ?_
      rintro x w2 ⟨rfl, hd2, hw2⟩
      have hT2 := T1.out.at_.draw hd2 hw2
      rw [T1.out.m] at hT2
      have TD := Aside0.mk (T1.out.trans hT2)
      have X42 := Aside0.mk (blk_kept X4.out hw2.kept (fun q => blk_types X4.out T1.out.at_.drw.cell (by decide) q))
      clear hd2 hw2 hT2 hdc hdb
      have hp2 : w2.cell? ⟨P.pb, 2, none⟩ = some (.int .i64 P.due) := (blk_cell TD.out.at_.par 2).trans rfl
      have hp3 : w2.cell? ⟨P.pb, 3, none⟩ = some (.bool P.ask) := (blk_cell TD.out.at_.par 3).trans rfl
      have hpf2 := blk_frozen TD.out.at_.par 2
      have hpf3 := blk_frozen TD.out.at_.par 3
      dsimp only at hpf2 hpf3
      go_wp2_with fail
      obtain ⟨w3, hw3⟩ : ∃ w3, w3 = (w2.setCell ⟨P.pb, 2, none⟩ (.int .i64 (wrap64 ((n : Int) + jit P.dl P.dat)))).setCell ⟨P.pb, 3, none⟩ (.bool true) := ⟨_, rfl⟩
      rw [← hw3]
      have hwr3 : Wr w2 (fun k => k = P.pb) w3 := by rw [hw3]; exact ((Wr.refl w2 (fun k => k = P.pb)).set (.inl rfl) 2 _).set (.inl rfl) 3 _
      have hF3 := TD.out.at_.field (wrap64 ((n : Int) + jit P.dl P.dat)) true P.fails hwr3 (by rw [hw3]; exact blk_put (blk_put TD.out.at_.par 2 _ rfl) 3 _ rfl)
      rw [TD.out.m] at hF3
      have TF := Aside0.mk (show PTurn w P (PM.mk (P.m.tick1 n).sl (P.m.tick1 n).dl (nextAt P.dl P.dat 31) (wrap64 ((n : Int) + jit P.dl P.dat)) true (P.m.tick1 n).fails) w3 _ from TD.out.trans hF3)
      have X43 := Aside0.mk (blk_kept X42.out hwr3.kept (fun q => blk_types X42.out TD.out.at_.par (by decide) q))
      clear hF3 hwr3 hw3 hp2 hp3 hpf2 hpf3
      go_at_fn 34
      refine (types_at TF.out).mono ?_
      rintro x w4 ⟨AT, nT, cT, rfl, hnT, hrT, hkT, T4⟩
      have HRT := Aside0.mk hrT
      have HNT := Aside0.mk (show nT = (typesL ((P.m.tick1 n).sl.map PS.a0)).length from hnT)
      have X44 := Aside0.mk (hkT _ _ _ X43.out)
      have TT4 := Aside0.mk T4
      have hnT17 : nT ≤ 17 := by have h1 := typesL_len ((P.m.tick1 n).sl.map PS.a0); have h2 := T1.out.len; have h3 := T1.out.at_.len; rw [List.length_map] at h1; rw [HNT.out]; omega
      clear hrT hkT hnT T4 X4
      go_wp2
      go_loopg [9, 59] nT (fun gg _ s59 wr => ∃ kk : Nat, kk ≤ nT ∧ nT - kk ≤ gg ∧ s59 = .int .i64 kk ∧ ∃ Pk, Aside0 (PTurn w P (PM.kinds (PM.mk (P.m.tick1 n).sl (P.m.tick1 n).dl (nextAt P.dl P.dat 31) (wrap64 ((n : Int) + jit P.dl P.dat)) true (P.m.tick1 n).fails) ((typesL ((P.m.tick1 n).sl.map PS.a0)).take kk) n) wr Pk) ∧ Aside0 (Kd.R (Kd.int .i64) 3 wr w.heap.size (fun _ => True) (.slice AT nT cT) (typesL ((P.m.tick1 n).sl.map PS.a0))) ∧ Aside0 (wr.heap[b4]? = some (.cells #[.slice none 0 0, .slice none 0 0] 37 (0, 0))))
      case atStart => exact ⟨0, Nat.zero_le _, by omega, rfl, _, TT4, HRT, X44⟩
      case round =>
        clear TT4 HRT X44
        obtain ⟨kk, hkk, hg, rfl, Pk, TK, HRT, X4⟩ := hrel
        by_cases hlt : kk < nT
        · have hltz : (kk : Int) < (nT : Int) := by omega
          have hlt2 : kk < (typesL ((P.m.tick1 n).sl.map PS.a0)).length := by rw [← HNT.out]; exact hlt
          obtain ⟨ad, e, hx0⟩ := CI_at (Kd.R_reads' HRT.out).2.2 kk hlt2
          subst e
          have HKT := Aside0.mk (kinds_take (PM.mk (P.m.tick1 n).sl (P.m.tick1 n).dl (nextAt P.dl P.dat 31) (wrap64 ((n : Int) + jit P.dl P.dat)) true (P.m.tick1 n).fails) (typesL ((P.m.tick1 n).sl.map PS.a0)) n kk hlt2)
          generalize (typesL ((P.m.tick1 n).sl.map PS.a0))[kk] = kd at *
          go_wp2_with fail
          go_at_fn 30
          refine (all_at TK.out kd n).mono ?_
          rintro x w5 ⟨rfl, P5, hk5, hi5, T5⟩
          rw [← HKT.out] at T5
          have T5' := Aside0.mk T5
          have X45 := Aside0.mk (hk5 _ _ _ X4.out (by decide))
          have HRT5 := Aside0.mk (hi5 _ _ _ HRT.out)
          clear T5 hk5 hi5
          go_wp2
          go_roundg (nT - (kk + 1))
          case measure => omega
          case rel => exact ⟨kk + 1, by omega, by omega, by go_num, P5, T5', HRT5, X45⟩
        · have e : kk = nT := by omega
          subst e
          rw [HNT.out, List.take_of_length_le (Nat.le_refl _)] at TK
          clear HRT
          go_wp2_with ((with_reducible refine gate_dst (N := 10) rfl ?_); refine box_event ?hg (N := 10) ?hd (cs := #[.slice none 0 0, .slice none 0 0]) (t := 37) ?hr ?_; (case hd => rfl); (case hg => rfl); (case hr => first | (go_simp; done) | (go_simp; rfl)); intro b10 hg w5 hbox hb; have HG10 := Aside0.mk hg; have BX10 := Aside0.mk hbox; have T5 := Aside0.mk (TK.out.below hb); have X45 := Aside0.mk (blk_below X4.out hb); clear hb hbox hg)
          have HN4 := Aside0.mk (show b4 ≠ b10 by have h1 := blk_lt X4.out; have h2 := HG10.out; omega)
          have MLEN := Aside0.mk (show (PM.sl (PM.kinds (PM.mk (P.m.tick1 n).sl (P.m.tick1 n).dl (nextAt P.dl P.dat 31) (wrap64 ((n : Int) + jit P.dl P.dat)) true (P.m.tick1 n).fails) (typesL ((P.m.tick1 n).sl.map PS.a0)) n)).length ≤ 16 from Nat.le_trans (Nat.le_of_eq TK.out.len.symm) TK.out.at_.len)
          have HF10 := Aside0.mk (show w.heap.size ≤ b10 by have h1 := HG10.out; have h2 := TK.out.wr.size; omega)
          have TS := T5
          have XS := X45
          have BXS := BX10
          go_at_fn 28
          refine (tidy_at TS.out).mono ?_
          rintro x w7 ⟨rfl, P7, hkeep, hki, hkw, T7⟩
          have BX7 := Aside0.mk (hkeep _ _ _ BXS.out (by decide))
          have X7 := Aside0.mk (hkeep _ _ _ XS.out (by decide))
          have T7' := Aside0.mk T7
          clear T7
          have HKI := Aside0.mk hki
          have HKW := Aside0.mk hkw
          clear hkeep hki hkw
          have hz0 : w7.cell? ⟨b10, 0, none⟩ = some (.slice none 0 0) := (blk_cell BX7.out 0).trans rfl
          have hz1 : w7.cell? ⟨b10, 1, none⟩ = some (.slice none 0 0) := (blk_cell BX7.out 1).trans rfl
          have hy0 : w7.cell? ⟨b4, 0, none⟩ = some (.slice none 0 0) := (blk_cell X7.out 0).trans rfl
          have hy1 : w7.cell? ⟨b4, 1, none⟩ = some (.slice none 0 0) := (blk_cell X7.out 1).trans rfl
          have hyf0 := blk_frozen X7.out 0
          have hyf1 := blk_frozen X7.out 1
          have hne := HN4.out
          have hneS := hne.symm
          go_wp2_with fail
          go_region
          obtain ⟨w9, hw9⟩ : ∃ w9, w9 = ((w7.setCell ⟨b4, 0, none⟩ (.slice none 0 0)).setCell ⟨b4, 1, none⟩ (.slice none 0 0)).drew := ⟨_, rfl⟩
          rw [← hw9]
          have hset := set37 X7.out (.slice none 0 0) (.slice none 0 0)
          have X9 : w9.heap[b4]? = some (.cells #[(.slice none 0 0), (.slice none 0 0)] 37 (0, 0)) := by rw [hw9]; exact blk_drew hset.1
          have W9 : Wr w7 (fun k => k = b4) w9 := by rw [hw9]; exact hset.2.below (below_drew1 (Below.refl _ _))
          have T9 := Aside0.mk (T7'.out.aside X7.out W9 HF4.out)
          have HX9 := Aside0.mk X9
          have HW9 := Aside0.mk W9
          clear hw9 hset X9 W9
          go_wp2
          try simp only [Exit.inBlock, Exit.then]
          refine bodyPost_ret (results_cell_tmp_row rfl _ _ b4 37 #[(.slice none 0 0), (.slice none 0 0)] (0, 0) _ rfl HX9.out Tryd.underlying37 rfl (by kernel_rfl)) rfl ?_
          show TickPost P n w _ w9
          refine ⟨(.slice none 0 0), (.slice none 0 0), P7, [], [], ?_, ?_, ?_, ?_, ?_, ?_⟩
          · rfl
          · unfold PM.msgAll; rw [if_neg HEVEN.out]
          · unfold PM.msgWords; rw [if_neg HEVEN.out]
          · exact Kd.R_nil _ _ _ _ _
          · exact Kd.R_nil _ _ _ _ _
          · have t9 := T9.out; unfold PM.tick PM.tick3; rw [if_neg HEVEN.out, TK2]; exact t9
set_option maxHeartbeats 4000000 in
set_option maxRecDepth 100000 in
theorem tick_de (P : Pt) (n : Nat) (w : World) (h : PtAt w P) (hev : EV w) (hF0 : ¬ P.F 0) (hdue : P.due ≤ (n : Int)) (heven : (n : Int) % 2 = 0) :
    Calls Tryd.prog 13 #[.pointer (some ⟨P.pb, 0, none⟩), .int .i64 n] w (TickPost P n w) := by
  have mixed : Tryd.prog.follows .mixedOrders = true := by kernel_rfl
  have e32 : ∀ args w, (callFunc 32 args).run Tryd.prog w = .ok (.enter 32 args) w := enters_of Tryd.func32 (by kernel_rfl) rfl
  have e33 : ∀ args w, (callFunc 33 args).run Tryd.prog w = .ok (.enter 33 args) w := enters_of Tryd.func33 (by kernel_rfl) rfl
  have e23 : ∀ args w, (callFunc 23 args).run Tryd.prog w = .ok (.enter 23 args) w := enters_of Tryd.func23 (by kernel_rfl) rfl
  have e34 : ∀ args w, (callFunc 34 args).run Tryd.prog w = .ok (.enter 34 args) w := enters_of Tryd.func34 (by kernel_rfl) rfl
  have e30 : ∀ args w, (callFunc 30 args).run Tryd.prog w = .ok (.enter 30 args) w := enters_of Tryd.func30 (by kernel_rfl) rfl
  have e35 : ∀ args w, (callFunc 35 args).run Tryd.prog w = .ok (.enter 35 args) w := enters_of Tryd.func35 (by kernel_rfl) rfl
  have e28 : ∀ args w, (callFunc 28 args).run Tryd.prog w = .ok (.enter 28 args) w := enters_of Tryd.func28 (by kernel_rfl) rfl
  have hu37 := Tryd.underlying37
  have hl16 := h.len
  obtain ⟨A, c, hu⟩ := Kd.R_slice h.row
  have HU := Aside0.mk hu
  have H := Aside0.mk h
  have HEV := Aside0.mk hev
  have HF0 := Aside0.mk hF0
  have HDUE := Aside0.mk hdue
  have HEVEN := Aside0.mk heven
  have HCU := Aside0.mk (fun W (hb : Below w.heap.size w W) => show W.cell? ⟨P.pb, 0, none⟩ = some (.slice A P.sl.length c) from by rw [← hu]; exact (blk_cell (blk_below h.par hb) 0).trans rfl)
  clear h hu hev hF0 hdue heven
  go_enter Tryd.func13, Tryd.ntmps13
  go_wp2_with ((with_reducible refine gate_dst (N := 4) rfl ?_); refine box_event ?hg (N := 4) ?hd (cs := #[.slice none 0 0, .slice none 0 0]) (t := 37) ?hr ?_; (case hd => rfl); (case hg => rfl); (case hr => first | (go_simp; done) | (go_simp; rfl)); intro b4 hg w1 hbox hb; have HG4 := Aside0.mk hg; have HB1 := Aside0.mk hb; have BX4 := Aside0.mk hbox; have hcu := HCU.out w1 hb; clear hb hbox hg)
  have HF4 := Aside0.mk (show w.heap.size ≤ b4 by rw [HG4.out]; exact Nat.le_refl _)
  go_loopg [7, 19] P.sl.length (fun gg _ s19 wr => ∃ kk : Nat, kk ≤ P.sl.length ∧ P.sl.length - kk ≤ gg ∧ s19 = .int .i64 kk ∧ Aside0 (LoopAt w P (fTick n) kk wr) ∧ Aside0 (wr.heap[b4]? = some (.cells #[.slice none 0 0, .slice none 0 0] 37 (0, 0))))
  case atStart => exact ⟨0, Nat.zero_le _, by omega, rfl, ⟨LoopAt.start' (H.out.below HB1.out) (Wr.of_below HB1.out _)⟩, BX4⟩
  case round =>
    clear BX4
    obtain ⟨kk, hkk, hg, rfl, LL, X4⟩ := hrel
    by_cases hlt : kk < P.sl.length
    · have hltz : (kk : Int) < (P.sl.length : Int) := by omega
      obtain ⟨blk, e, hx0⟩ := LL.out.cell hlt HU.out
      subst e
      have HE := Aside0.mk (LL.out.ent hlt)
      have HOK := Aside0.mk (LL.out.ok hlt)
      have HST := Aside0.mk (fun W hw he => LL.out.step (W := W) (fTick_keeps n) hlt hw he)
      clear LL
      generalize P.sl[kk] = e at *
      have hc2 : wr.cell? ⟨e.sb, 2, none⟩ = some (.pointer (some ⟨e.rb, 0, none⟩)) := (blk_cell HE.out.sl 2).trans rfl
      by_cases c6 : (n : Int) % 6 = 0
      · have c6b : ((n : Int) % 6 == 0) = true := by simpa using c6
        have hfe : fTick n e = { e with st := aN e.st 3, rg := rtick e.rg n } := by unfold fTick; rw [if_pos c6]
        rw [hfe] at HST
        go_wp2_with (first
          | (go_at_fn 32; with_reducible refine (rtick_calls e.rb e.rg n _ HE.out.rg HOK.out.2).mono ?_; rintro x w2 ⟨rfl, hr2, hw2⟩; have HR2 := Aside0.mk hr2; have HW2 := Aside0.mk hw2; have HS2 := Aside0.mk (show SlAt w2 e.sb e.sl from blk_kept HE.out.sl hw2.kept (fun q => absurd q (blk_types HE.out.sl HE.out.rg (by decide)))); clear hr2 hw2)
          | (go_at_fn 33; with_reducible refine (aagain_calls e.sb e.sl _ HS2.out HOK.out.1).mono ?_; rintro x w3 ⟨rfl, hs3, hw3⟩; have HN3 := Aside0.mk (halves HE.out HR2.out HW2.out (fun _ => ⟨hs3, hw3⟩)); clear hs3 hw3))
        go_roundg (P.sl.length - (kk + 1))
        case measure => omega
        case rel => exact ⟨kk + 1, by omega, by omega, by go_num, ⟨HST.out _ HN3.out.2.2 ⟨HN3.out.1, HN3.out.2.1⟩⟩, ⟨blk_kept X4.out HN3.out.2.2.kept (fun hh => hh.elim (fun q => blk_types X4.out HE.out.sl (by decide) q) (fun q => blk_types X4.out HE.out.rg (by decide) q))⟩⟩
      · have c6b : ((n : Int) % 6 == 0) = false := by simpa using c6
        have hfe : fTick n e = { e with rg := rtick e.rg n } := by unfold fTick; rw [if_neg c6]
        rw [hfe] at HST
        go_wp2_with (go_at_fn 32; with_reducible refine (rtick_calls e.rb e.rg n _ HE.out.rg HOK.out.2).mono ?_; rintro x w2 ⟨rfl, hr2, hw2⟩; have HR2 := Aside0.mk hr2; have HW2 := Aside0.mk hw2; have HS2 := Aside0.mk (show SlAt w2 e.sb e.sl from blk_kept HE.out.sl hw2.kept (fun q => absurd q (blk_types HE.out.sl HE.out.rg (by decide)))); clear hr2 hw2)
        go_roundg (P.sl.length - (kk + 1))
        case measure => omega
        case rel => exact ⟨kk + 1, by omega, by omega, by go_num, ⟨HST.out _ (HW2.out.mono (fun k hk => .inr hk)) ⟨HS2.out, HR2.out⟩⟩, ⟨blk_kept X4.out HW2.out.kept (fun q => blk_types X4.out HE.out.rg (by decide) q)⟩⟩
    · have e : kk = P.sl.length := by omega
      subst e
      have T1 := Aside0.mk (show PTurn w P (P.m.tick1 n) wr { P with sl := P.sl.map (fTick n) } from LL.out.done (fTick_keeps n) (PS.tick n) (fun _ => rfl))
      clear LL
      have hdc : wr.cell? ⟨P.pb, 2, none⟩ = some (.int .i64 P.due) := (blk_cell T1.out.at_.par 2).trans rfl
      have heb := HEVEN.out
      have hebb : ((n : Int) % 2 == 0) = true := by simpa using heb
      have hdd := HDUE.out
      have hddb : decide (P.due ≤ (n : Int)) = true := decide_eq_true (by omega)
      have TK2 : PM.tick2 (P.m.tick1 n) n = (PM.kinds (PM.mk (P.m.tick1 n).sl (P.m.tick1 n).dl (nextAt P.dl P.dat 31) (wrap64 ((n : Int) + jit P.dl P.dat)) true (P.m.tick1 n).fails) (typesL ((P.m.tick1 n).sl.map PS.a0)) n) := by unfold PM.tick2; exact if_pos (by show P.due ≤ (n : Int); omega)
      have hdb : wr.cell? ⟨P.pb, 1, none⟩ = some (.pointer (some ⟨P.db, 0, none⟩)) := (blk_cell T1.out.at_.par 1).trans rfl
      go_wp2_with fail
      go_at_fn 23
      refine (jit_calls P.db P.dat P.dv P.dl wr T1.out.at_.drw).mono ?_
      rintro x w2 ⟨rfl, hd2, hw2⟩
      have hT2 := T1.out.at_.draw hd2 hw2
      rw [T1.out.m] at hT2
      have TD := Aside0.mk (T1.out.trans hT2)
      have X42 := Aside0.mk (blk_kept X4.out hw2.kept (fun q => blk_types X4.out T1.out.at_.drw.cell (by decide) q))
      clear hd2 hw2 hT2 hdc hdb
      have hp2 : w2.cell? ⟨P.pb, 2, none⟩ = some (.int .i64 P.due) := (blk_cell TD.out.at_.par 2).trans rfl
      have hp3 : w2.cell? ⟨P.pb, 3, none⟩ = some (.bool P.ask) := (blk_cell TD.out.at_.par 3).trans rfl
      have hpf2 := blk_frozen TD.out.at_.par 2
      have hpf3 := blk_frozen TD.out.at_.par 3
      dsimp only at hpf2 hpf3
      go_wp2_with fail
      obtain ⟨w3, hw3⟩ : ∃ w3, w3 = (w2.setCell ⟨P.pb, 2, none⟩ (.int .i64 (wrap64 ((n : Int) + jit P.dl P.dat)))).setCell ⟨P.pb, 3, none⟩ (.bool true) := ⟨_, rfl⟩
      rw [← hw3]
      have hwr3 : Wr w2 (fun k => k = P.pb) w3 := by rw [hw3]; exact ((Wr.refl w2 (fun k => k = P.pb)).set (.inl rfl) 2 _).set (.inl rfl) 3 _
      have hF3 := TD.out.at_.field (wrap64 ((n : Int) + jit P.dl P.dat)) true P.fails hwr3 (by rw [hw3]; exact blk_put (blk_put TD.out.at_.par 2 _ rfl) 3 _ rfl)
      rw [TD.out.m] at hF3
      have TF := Aside0.mk (show PTurn w P (PM.mk (P.m.tick1 n).sl (P.m.tick1 n).dl (nextAt P.dl P.dat 31) (wrap64 ((n : Int) + jit P.dl P.dat)) true (P.m.tick1 n).fails) w3 _ from TD.out.trans hF3)
      have X43 := Aside0.mk (blk_kept X42.out hwr3.kept (fun q => blk_types X42.out TD.out.at_.par (by decide) q))
      clear hF3 hwr3 hw3 hp2 hp3 hpf2 hpf3
      go_at_fn 34
      refine (types_at TF.out).mono ?_
      rintro x w4 ⟨AT, nT, cT, rfl, hnT, hrT, hkT, T4⟩
      have HRT := Aside0.mk hrT
      have HNT := Aside0.mk (show nT = (typesL ((P.m.tick1 n).sl.map PS.a0)).length from hnT)
      have X44 := Aside0.mk (hkT _ _ _ X43.out)
      have TT4 := Aside0.mk T4
      have hnT17 : nT ≤ 17 := by have h1 := typesL_len ((P.m.tick1 n).sl.map PS.a0); have h2 := T1.out.len; have h3 := T1.out.at_.len; rw [List.length_map] at h1; rw [HNT.out]; omega
      clear hrT hkT hnT T4 X4
      go_wp2
      go_loopg [9, 59] nT (fun gg _ s59 wr => ∃ kk : Nat, kk ≤ nT ∧ nT - kk ≤ gg ∧ s59 = .int .i64 kk ∧ ∃ Pk, Aside0 (PTurn w P (PM.kinds (PM.mk (P.m.tick1 n).sl (P.m.tick1 n).dl (nextAt P.dl P.dat 31) (wrap64 ((n : Int) + jit P.dl P.dat)) true (P.m.tick1 n).fails) ((typesL ((P.m.tick1 n).sl.map PS.a0)).take kk) n) wr Pk) ∧ Aside0 (Kd.R (Kd.int .i64) 3 wr w.heap.size (fun _ => True) (.slice AT nT cT) (typesL ((P.m.tick1 n).sl.map PS.a0))) ∧ Aside0 (wr.heap[b4]? = some (.cells #[.slice none 0 0, .slice none 0 0] 37 (0, 0))))
      case atStart => exact ⟨0, Nat.zero_le _, by omega, rfl, _, TT4, HRT, X44⟩
      case round =>
        clear TT4 HRT X44
        obtain ⟨kk, hkk, hg, rfl, Pk, TK, HRT, X4⟩ := hrel
        by_cases hlt : kk < nT
        · have hltz : (kk : Int) < (nT : Int) := by omega
          have hlt2 : kk < (typesL ((P.m.tick1 n).sl.map PS.a0)).length := by rw [← HNT.out]; exact hlt
          obtain ⟨ad, e, hx0⟩ := CI_at (Kd.R_reads' HRT.out).2.2 kk hlt2
          subst e
          have HKT := Aside0.mk (kinds_take (PM.mk (P.m.tick1 n).sl (P.m.tick1 n).dl (nextAt P.dl P.dat 31) (wrap64 ((n : Int) + jit P.dl P.dat)) true (P.m.tick1 n).fails) (typesL ((P.m.tick1 n).sl.map PS.a0)) n kk hlt2)
          generalize (typesL ((P.m.tick1 n).sl.map PS.a0))[kk] = kd at *
          go_wp2_with fail
          go_at_fn 30
          refine (all_at TK.out kd n).mono ?_
          rintro x w5 ⟨rfl, P5, hk5, hi5, T5⟩
          rw [← HKT.out] at T5
          have T5' := Aside0.mk T5
          have X45 := Aside0.mk (hk5 _ _ _ X4.out (by decide))
          have HRT5 := Aside0.mk (hi5 _ _ _ HRT.out)
          clear T5 hk5 hi5
          go_wp2
          go_roundg (nT - (kk + 1))
          case measure => omega
          case rel => exact ⟨kk + 1, by omega, by omega, by go_num, P5, T5', HRT5, X45⟩
        · have e : kk = nT := by omega
          subst e
          rw [HNT.out, List.take_of_length_le (Nat.le_refl _)] at TK
          clear HRT
          go_wp2_with ((with_reducible refine gate_dst (N := 10) rfl ?_); refine box_event ?hg (N := 10) ?hd (cs := #[.slice none 0 0, .slice none 0 0]) (t := 37) ?hr ?_; (case hd => rfl); (case hg => rfl); (case hr => first | (go_simp; done) | (go_simp; rfl)); intro b10 hg w5 hbox hb; have HG10 := Aside0.mk hg; have BX10 := Aside0.mk hbox; have T5 := Aside0.mk (TK.out.below hb); have X45 := Aside0.mk (blk_below X4.out hb); clear hb hbox hg)
          have HN4 := Aside0.mk (show b4 ≠ b10 by have h1 := blk_lt X4.out; have h2 := HG10.out; omega)
          have MLEN := Aside0.mk (show (PM.sl (PM.kinds (PM.mk (P.m.tick1 n).sl (P.m.tick1 n).dl (nextAt P.dl P.dat 31) (wrap64 ((n : Int) + jit P.dl P.dat)) true (P.m.tick1 n).fails) (typesL ((P.m.tick1 n).sl.map PS.a0)) n)).length ≤ 16 from Nat.le_trans (Nat.le_of_eq TK.out.len.symm) TK.out.at_.len)
          have HF10 := Aside0.mk (show w.heap.size ≤ b10 by have h1 := HG10.out; have h2 := TK.out.wr.size; omega)
          go_at_fn 35
          refine (say_at T5.out (HEV.out.wr T5.out.wr HF0.out) (T5.out.F0 HF0.out HEV.out.lt)).mono ?_
          rintro x w6 ⟨AA, nA, cA, AW, nW, cW, P6, rfl, hra, hrw, hnA, hnW, hkeep, T6⟩
          have HRA6 := Aside0.mk hra
          have HRW6 := Aside0.mk hrw
          have HLA := Aside0.mk hnA
          have HLW := Aside0.mk hnW
          have BX106 := Aside0.mk (hkeep _ _ _ BX10.out (by decide))
          have X46 := Aside0.mk (hkeep _ _ _ X45.out (by decide))
          have T6' := Aside0.mk T6
          clear hra hrw hkeep T6 hnA hnW
          have hm0 : w6.cell? ⟨b10, 0, none⟩ = some (.slice none 0 0) := (blk_cell BX106.out 0).trans rfl
          have hm1 : w6.cell? ⟨b10, 1, none⟩ = some (.slice none 0 0) := (blk_cell BX106.out 1).trans rfl
          have hmf0 := blk_frozen BX106.out 0
          have hmf1 := blk_frozen BX106.out 1
          go_wp2_with fail
          obtain ⟨wS, hwS⟩ : ∃ wS, wS = (w6.setCell ⟨b10, 0, none⟩ (.slice AA nA cA)).setCell ⟨b10, 1, none⟩ (.slice AW nW cW) := ⟨_, rfl⟩
          rw [← hwS]
          have hset := set37 BX106.out (.slice AA nA cA) (.slice AW nW cW)
          rw [← hwS] at hset
          have TS := Aside0.mk (T6'.out.aside BX106.out hset.2 HF10.out)
          have XS := Aside0.mk (blk_kept X46.out hset.2.kept (fun e => HN4.out e))
          have HRAS := Aside0.mk (rowI_aside HRA6.out BX106.out hset.2)
          have HRWS := Aside0.mk (rowW_aside HRW6.out BX106.out hset.2)
          have BXS := Aside0.mk hset.1
          clear hset hwS hm0 hm1 hmf0 hmf1
          go_at_fn 28
          refine (tidy_at TS.out).mono ?_
          rintro x w7 ⟨rfl, P7, hkeep, hki, hkw, T7⟩
          have BX7 := Aside0.mk (hkeep _ _ _ BXS.out (by decide))
          have X7 := Aside0.mk (hkeep _ _ _ XS.out (by decide))
          have T7' := Aside0.mk T7
          clear T7
          have HKI := Aside0.mk hki
          have HKW := Aside0.mk hkw
          clear hkeep hki hkw
          have hz0 : w7.cell? ⟨b10, 0, none⟩ = some (.slice AA nA cA) := (blk_cell BX7.out 0).trans rfl
          have hz1 : w7.cell? ⟨b10, 1, none⟩ = some (.slice AW nW cW) := (blk_cell BX7.out 1).trans rfl
          have hy0 : w7.cell? ⟨b4, 0, none⟩ = some (.slice none 0 0) := (blk_cell X7.out 0).trans rfl
          have hy1 : w7.cell? ⟨b4, 1, none⟩ = some (.slice none 0 0) := (blk_cell X7.out 1).trans rfl
          have hyf0 := blk_frozen X7.out 0
          have hyf1 := blk_frozen X7.out 1
          have hne := HN4.out
          have hneS := hne.symm
          go_wp2_with fail
          have hla : nA ≤ 17 := by have h2 := PM.sayAll_len (PM.kinds (PM.mk (P.m.tick1 n).sl (P.m.tick1 n).dl (nextAt P.dl P.dat 31) (wrap64 ((n : Int) + jit P.dl P.dat)) true (P.m.tick1 n).fails) (typesL ((P.m.tick1 n).sl.map PS.a0)) n); have h3 := MLEN.out; have h4 : nA = (PM.sayAll (PM.kinds (PM.mk (P.m.tick1 n).sl (P.m.tick1 n).dl (nextAt P.dl P.dat 31) (wrap64 ((n : Int) + jit P.dl P.dat)) true (P.m.tick1 n).fails) (typesL ((P.m.tick1 n).sl.map PS.a0)) n)).length := HLA.out; omega
          have hlw : nW ≤ 16 := by have h2 := PM.sayWords_len (PM.kinds (PM.mk (P.m.tick1 n).sl (P.m.tick1 n).dl (nextAt P.dl P.dat 31) (wrap64 ((n : Int) + jit P.dl P.dat)) true (P.m.tick1 n).fails) (typesL ((P.m.tick1 n).sl.map PS.a0)) n); have h3 := MLEN.out; have h4 : nW = (PM.sayWords (PM.kinds (PM.mk (P.m.tick1 n).sl (P.m.tick1 n).dl (nextAt P.dl P.dat 31) (wrap64 ((n : Int) + jit P.dl P.dat)) true (P.m.tick1 n).fails) (typesL ((P.m.tick1 n).sl.map PS.a0)) n)).length := HLW.out; omega
          go_region
          obtain ⟨w9, hw9⟩ : ∃ w9, w9 = ((w7.setCell ⟨b4, 0, none⟩ (.slice AA nA cA)).setCell ⟨b4, 1, none⟩ (.slice AW nW cW)).drew := ⟨_, rfl⟩
          rw [← hw9]
          have hset := set37 X7.out (.slice AA nA cA) (.slice AW nW cW)
          have X9 : w9.heap[b4]? = some (.cells #[(.slice AA nA cA), (.slice AW nW cW)] 37 (0, 0)) := by rw [hw9]; exact blk_drew hset.1
          have W9 : Wr w7 (fun k => k = b4) w9 := by rw [hw9]; exact hset.2.below (below_drew1 (Below.refl _ _))
          have T9 := Aside0.mk (T7'.out.aside X7.out W9 HF4.out)
          have HX9 := Aside0.mk X9
          have HW9 := Aside0.mk W9
          clear hw9 hset X9 W9
          go_wp2
          try simp only [Exit.inBlock, Exit.then]
          refine bodyPost_ret (results_cell_tmp_row rfl _ _ b4 37 #[(.slice AA nA cA), (.slice AW nW cW)] (0, 0) _ rfl HX9.out Tryd.underlying37 rfl (by kernel_rfl)) rfl ?_
          show TickPost P n w _ w9
          refine ⟨(.slice AA nA cA), (.slice AW nW cW), P7, PM.sayAll (PM.kinds (PM.mk (P.m.tick1 n).sl (P.m.tick1 n).dl (nextAt P.dl P.dat 31) (wrap64 ((n : Int) + jit P.dl P.dat)) true (P.m.tick1 n).fails) (typesL ((P.m.tick1 n).sl.map PS.a0)) n), PM.sayWords (PM.kinds (PM.mk (P.m.tick1 n).sl (P.m.tick1 n).dl (nextAt P.dl P.dat 31) (wrap64 ((n : Int) + jit P.dl P.dat)) true (P.m.tick1 n).fails) (typesL ((P.m.tick1 n).sl.map PS.a0)) n), ?_, ?_, ?_, ?_, ?_, ?_⟩
          · rw [← HLA.out, ← HLW.out]
            have hdd9 : decide ((0 : Int) < (nA : Int) + (nW : Int)) = decide (0 < nA + nW) := decide_eq_decide.2 (by omega)
            rw [← hdd9]
            rfl
          · unfold PM.msgAll; rw [if_pos HEVEN.out, TK2]
          · unfold PM.msgWords; rw [if_pos HEVEN.out, TK2]
          · exact rowI_aside (HKI.out _ _ _ HRAS.out) X7.out HW9.out
          · exact rowW_aside (HKW.out _ _ _ HRWS.out) X7.out HW9.out
          · have t9 := T9.out; unfold PM.tick PM.tick3; rw [if_pos HEVEN.out, TK2]; exact t9
theorem tick_calls (P : Pt) (n : Nat) (w : World) (h : PtAt w P) (hev : EV w) (hF0 : ¬ P.F 0) : Calls Tryd.prog 13 #[.pointer (some ⟨P.pb, 0, none⟩), .int .i64 n] w (TickPost P n w) := by
  by_cases hd : P.due ≤ (n : Int)
  · by_cases he : (n : Int) % 2 = 0
    · exact tick_de P n w h hev hF0 hd he
    · exact tick_do P n w h hev hF0 hd he
  · by_cases he : (n : Int) % 2 = 0
    · exact tick_ne P n w h hev hF0 hd he
    · exact tick_no P n w h hev hF0 hd he
end Go.Proofs.YtkahciadkgjbbaaDoor.QPty
namespace Go.Proofs.YtkahciadkgjbbaaDoor.QPty
open Go.RowKit Go.Proofs.YtkahciadkgjbbaaDoorW.PrintWords Go.Proofs.YtkahciadkgjbbaaDoorW.PrintLast Go.Proofs.YtkahciadkgjbbaaDoorW.PrintMore Gen
set_option linter.unusedVariables false
set_option linter.unusedSimpArgs false
def PM.get (m : PM) (a0 a1 : Int) : Option PS := m.sl.find? fun s => s.is a0 a1
theorem get_miss {P : Pt} (hs : Srt P.sl) {a0 a1 : Int} (hh : hit P.sl a0 a1 = false) : P.m.get a0 a1 = none := by
  unfold PM.get
  rw [List.find?_eq_none]
  have := hit_map hs a0 a1
  rw [hh] at this
  intro s hs2
  have h2 := List.any_eq_false.1 this s hs2
  simpa using h2
theorem get_hit {P : Pt} (hs : Srt P.sl) {a0 a1 : Int} (hh : hit P.sl a0 a1 = true) (hi : pos P.sl a0 a1 < P.sl.length) : P.m.get a0 a1 = some (P.sl[pos P.sl a0 a1]'hi).ps := by
  obtain ⟨hi2, hsm⟩ := hit_lt hh
  unfold PM.get
  rw [List.find?_eq_some_iff_append]
  refine ⟨by unfold PS.is; exact decide_eq_true hsm, (P.sl.take (pos P.sl a0 a1)).map Ent.ps, (P.sl.drop (pos P.sl a0 a1 + 1)).map Ent.ps, ?_, ?_⟩
  · show P.sl.map Ent.ps = _
    rw [← List.map_cons, ← List.map_append, ← List.drop_eq_getElem_cons hi, List.take_append_drop]
  · intro s hs2
    obtain ⟨e, he, rfl⟩ := List.mem_map.1 hs2
    obtain ⟨i, hi3, rfl⟩ := List.getElem_of_mem he
    rw [List.length_take] at hi3
    rw [List.getElem_take]
    have := (pos_spec a0 a1 P.sl hs).1 i (by omega) (by omega)
    show (!PS.is _ _ _) = true
    unfold PS.is
    simp only [Bool.not_eq_true', decide_eq_false_iff_not]
    intro hh2
    exact Same.not_lx (show Same P.sl[i] a0 a1 from hh2) this
def PM.hasA (m : PM) (a0 a1 : Int) : Bool := match m.get a0 a1 with | some s => rhas s.rg | none => false
set_option maxHeartbeats 4000000 in
set_option maxRecDepth 100000 in
theorem has_miss (P : Pt) (a0 a1 : Int) (w : World) (h : PtAt w P) (hh : hit P.sl a0 a1 = false) : Calls Tryd.prog 15 #[.pointer (some ⟨P.pb, 0, none⟩), .agg #[.int .i64 a0, .int .i64 a1]] w fun x w' => x = .returned (.bool false) ∧ Below w.heap.size w w' := by
  have e25 : ∀ args w, (callFunc 25 args).run Tryd.prog w = .ok (.enter 25 args) w := enters_of Tryd.func25 (by kernel_rfl) rfl
  have e37 : ∀ args w, (callFunc 37 args).run Tryd.prog w = .ok (.enter 37 args) w := enters_of Tryd.func37 (by kernel_rfl) rfl
  have e38 : ∀ args w, (callFunc 38 args).run Tryd.prog w = .ok (.enter 38 args) w := enters_of Tryd.func38 (by kernel_rfl) rfl
  have e39 : ∀ args w, (callFunc 39 args).run Tryd.prog w = .ok (.enter 39 args) w := enters_of Tryd.func39 (by kernel_rfl) rfl
  have e15 : ∀ args w, (callFunc 15 args).run Tryd.prog w = .ok (.enter 15 args) w := enters_of Tryd.func15 (by kernel_rfl) rfl
  have hu28 := Tryd.underlying28
  have HPw := Aside0.mk h
  clear h
  go_enter Tryd.func15, Tryd.ntmps15
  go_wp2_with (first
    | (((with_reducible refine gate_dst (N := 3) rfl ?_); refine box_event ?hg (N := 3) ?hd (cs := #[.int .i64 a0, .int .i64 a1]) (t := 28) ?hr ?_; (case hd => rfl); (case hg => rfl); (case hr => first | (go_simp; done) | (go_simp; rfl)); intro tb hg w1 hbox hb; have HB := Aside0.mk hb; have BX := Aside0.mk hbox; clear hb hbox hg); have hb0 : w1.cell? ⟨tb, 0, none⟩ = some (.int .i64 a0) := (blk_cell BX.out 0).trans rfl; have hb1 : w1.cell? ⟨tb, 1, none⟩ = some (.int .i64 a1) := (blk_cell BX.out 1).trans rfl)
    | (go_at_fn 25; with_reducible refine (find_miss P a0 a1 _ (HPw.out.below HB.out) hh).mono ?_; rintro x w2 ⟨rfl, hb2⟩; have HB2 := Aside0.mk (below_step HB.out hb2); clear hb2))
  go_ret
  exact ⟨rfl, HB2.out⟩
set_option maxHeartbeats 4000000 in
set_option maxRecDepth 100000 in
theorem has_hit (P : Pt) (a0 a1 : Int) (w : World) (h : PtAt w P) (hh : hit P.sl a0 a1 = true) (hi : pos P.sl a0 a1 < P.sl.length) : Calls Tryd.prog 15 #[.pointer (some ⟨P.pb, 0, none⟩), .agg #[.int .i64 a0, .int .i64 a1]] w fun x w' => x = .returned (.bool (rhas (P.sl[pos P.sl a0 a1]'hi).rg)) ∧ Below w.heap.size w w' := by
  have e25 : ∀ args w, (callFunc 25 args).run Tryd.prog w = .ok (.enter 25 args) w := enters_of Tryd.func25 (by kernel_rfl) rfl
  have e37 : ∀ args w, (callFunc 37 args).run Tryd.prog w = .ok (.enter 37 args) w := enters_of Tryd.func37 (by kernel_rfl) rfl
  have e38 : ∀ args w, (callFunc 38 args).run Tryd.prog w = .ok (.enter 38 args) w := enters_of Tryd.func38 (by kernel_rfl) rfl
  have e39 : ∀ args w, (callFunc 39 args).run Tryd.prog w = .ok (.enter 39 args) w := enters_of Tryd.func39 (by kernel_rfl) rfl
  have e15 : ∀ args w, (callFunc 15 args).run Tryd.prog w = .ok (.enter 15 args) w := enters_of Tryd.func15 (by kernel_rfl) rfl
  have hu28 := Tryd.underlying28
  have HPw := Aside0.mk h
  clear h
  go_enter Tryd.func15, Tryd.ntmps15
  go_wp2_with (first
    | (((with_reducible refine gate_dst (N := 3) rfl ?_); refine box_event ?hg (N := 3) ?hd (cs := #[.int .i64 a0, .int .i64 a1]) (t := 28) ?hr ?_; (case hd => rfl); (case hg => rfl); (case hr => first | (go_simp; done) | (go_simp; rfl)); intro tb hg w1 hbox hb; have HB := Aside0.mk hb; have BX := Aside0.mk hbox; clear hb hbox hg); have hb0 : w1.cell? ⟨tb, 0, none⟩ = some (.int .i64 a0) := (blk_cell BX.out 0).trans rfl; have hb1 : w1.cell? ⟨tb, 1, none⟩ = some (.int .i64 a1) := (blk_cell BX.out 1).trans rfl)
    | (go_at_fn 25; with_reducible refine (find_hit P a0 a1 w1 (HPw.out.below HB.out) hh hi).mono ?_; rintro x w2 ⟨rfl, hb2⟩; have HB2 := Aside0.mk (below_step HB.out hb2); have hb20 : w2.cell? ⟨tb, 0, none⟩ = some (.int .i64 a0) := (blk_cell (blk_below BX.out hb2) 0).trans rfl; have hb21 : w2.cell? ⟨tb, 1, none⟩ = some (.int .i64 a1) := (blk_cell (blk_below BX.out hb2) 1).trans rfl; clear hb2)
    | (go_at_fn 25; with_reducible refine (find_hit P a0 a1 w2 (HPw.out.below HB2.out) hh hi).mono ?_; rintro x w3 ⟨rfl, hb2⟩; have HB3 := Aside0.mk (below_step HB2.out hb2); have HE3 := Aside0.mk ((HPw.out.below HB3.out).ent _ (List.getElem_mem hi)); have hc2 : w3.cell? ⟨(P.sl[pos P.sl a0 a1]'hi).sb, 2, none⟩ = some (.pointer (some ⟨(P.sl[pos P.sl a0 a1]'hi).rb, 0, none⟩)) := (blk_cell HE3.out.sl 2).trans rfl; clear hb2)
    | (go_at_fn 37; with_reducible refine (has_calls _ _ _ HE3.out.rg).mono ?_; rintro x w4 ⟨rfl, e1⟩; have e2 := e1.symm; subst e2))
  go_ret
  exact ⟨rfl, HB3.out⟩
theorem hasP_calls (P : Pt) (a0 a1 : Int) (w : World) (h : PtAt w P) : Calls Tryd.prog 15 #[.pointer (some ⟨P.pb, 0, none⟩), .agg #[.int .i64 a0, .int .i64 a1]] w fun x w' => x = .returned (.bool (P.m.hasA a0 a1)) ∧ Below w.heap.size w w' := by
  unfold PM.hasA
  rcases Bool.eq_false_or_eq_true (hit P.sl a0 a1) with hh | hh
  · obtain ⟨hi, _⟩ := hit_lt hh
    rw [get_hit h.srt hh hi]
    exact has_hit P a0 a1 w h hh hi
  · rw [get_miss h.srt hh]
    exact has_miss P a0 a1 w h hh
def PM.new (l : List Int) : PM := ⟨[], l, nextAt l 0 31, jit l 0, false, 0⟩
set_option maxHeartbeats 4000000 in
set_option maxRecDepth 100000 in
theorem new_calls (A : Option Addr) (c : Nat) (l : List Int) (w : World) (hr : Kd.C (Kd.int .i64) w A l.length l) (hc : l.length ≤ c) (hl : l.length < 4398046511104) :
    Calls Tryd.prog 7 #[.slice A l.length c] w fun x w' => ∃ P', x = .returned (.pointer (some ⟨P'.pb, 0, none⟩)) ∧ PtAt w' P' ∧ P'.m = PM.new l ∧ (∀ k, P'.F k → w.heap.size ≤ k) ∧ Below w.heap.size w w' := by
  have e22 : ∀ args w, (callFunc 22 args).run Tryd.prog w = .ok (.enter 22 args) w := enters_of Tryd.func22 (by kernel_rfl) rfl
  have e23 : ∀ args w, (callFunc 23 args).run Tryd.prog w = .ok (.enter 23 args) w := enters_of Tryd.func23 (by kernel_rfl) rfl
  have HK := Aside0.mk (draw_calls A c l w hr hc hl)
  clear hr hc hl
  go_enter Tryd.func7, Tryd.ntmps7
  go_wp2_with (first
    | (go_at_fn 22; with_reducible refine HK.out.mono ?_; rintro x w1 ⟨d, v, rfl, hd, hdg, hb⟩; have HD := Aside0.mk hd; have HDG := Aside0.mk hdg; have HB := Aside0.mk hb; clear hd hdg hb)
    | ((with_reducible refine gate_dst (N := 7) rfl ?_); refine box_event ?hg (N := 7) ?hd (cs := #[.slice none 0 0, .pointer (some ⟨d, 0, none⟩), .int .i64 0, .bool false, .int .i64 0]) (t := 61) ?hr ?_; (case hd => rfl); (case hg => rfl); (case hr => first | (go_simp; done) | (go_simp; rfl)); intro pb hg w2 hbox hb; have HG := Aside0.mk hg; have BX := Aside0.mk hbox; have HB2 := Aside0.mk (below_step HB.out hb); have HD2 := Aside0.mk (HD.out.kept (Kept.of_below hb (fun _ => False)) (fun x => x) (fun _ _ x => x)); have hp1 : w2.cell? ⟨pb, 1, none⟩ = some (.pointer (some ⟨d, 0, none⟩)) := (blk_cell hbox 1).trans rfl; clear hb hbox hg)
    | (go_at_fn 23; with_reducible refine (jit_calls d 0 v l _ HD2.out).mono ?_; rintro x w3 ⟨rfl, hd3, hw3⟩; have HD3 := Aside0.mk hd3; have BX3 := Aside0.mk (blk_kept BX.out hw3.kept (fun q => absurd q (blk_types BX.out HD2.out.cell (by decide)))); have HW3 := Aside0.mk hw3; have hp2 : w3.cell? ⟨pb, 2, none⟩ = some (.int .i64 0) := (blk_cell BX3.out 2).trans rfl; have hpf := blk_frozen BX3.out 2; clear hd3 hw3))
  go_ret
  have hset : Wr w3 (fun k => k = pb) (w3.setCell ⟨pb, 2, none⟩ (.int .i64 (jit l 0))) := (Wr.refl w3 (fun k => k = pb)).set (.inl rfl) 2 _
  have hpg : w.heap.size ≤ pb := by rw [HG.out]; exact HB.out.size
  have hw : Wr w2 (fun k => k = d ∨ k = pb) (w3.setCell ⟨pb, 2, none⟩ (.int .i64 (jit l 0))) := (HW3.out.mono (fun k hk => .inl hk)).set (.inl (.inr rfl)) 2 _
  refine ⟨⟨pb, d, .slice none 0 0, v, [], l, nextAt l 0 31, jit l 0, false, 0⟩, rfl, ?_, rfl, ?_, ?_⟩
  · refine { par := blk_put BX3.out 2 _ rfl, drw := HD3.out.kept hset.kept (fun q => absurd q (blk_types HD3.out.cell BX3.out (by decide))) (fun q hq e => by obtain ⟨c, hc⟩ := typed_of_drw HD3.out q hq; exact absurd e (blk_types hc BX3.out (by decide))), row := Kd.R_nil _ _ _ _ _, ent := fun e he => by simp at he, nds := List.nodup_nil, ndr := List.nodup_nil, srt := List.Pairwise.nil, ok := fun e he => by simp at he, len := by simp }
  · intro k hk
    rcases hk with rfl | rfl | hk | ⟨e, he, _⟩
    · exact hpg
    · exact HDG.out
    · cases hk
    · simp at he
  · exact (hw.mono (F2 := fun k => w.heap.size ≤ k) (fun k hk => by rcases hk with rfl | rfl; exact HDG.out; exact hpg)).low HB2.out HB2.out.size (fun k hk => hk)
end Go.Proofs.YtkahciadkgjbbaaDoor.QPty
