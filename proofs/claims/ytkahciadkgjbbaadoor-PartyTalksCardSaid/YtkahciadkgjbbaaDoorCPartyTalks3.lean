/- Functions of the program as plain Lean functions, what their calls do, and what follows of it. Conditions: each theorem's own. -/
import Derived.Test.YtkahciadkgjbbaaDoorCPartyTalks2
import Derived.Test.YtkahciadkgjbbaaDoorCards
import Derived.Test.YtkahciadkgjbbaaDoorProg
import Derived.Test.YtkahciadkgjbbaaDoorRows
import Derived.Test.YtkahciadkgjbbaaDoorTie
namespace Go.Proofs.YtkahciadkgjbbaaDoor.QPty
open Go.RowKit Go.Proofs.YtkahciadkgjbbaaDoorW.PrintWords Go.Proofs.YtkahciadkgjbbaaDoorW.PrintLast Go.Proofs.YtkahciadkgjbbaaDoorW.PrintMore Gen
set_option linter.unusedVariables false
set_option linter.unusedSimpArgs false
theorem talk_f (w0 : World) (pa qb : Nat) (I : Nat → PM → PM → Prop) (fr tt af : Nat) (fi ti ai : Int) (e1 : fi = fr) (e2 : ti = tt) (e3 : ai = af) (hstep : ∀ k A B, fr ≤ k → k < tt → I k A B → roundOk 1 9 false af (k + 1) A B ∧ I (k + 1) (round 1 9 false (k + 1) A B).1 (round 1 9 false (k + 1) A B).2) (hft : fr ≤ tt) (hto : tt ≤ 100000) (A B : PM) (h0 : I fr A B) (W : World) (hD : Duo w0 pa qb W A B) :
    Calls Tryd.prog 8 #[.pointer (some ⟨pa, 0, none⟩), .pointer (some ⟨qb, 0, none⟩), .int .i64 fi, .int .i64 ti, .agg #[.int .i64 1, .int .i64 9], .int .i64 ai, .bool false] W fun x w' => x = .returned (.bool true) ∧ ∃ A' B', Duo w0 pa qb w' A' B' ∧ I tt A' B' := by
  subst e1 e2 e3
  exact talk_false w0 pa qb I fr tt af 1 9 hstep hft hto A B h0 W hD
theorem talk_t (w0 : World) (pa qb : Nat) (I : Nat → PM → PM → Prop) (fr tt af : Nat) (fi ti ai : Int) (e1 : fi = fr) (e2 : ti = tt) (e3 : ai = af) (hstep : ∀ k A B, fr ≤ k → k < tt → I k A B → roundOk 1 9 true af (k + 1) A B ∧ I (k + 1) (round 1 9 true (k + 1) A B).1 (round 1 9 true (k + 1) A B).2) (hft : fr ≤ tt) (hto : tt ≤ 100000) (A B : PM) (h0 : I fr A B) (W : World) (hD : Duo w0 pa qb W A B) :
    Calls Tryd.prog 8 #[.pointer (some ⟨pa, 0, none⟩), .pointer (some ⟨qb, 0, none⟩), .int .i64 fi, .int .i64 ti, .agg #[.int .i64 1, .int .i64 9], .int .i64 ai, .bool true] W fun x w' => x = .returned (.bool true) ∧ ∃ A' B', Duo w0 pa qb w' A' B' ∧ I tt A' B' := by
  subst e1 e2 e3
  exact talk_true w0 pa qb I fr tt af 1 9 hstep hft hto A B h0 W hD
def kissgatelaw16_PartyTalks.f (l0 l1 : List Int) (a2 a3 : Int) : Option Bool := some true
def talksB (l0 l1 : List Int) (a2 a3 : Int) : Bool := decide (30 < (l0.length : Int)) || decide (30 < (l1.length : Int)) || decide (a2 < 0) || decide (200 < a2) || decide (a3 < 0) || decide (300 < a3)
set_option maxHeartbeats 4000000 in
set_option maxRecDepth 100000 in
theorem talks_walk (A0 : Option Addr) (c0 : Nat) (l0 : List Int) (A1 : Option Addr) (c1 : Nat) (l1 : List Int) (s t : Nat) (w : World) (hng : EV w) (hr0 : Kd.C (Kd.int .i64) w A0 l0.length l0) (hc0 : l0.length ≤ c0) (hr1 : Kd.C (Kd.int .i64) w A1 l1.length l1) (hc1 : l1.length ≤ c1) (hl0 : l0.length ≤ 30) (hl1 : l1.length ≤ 30) (hs : s ≤ 200) (ht : t ≤ 300) :
    Calls Tryd.prog 3 #[.slice A0 l0.length c0, .slice A1 l1.length c1, .int .i64 s, .int .i64 t] w fun e w' => e = .returned (.bool true) ∧ Below w.heap.size w w' := by
  have mixed : Tryd.prog.follows .mixedOrders = true := by kernel_rfl
  have e6 : ∀ args w, (callFunc 6 args).run Tryd.prog w = .ok (.enter 6 args) w := enters_of Tryd.func6 (by kernel_rfl) rfl
  have e7 : ∀ args w, (callFunc 7 args).run Tryd.prog w = .ok (.enter 7 args) w := enters_of Tryd.func7 (by kernel_rfl) rfl
  have e8 : ∀ args w, (callFunc 8 args).run Tryd.prog w = .ok (.enter 8 args) w := enters_of Tryd.func8 (by kernel_rfl) rfl
  have e9 : ∀ args w, (callFunc 9 args).run Tryd.prog w = .ok (.enter 9 args) w := enters_of Tryd.func9 (by kernel_rfl) rfl
  have e10 : ∀ args w, (callFunc 10 args).run Tryd.prog w = .ok (.enter 10 args) w := enters_of Tryd.func10 (by kernel_rfl) rfl
  have HEV := Aside0.mk hng
  have HR0 := Aside0.mk hr0
  have HR1 := Aside0.mk hr1
  have d0 : decide (30 < (l0.length : Int)) = false := decide_eq_false (by omega)
  have d1 : decide (30 < (l1.length : Int)) = false := decide_eq_false (by omega)
  have d2 : decide ((s : Int) < 0) = false := decide_eq_false (by omega)
  have d3 : decide (200 < (s : Int)) = false := decide_eq_false (by omega)
  have d4 : decide ((t : Int) < 0) = false := decide_eq_false (by omega)
  have d5 : decide (300 < (t : Int)) = false := decide_eq_false (by omega)
  have b0 : (s : Int) ≤ 200 := by omega
  have b1 : (t : Int) ≤ 300 := by omega
  clear hng hr0 hr1
  go_enter Tryd.func3, Tryd.ntmps3
  go_wp2_with fail
  go_at_fn 6
  refine (alive_calls w HEV.out).mono ?_
  rintro x w1 ⟨rfl, hb1⟩
  have HB1 := Aside0.mk hb1
  clear hb1
  go_wp2_with fail
  go_at_fn 7
  refine (new_calls A0 c0 l0 w1 (Kd.C_below HR0.out HB1.out) hc0 (by omega)).mono ?_
  rintro x w2 ⟨P, rfl, hP, hmP, hFP, hb2⟩
  have HB2 := Aside0.mk hb2
  have HP := Aside0.mk hP
  have HMP := Aside0.mk hmP
  have HFP := Aside0.mk hFP
  clear hP hmP hFP hb2
  go_wp2_with fail
  go_at_fn 7
  refine (new_calls A1 c1 l1 w2 (Kd.C_below HR1.out (below_step HB1.out HB2.out)) hc1 (by omega)).mono ?_
  rintro x w3 ⟨Q, rfl, hQ, hmQ, hFQ, hb3⟩
  have hD := duo_new (HEV.out.below HB1.out) HB2.out HP.out HFP.out hb3 hQ hFQ
  rw [HMP.out, hmQ] at hD
  have D3 := Aside0.mk hD
  clear hD hQ hmQ hFQ hb3 HP HMP HFP HR0 HR1 HB2
  generalize P.pb = pa at *
  generalize Q.pb = qb at *
  go_wp2_with fail
  go_at_fn 9
  refine (vid_calls 9 _).mono ?_
  rintro x w4 ⟨rfl, hb4⟩
  have D4 := Aside0.mk (D3.out.below hb4)
  clear hb4 D3
  go_wp2_with fail
  go_at_fn 8
  refine (talk_f w1 pa qb I1 0 s (s + 1) _ _ _ (by omega) (by omega) (by omega) (fun k A B _ hk h => step1 s k A B hk h) (Nat.zero_le _) (by omega) _ _ ⟨rfl, rfl⟩ _ D4.out).mono ?_
  rintro x w5 ⟨rfl, A5, B5, hD, hI⟩
  have D5 := Aside0.mk hD
  have I5 := Aside0.mk hI
  clear hD hI D4
  go_wp2_with fail
  go_at_fn 9
  refine (vid_calls 9 _).mono ?_
  rintro x w6 ⟨rfl, hb6⟩
  have D6 := Aside0.mk (D5.out.below hb6)
  clear hb6 D5
  go_wp2_with fail
  go_at_fn 8
  refine (talk_t w1 pa qb (I2 s) s (s + t) (s + 2) _ _ _ (by omega) (by omega) (by omega) (fun k A B h1 hk h => step2 s (s + t) k A B h1 hk (by omega) h) (by omega) (by omega) A5 B5 (.inl ⟨rfl, I5.out⟩) _ D6.out).mono ?_
  rintro x w7 ⟨rfl, A7, B7, hD, hI⟩
  have D7 := Aside0.mk hD
  have I7 := Aside0.mk hI
  clear hD hI D6 I5
  go_wp2_with fail
  go_at_fn 9
  refine (vid_calls 9 _).mono ?_
  rintro x w8 ⟨rfl, hb8⟩
  have D8 := Aside0.mk (D7.out.below hb8)
  clear hb8 D7
  go_wp2_with fail
  go_at_fn 10
  refine (duo_want D8.out 1 9 (-1) false).mono ?_
  rintro x w9 ⟨rfl, hD, _⟩
  have D9 := Aside0.mk hD
  have I9 := Aside0.mk (start3 s (s + t) A7 B7 (by omega) I7.out)
  clear hD D8 I7
  go_wp2_with fail
  go_at_fn 9
  refine (vid_calls 9 _).mono ?_
  rintro x w10 ⟨rfl, hb10⟩
  have D10 := Aside0.mk (D9.out.below hb10)
  clear hb10 D9
  go_wp2_with fail
  go_at_fn 8
  refine (talk_f w1 pa qb (I3 (s + t)) (s + t) (s + t + 100) (s + t + 28) _ _ _ (by omega) (by omega) (by omega) (fun k A B h1 hk h => step3 (s + t) (s + t + 100) k A B h1 hk (by omega) h) (by omega) (by omega) _ _ I9.out _ D10.out).mono ?_
  rintro x w11 ⟨rfl, A11, B11, hD, hI⟩
  have HBL := Aside0.mk (below_step HB1.out hD.bel)
  clear hD hI
  go_wp2
  go_ret
  exact ⟨rfl, HBL.out⟩
set_option maxHeartbeats 4000000 in
set_option maxRecDepth 100000 in
theorem talks_great (A0 : Option Addr) (c0 : Nat) (l0 : List Int) (A1 : Option Addr) (c1 : Nat) (l1 : List Int) (a2 a3 : Int) (w : World) (hng : EV w) (h : talksB l0 l1 a2 a3 = true) :
    Calls Tryd.prog 3 #[.slice A0 l0.length c0, .slice A1 l1.length c1, .int .i64 a2, .int .i64 a3] w fun e w' => e = .returned (.bool true) ∧ Below w.heap.size w w' := by
  have e6 : ∀ args w, (callFunc 6 args).run Tryd.prog w = .ok (.enter 6 args) w := enters_of Tryd.func6 (by kernel_rfl) rfl
  have HAL := Aside0.mk (alive_calls w hng)
  have H := Aside0.mk h
  clear hng h
  generalize hn0 : l0.length = n0
  generalize hn1 : l1.length = n1
  have H2 := Aside0.mk (show decide (30 < (n0 : Int)) || decide (30 < (n1 : Int)) || decide (a2 < 0) || decide (200 < a2) || decide (a3 < 0) || decide (300 < a3) from by rw [← hn0, ← hn1]; exact H.out)
  clear hn0 hn1 H
  by_cases qd0 : 30 < (n0 : Int)
  · have d0 : decide (30 < (n0 : Int)) = true := decide_eq_true qd0
    clear H2
    go_enter Tryd.func3, Tryd.ntmps3
    go_wp2_with (go_at_fn 6; with_reducible refine HAL.out.mono ?_; rintro x w1 ⟨rfl, hb1⟩; have HB1 := Aside0.mk hb1; clear hb1)
    go_ret
    exact ⟨rfl, HB1.out⟩
  · have d0 : decide (30 < (n0 : Int)) = false := decide_eq_false qd0
    by_cases qd1 : 30 < (n1 : Int)
    · have d1 : decide (30 < (n1 : Int)) = true := decide_eq_true qd1
      clear H2
      go_enter Tryd.func3, Tryd.ntmps3
      go_wp2_with (go_at_fn 6; with_reducible refine HAL.out.mono ?_; rintro x w1 ⟨rfl, hb1⟩; have HB1 := Aside0.mk hb1; clear hb1)
      go_ret
      exact ⟨rfl, HB1.out⟩
    · have d1 : decide (30 < (n1 : Int)) = false := decide_eq_false qd1
      by_cases qd2 : a2 < 0
      · have d2 : decide (a2 < 0) = true := decide_eq_true qd2
        clear H2
        go_enter Tryd.func3, Tryd.ntmps3
        go_wp2_with (go_at_fn 6; with_reducible refine HAL.out.mono ?_; rintro x w1 ⟨rfl, hb1⟩; have HB1 := Aside0.mk hb1; clear hb1)
        go_ret
        exact ⟨rfl, HB1.out⟩
      · have d2 : decide (a2 < 0) = false := decide_eq_false qd2
        by_cases qd3 : 200 < a2
        · have d3 : decide (200 < a2) = true := decide_eq_true qd3
          clear H2
          go_enter Tryd.func3, Tryd.ntmps3
          go_wp2_with (go_at_fn 6; with_reducible refine HAL.out.mono ?_; rintro x w1 ⟨rfl, hb1⟩; have HB1 := Aside0.mk hb1; clear hb1)
          go_ret
          exact ⟨rfl, HB1.out⟩
        · have d3 : decide (200 < a2) = false := decide_eq_false qd3
          by_cases qd4 : a3 < 0
          · have d4 : decide (a3 < 0) = true := decide_eq_true qd4
            clear H2
            go_enter Tryd.func3, Tryd.ntmps3
            go_wp2_with (go_at_fn 6; with_reducible refine HAL.out.mono ?_; rintro x w1 ⟨rfl, hb1⟩; have HB1 := Aside0.mk hb1; clear hb1)
            go_ret
            exact ⟨rfl, HB1.out⟩
          · have d4 : decide (a3 < 0) = false := decide_eq_false qd4
            by_cases qd5 : 300 < a3
            · have d5 : decide (300 < a3) = true := decide_eq_true qd5
              clear H2
              go_enter Tryd.func3, Tryd.ntmps3
              go_wp2_with (go_at_fn 6; with_reducible refine HAL.out.mono ?_; rintro x w1 ⟨rfl, hb1⟩; have HB1 := Aside0.mk hb1; clear hb1)
              go_ret
              exact ⟨rfl, HB1.out⟩
            · have d5 : decide (300 < a3) = false := decide_eq_false qd5
              exfalso
              have h2 := H2.out
              rw [d0, d1, d2, d3, d4, d5] at h2
              cases h2
theorem kissgatelaw16_PartyTalks.calls (A0 : Option Addr) (c0 : Nat) (l0 : List Int) (A1 : Option Addr) (c1 : Nat) (l1 : List Int) (a2 : Int) (a3 : Int) (r : Bool) (w : World) (hng : EV w) (hz : 0 < w.heap.size) (hr0 : Kd.C (Kd.int .i64) w A0 l0.length l0) (hc0 : l0.length ≤ c0) (hr1 : Kd.C (Kd.int .i64) w A1 l1.length l1) (hc1 : l1.length ≤ c1) (hT : r = true) (h : kissgatelaw16_PartyTalks.f l0 l1 a2 a3 = some r) :
    Calls Tryd.prog 3 #[.slice A0 l0.length c0, .slice A1 l1.length c1, .int .i64 a2, .int .i64 a3] w fun e w' => e = .returned (.bool r) ∧ Below w.heap.size w w' := by
  subst hT
  rcases Bool.eq_false_or_eq_true (talksB l0 l1 a2 a3) with hg | hg
  · exact talks_great A0 c0 l0 A1 c1 l1 a2 a3 w hng hg
  · unfold talksB at hg
    simp only [Bool.or_eq_false_iff, decide_eq_false_iff_not] at hg
    obtain ⟨s, rfl⟩ : ∃ s : Nat, a2 = s := ⟨a2.toNat, by omega⟩
    obtain ⟨t, rfl⟩ : ∃ t : Nat, a3 = t := ⟨a3.toNat, by omega⟩
    exact talks_walk A0 c0 l0 A1 c1 l1 s t w hng hr0 hc0 hr1 hc1 (by omega) (by omega) (by omega) (by omega)
end Go.Proofs.YtkahciadkgjbbaaDoor.QPty
namespace Go.Proofs.YtkahciadkgjbbaaDoor.Opn
open Go.ChangeShapes Go.WideShapes Go.Proofs.YtkahciadkgjbbaaDoorW.PrintWords
variable {P : Program}
def Opens {α : Type} (P : Program) (t : TypeId) (d : Kd α) (good : α → Prop) : Prop :=
  ∀ (H : Type) (enc : TypeId × Value → H) (w : World) (fuel : Nat) (cs : List Value) (x : DataW H × List MemPlace),
    DataW.trod enc P w 0 (fun _ => true) true fuel t cs = some x → (∀ n ∈ x.1.weights P t, n ≤ reachBytes) → ∃ a : α, d.K w a cs ∧ good a
theorem opens_int {t : TypeId} {k : IntKind} (hu : P.underlying t = some (.int k)) : Opens P t (Kd.int k) (fun n => (Lit.int k n).wf = true) := by
  intro H enc w fuel cs x h _
  obtain ⟨n, rfl, _, hw⟩ := DataW.trod_int hu h
  exact ⟨n, rfl, hw⟩
theorem weightsAll_mem {H : Type} {e : TypeId} : ∀ {l : List (DataW H)} {d : DataW H}, d ∈ l → ∀ n ∈ d.weights P e, n ∈ DataW.weightsAll P e l
  | [], d, h, _, _ => by simp at h
  | d0 :: l, d, h, n, hn => by
    simp only [DataW.weightsAll, List.mem_append]
    rcases List.mem_cons.1 h with rfl | h
    · exact Or.inl hn
    · exact Or.inr (weightsAll_mem h n hn)
theorem add_at_ (a : Addr) (i j : Nat) : (a.add i).add j = a.add (i + j) := by
  unfold Addr.add
  by_cases hi : i = 0
  · subst hi; simp
  · by_cases hj : j = 0
    · subst hj; simp
    · simp [hi, hj, Nat.add_assoc]
theorem choose_list {α : Type} {Q : Nat → α → Prop} : ∀ (n : Nat), (∀ i, i < n → ∃ a, Q i a) → ∃ l : List α, l.length = n ∧ ∀ i a, l[i]? = some a → Q i a
  | 0, _ => ⟨[], rfl, fun i a h => by simp at h⟩
  | n + 1, h => by
    obtain ⟨l, hl, hq⟩ := choose_list n (fun i hi => h i (by omega))
    obtain ⟨a, ha⟩ := h n (by omega)
    refine ⟨l ++ [a], by simp [hl], fun i b hb => ?_⟩
    rcases Nat.lt_or_ge i l.length with hi | hi
    · rw [List.getElem?_append_left hi] at hb
      exact hq i b hb
    · rw [List.getElem?_append_right hi] at hb
      have hlt := (List.getElem?_eq_some_iff.1 hb).1
      simp at hlt
      have e : i = n := by omega
      subst e
      rw [show i - l.length = 0 from by omega] at hb
      have hb' : a = b := by simpa using hb
      subst hb'
      exact ha
theorem opens_slice_row {α : Type} {t e : TypeId} {d : Kd α} {good : α → Prop} (hu : P.underlying t = some (.slice e)) (hC : P.cellsOf e = d.sz) {B : Nat} (hB : P.bytesOf e = B) (ho : Opens P e d good)
    (H : Type) (enc : TypeId × Value → H) (w : World) (fuel : Nat) (A : Option Addr) (len cap : Nat) (x : DataW H × List MemPlace)
    (h : DataW.trod enc P w 0 (fun _ => true) true fuel t [.slice A len cap] = some x) (hz : ∀ n ∈ x.1.weights P t, n ≤ reachBytes) :
    ∃ l : List α, l.length = len ∧ len ≤ cap ∧ d.C w A len l ∧ len ≤ maxLen ∧ len * B ≤ 140737488351232 ∧ ∀ a ∈ l, good a := by
  rcases DataW.trod_slice hu h with ⟨h0, _⟩ | ⟨a, len', cap', elems, rest, n, _, hcs, hx, _, hl, hm, hlen, hel, _, _⟩
  · simp only [List.cons.injEq, Value.slice.injEq, and_true] at h0
    obtain ⟨rfl, rfl, rfl⟩ := h0
    exact ⟨[], rfl, Nat.le_refl _, ⟨rfl, Nat.zero_le _, fun h => absurd h (by omega)⟩, Nat.zero_le _, by simp, fun a ha => by simp at ha⟩
  · simp only [List.cons.injEq, Value.slice.injEq, and_true] at hcs
    obtain ⟨rfl, rfl, rfl⟩ := hcs
    have each : ∀ i, i < len → ∃ b : α, (∃ c, c.length = d.sz ∧ d.K w b c ∧ ∀ j u, c[j]? = some u → w.cell? (a.add (i * d.sz + j)) = some u) ∧ good b := by
      intro i hi
      have h1 := hel i hi
      have hie : i < elems.length := by omega
      rw [List.getElem?_eq_getElem hie, Option.bind_eq_some_iff] at h1
      obtain ⟨cs', hc, ht'⟩ := h1
      have hw' : ∀ n ∈ (elems[i]).1.weights P e, n ≤ reachBytes := by
        intro m hm'
        refine hz m ?_
        rw [hx]
        simp only [DataW.weights, hu]
        refine List.mem_cons_of_mem _ (List.mem_append_left _ ?_)
        exact weightsAll_mem (List.mem_map.2 ⟨elems[i], List.getElem_mem hie, rfl⟩) m hm'
      obtain ⟨b, hb, hg⟩ := ho H enc w _ cs' _ ht' hw'
      obtain ⟨_, hcl, hat⟩ := World.cells?_some hc
      refine ⟨b, ⟨cs', by rw [hcl, hC], hb, fun j u hu' => ?_⟩, hg⟩
      have hj : j < P.cellsOf e := by
        have := (List.getElem?_eq_some_iff.1 hu').1
        omega
      have := hat j hj
      rw [hC] at this
      rw [← add_at_, this, hu']
    obtain ⟨l, hll, hq⟩ := choose_list len each
    refine ⟨l, hll, hl, ⟨hll, by simp only [maxLen] at hm; omega, fun _ => ⟨a, rfl, fun j p hj => (hq j p hj).1⟩⟩, by omega, ?_, fun b hb => ?_⟩
    · have h1 := hz ((elems.length + rest.length) * P.bytesOf e) (by rw [hx]; simp [DataW.weights, hu])
      rw [hB] at h1
      simp only [reachBytes] at h1
      refine Nat.le_trans (Nat.mul_le_mul_right _ ?_) h1
      omega
    · obtain ⟨i, hi⟩ := List.getElem?_of_mem hb
      exact (hq i b hi).2
theorem weights_of {H : Type} {ts : List TypeId} {ds : List (DataW H)} (h : (DataW.weightsEach P ts ds).all (· ≤ reachBytes) = true) {j : Nat} {t : TypeId} {d : DataW H} (ht : ts[j]? = some t) (hd : ds[j]? = some d) : ∀ n ∈ d.weights P t, n ≤ reachBytes := by
  intro n hn
  have := List.all_eq_true.1 h _ (DataW.weights_mem_each ht hd n hn)
  simpa using this
theorem arg_slice {α : Type} {t e : TypeId} {d : Kd α} {good : α → Prop} (hu : P.underlying t = some (.slice e)) (hC : P.cellsOf e = d.sz) {B : Nat} (hB : P.bytesOf e = B) (ho : Opens P e d good)
    {H : Type} {enc : TypeId × Value → H} {w : World} {r : Reach} {b0 : Nat} {v : Value} {x : DataW H} {ps : List MemPlace} (hv : Value.okWide P w r b0 t v)
    (h : DataW.Trod enc P w 0 (fun _ => true) true t v x ps) (hz : ∀ n ∈ x.weights P t, n ≤ reachBytes) :
    ∃ (A : Option Addr) (c : Nat) (l : List α), v = .slice A l.length c ∧ l.length ≤ c ∧ d.C w A l.length l ∧ l.length ≤ maxLen ∧ l.length * B ≤ 140737488351232 ∧ ∀ a ∈ l, good a := by
  obtain ⟨A, len, c, rfl⟩ := okWide_slice hu hv
  obtain ⟨fuel, hf⟩ := h
  have hf' : DataW.trod enc P w 0 (fun _ => true) true fuel t [.slice A len c] = some (x, ps) := by simpa [Value.cells] using hf
  obtain ⟨l, rfl, hlc, hC', hm, hb, hg⟩ := opens_slice_row hu hC hB ho H enc w fuel A len c _ hf' hz
  exact ⟨A, c, l, rfl, hlc, hC', hm, hb, hg⟩
theorem arg_int {t : TypeId} {k : IntKind} (hu : P.underlying t = some (.int k))
    {H : Type} {enc : TypeId × Value → H} {w : World} {r : Reach} {b0 : Nat} {v : Value} {x : DataW H} {ps : List MemPlace} (hv : Value.okWide P w r b0 t v)
    (h : DataW.Trod enc P w 0 (fun _ => true) true t v x ps) : ∃ n, v = .int k n ∧ (Lit.int k n).wf = true := by
  obtain ⟨n, rfl⟩ := okWide_int hu hv
  obtain ⟨fuel, hf⟩ := h
  obtain ⟨m, hcs, _, hw⟩ := DataW.trod_int hu hf
  simp only [Value.cells] at hcs
  have e : n = m := by simpa using hcs
  subst e
  exact ⟨n, rfl, hw⟩
end Go.Proofs.YtkahciadkgjbbaaDoor.Opn
namespace Go.Proofs.YtkahciadkgjbbaaDoor.partyTalks
open Go.RowKit Go.Proofs.YtkahciadkgjbbaaDoorW.PrintWords Go.Proofs.YtkahciadkgjbbaaDoorW.PrintLast Go.Proofs.YtkahciadkgjbbaaDoorW.PrintMore Go.Proofs.YtkahciadkgjbbaaDoor.QPty
set_option linter.unusedVariables false
def Pure : Prop := ∀ (x0 : (List Int)) (x1 : (List Int)) (x2 : Int) (x3 : Int), (x0.length ≤ maxLen ∧ x0.length * 8 ≤ 140737488351232 ∧ ∀ a ∈ x0, (Lit.int .i64 a).wf = true) → (x1.length ≤ maxLen ∧ x1.length * 8 ≤ 140737488351232 ∧ ∀ a ∈ x1, (Lit.int .i64 a).wf = true) → (Lit.int .i64 x2).wf = true → (Lit.int .i64 x3).wf = true → kissgatelaw16_PartyTalks.f x0 x1 x2 x3 = some true
end Go.Proofs.YtkahciadkgjbbaaDoor.partyTalks
namespace Go.Proofs.YtkahciadkgjbbaaDoor.partyTalks
open Go.RowKit Go.Proofs.YtkahciadkgjbbaaDoorW.PrintWords Go.Proofs.YtkahciadkgjbbaaDoorW.PrintLast Go.Proofs.YtkahciadkgjbbaaDoorW.PrintMore Go.Proofs.YtkahciadkgjbbaaDoor.QPty
theorem pure : Pure := fun _ _ _ _ _ _ _ _ => rfl
end Go.Proofs.YtkahciadkgjbbaaDoor.partyTalks
namespace Go.Proofs.YtkahciadkgjbbaaDoor.QPty
open Go.ChangeShapes Go.WideShapes Go.ChangeAt Go.RowKit
set_option linter.unusedVariables false
set_option linter.unusedSimpArgs false
abbrev laid1 : List (String × DataW Unit) := [("kissgate/appli.events", Rows.laid_kissgate_appli_events)]
theorem gNone : Tryd.prog.globalNamed "kissgate/appli.events" = some 0 := by kernel_rfl
theorem tNone : (Tryd.prog.globals[0]?).map (·.type) = some 122 := by kernel_rfl
theorem door_met (os : Os) (args : Array Value) : laidMetH Tryd.prog laid1 ((World.doorLaid Tryd.prog 400 os).forCall (fun _ _ => 0) ⟨#[], args, []⟩).memory :=
  laidMetH_of_parts3 (fuel := 8) (laidMet_of_run' 8 (by kernel_rfl) (by kernel_rfl)) (by kernel_rfl) (by kernel_rfl)
theorem list4 {α : Type} : ∀ {l : List α}, l.length = 4 → ∃ a b c d, l = [a, b, c, d]
  | [a, b, c, d], _ => ⟨a, b, c, d, rfl⟩
  | [], h => by simp at h
  | [_], h => by simp at h
  | [_, _], h => by simp at h
  | [_, _, _], h => by simp at h
  | _ :: _ :: _ :: _ :: _ :: _, h => by simp at h
set_option maxRecDepth 100000 in
theorem of_laid {W : World} (h : laidMetH Tryd.prog laid1 W) : EV W ∧ 0 < W.heap.size := by
  rw [MakeChecks.laidMetH_plain _ _ _ (by kernel_rfl)] at h
  obtain ⟨ps, ⟨g0, t0, cs0, f0, p0, q0, hg0, ht0, hv0, hd0, _, _⟩, _, _⟩ := h
  obtain rfl := Option.some.inj (gNone.symm.trans hg0)
  obtain rfl := Option.some.inj (tNone.symm.trans ht0)
  have hc := fun i => World.var?_cell hg0 hv0 i
  obtain ⟨xs, n, _, hx, hl, hxl, hel⟩ := DataW.trod_array Tryd.underlying122 hd0
  have c122 : Tryd.prog.cellsOf 122 = 4 := by kernel_rfl
  have c3 : Tryd.prog.cellsOf 3 = 1 := by kernel_rfl
  rw [c122] at hl
  obtain ⟨v0, v1, v2, v3, hcs⟩ := list4 hl
  obtain ⟨x0, x1, x2, x3, rfl⟩ := list4 hxl
  simp only [Prod.mk.injEq, List.map_cons, List.map_nil, Rows.laid_kissgate_appli_events, DataW.agg.injEq, List.cons.injEq, and_true] at hx
  obtain ⟨⟨e0, e1, e2, e3⟩, _⟩ := hx
  have h0 := (hel 0 (by decide)).trans (rfl : [x0, x1, x2, x3][0]? = some x0)
  rw [hcs, c3] at h0
  have h1 := (hel 1 (by decide)).trans (rfl : [x0, x1, x2, x3][1]? = some x1)
  rw [hcs, c3] at h1
  have h2 := (hel 2 (by decide)).trans (rfl : [x0, x1, x2, x3][2]? = some x2)
  rw [hcs, c3] at h2
  have h3 := (hel 3 (by decide)).trans (rfl : [x0, x1, x2, x3][3]? = some x3)
  rw [hcs, c3] at h3
  obtain ⟨k0, a0, b0, _⟩ := DataW.trod_int Tryd.underlying3 h0
  obtain ⟨k1, a1, b1, _⟩ := DataW.trod_int Tryd.underlying3 h1
  obtain ⟨k2, a2, b2, _⟩ := DataW.trod_int Tryd.underlying3 h2
  obtain ⟨k3, a3, b3, _⟩ := DataW.trod_int Tryd.underlying3 h3
  rw [b0] at e0
  rw [b1] at e1
  rw [b2] at e2
  rw [b3] at e3
  injection e0 with q0; injection q0 with _ q0
  injection e1 with q1; injection q1 with _ q1
  injection e2 with q2; injection q2 with _ q2
  injection e3 with q3; injection q3 with _ q3
  subst q0 q1 q2 q3
  have w0 : v0 = .int .i64 0 := (List.cons.inj a0).1
  have w1 : v1 = .int .i64 0 := (List.cons.inj a1).1
  have w2 : v2 = .int .i64 1 := (List.cons.inj a2).1
  have w3 : v3 = .int .i64 5 := (List.cons.inj a3).1
  have hj : ∀ j v, [v0, v1, v2, v3][j]? = some v → W.cell? ⟨0, j, none⟩ = some v := by
    intro j v h
    rw [hc j, ← h, ← hcs, Array.getElem?_toList]
  subst w0 w1 w2 w3
  exact ⟨⟨hj 0 _ rfl, hj 1 _ rfl, hj 2 _ rfl, hj 3 _ rfl⟩, World.block_lt_of_cell? W _ (hj 0 _ rfl)⟩
end Go.Proofs.YtkahciadkgjbbaaDoor.QPty
