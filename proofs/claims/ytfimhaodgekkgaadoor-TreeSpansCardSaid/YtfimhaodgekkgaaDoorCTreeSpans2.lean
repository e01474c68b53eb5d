/- Functions of the program as plain Lean functions, what their calls do, and what follows of it. Conditions: each theorem's own. -/
import Derived.Test.YtfimhaodgekkgaaDoorCTreeSpans1
namespace Go.Proofs.YtfimhaodgekkgaaDoor.QTre
open Go.RowKit Go.Proofs.YtfimhaodgekkgaaDoorW.PrintWords Go.Proofs.YtfimhaodgekkgaaDoorW.PrintLast Go.Proofs.YtfimhaodgekkgaaDoorW.PrintMore
open Go.Proofs.YtfimhaodgekkgaaDoor.Gen (Own Trn)
open Go.Proofs.YtfimhaodgekkgaaDoor.Pri (FitH roles bestOf role brid)
set_option linter.unusedVariables false
set_option linter.unusedSimpArgs false
structure St where
  code : Int
  ports : List S84
  best : S36
  root : Int
abbrev al0 : List S84 := List.replicate 2 port0
abbrev al1 : List S84 := al0.set 0 (setP port0 true 1)
abbrev al2 : List S84 := upd 5 0 al1
theorem alive2 : al2 = [⟨true, 1, none80, 0, ⟨2, 0, false⟩⟩, port0] := by rfl
theorem aliveB : bst 5 al1 = (⟨5, 0, 5, 0⟩, -1) := by rfl
theorem aliveP : tickP 5 2 [⟨true, 1, none80, 0, ⟨2, 0, false⟩⟩, port0] = [⟨true, 1, none80, 0, ⟨2, 0, false⟩⟩, port0] := by kernel_rfl
theorem aliveL : tickL 5 2 [⟨true, 1, none80, 0, ⟨2, 0, false⟩⟩, port0] (-1) = [⟨0, ⟨⟨5, 0, 5, 0⟩, 0, 2, false⟩⟩] := by kernel_rfl
theorem own_one47 {w : World} {base : Nat} {ok : Nat → Prop} {v : Value} {x : S47} (h : Kd.R k47 47 w base ok v [x]) : ∃ b c : Nat, v = .slice (some ⟨b, 0, none⟩) 1 c ∧ Own enc47 8 47 w b c [x] := by
  rcases Gen.Own.ofR (enc := enc47) (k := 8) enc47_len rfl (fun w base ok x cs h => k47_openM h) h with ⟨_, e⟩ | ⟨b, c, rfl, _, _, _, ho⟩
  · cases e
  · exact ⟨b, c, rfl, ho⟩
theorem fit_al0 : ∀ p ∈ List.replicate 2 port0, FitP p := by
  intro p hp
  rw [List.eq_of_mem_replicate hp]
  exact ⟨⟨by decide, by decide⟩, ⟨by decide, by decide⟩, ⟨by decide, by decide⟩⟩
abbrev alx : List S84 := [⟨true, 1, none80, 0, ⟨2, 0, false⟩⟩, port0]
theorem fit_alx : ∀ p ∈ alx, FitP p := by
  intro p hp
  simp only [alx, List.mem_cons, List.not_mem_nil, or_false] at hp
  rcases hp with rfl | rfl
  · exact ⟨⟨by decide, by decide⟩, ⟨by decide, by decide⟩, ⟨by decide, by decide⟩⟩
  · exact ⟨⟨by decide, by decide⟩, ⟨by decide, by decide⟩, ⟨by decide, by decide⟩⟩
set_option maxHeartbeats 4000000 in
set_option maxRecDepth 100000 in
theorem alive_calls (w : World) (hng : NG w) (h0 : 0 < w.heap.size) : Calls Tryd.prog 7 #[] w fun e w' => e = .returned (.bool true) ∧ Below w.heap.size w w' := by
  have e14 : ∀ args w, (callFunc 14 args).run Tryd.prog w = .ok (.enter 14 args) w := enters_of Tryd.func14 (by kernel_rfl) rfl
  have e15 : ∀ args w, (callFunc 15 args).run Tryd.prog w = .ok (.enter 15 args) w := enters_of Tryd.func15 (by kernel_rfl) rfl
  have e17 : ∀ args w, (callFunc 17 args).run Tryd.prog w = .ok (.enter 17 args) w := enters_of Tryd.func17 (by kernel_rfl) rfl
  have e20 : ∀ args w, (callFunc 20 args).run Tryd.prog w = .ok (.enter 20 args) w := enters_of Tryd.func20 (by kernel_rfl) rfl
  have hu36 := Tryd.underlying36
  have HN : Aside0 (Calls Tryd.prog 14 #[.int .i64 5, .int .i64 2] w fun e w' => ∃ g b cap : Nat, e = .returned (.pointer (some ⟨g, 0, none⟩)) ∧ Tre w' w.heap.size g b cap 5 (List.replicate 2 port0) ⟨5, 0, 5, 0⟩ (-1) (-1) ∧ Below w.heap.size w w') := ⟨new_ok 5 2 ⟨by decide, by decide⟩ (by decide) (by decide) (by decide) w hng h0⟩
  have HS : Aside0 (∀ (W : World) (g b cap : Nat), Below w.heap.size w W → Tre W w.heap.size g b cap 5 (List.replicate 2 port0) ⟨5, 0, 5, 0⟩ (-1) (-1) → Calls Tryd.prog 15 #[.pointer (some ⟨g, 0, none⟩), .int .i64 0, .bool true, .int .i64 1, .int .i64 0] W fun e w' => e = .returned (.int .i64 0) ∧ Tre w' w.heap.size g b cap 5 alx ⟨5, 0, 5, 0⟩ (-1) (-1) ∧ Trn w.heap.size w W (TF g b) (TF g b) w') := ⟨fun W g b cap hB ht => by
    have := set_ok w.heap.size g b cap 5 (List.replicate 2 port0) ⟨5, 0, 5, 0⟩ (-1) (-1) w W hB hB.size (hng.below hB h0) ht (by decide) fit_al0 0 (by decide) true 1 0 (by decide) (by decide)
    refine this.mono ?_
    rintro e w' ⟨h1, h2, h3⟩
    have h4 : Tre w' w.heap.size g b cap 5 al2 (bst 5 al1).1 (bst 5 al1).2 (-1) := h2
    rw [alive2, aliveB] at h4
    exact ⟨h1, h4, h3⟩⟩
  have HTK : Aside0 (∀ (W : World) (g b cap : Nat), Below w.heap.size w W → Tre W w.heap.size g b cap 5 alx ⟨5, 0, 5, 0⟩ (-1) (-1) → Calls Tryd.prog 17 #[.pointer (some ⟨g, 0, none⟩), .int .i64 2] W fun e w' => ∃ v, e = .returned v ∧ Kd.R k47 47 w' W.heap.size (fun _ => True) v [⟨0, ⟨⟨5, 0, 5, 0⟩, 0, 2, false⟩⟩] ∧ Tre w' w.heap.size g b cap 5 alx (tickB 5 2 alx).1 (tickB 5 2 alx).2 (tickC 5 2 alx (-1)) ∧ Trn w.heap.size w W (TF g b) (TF g b) w') := ⟨fun W g b cap hB ht => by
    have := tick_calls w.heap.size g b cap 5 alx ⟨5, 0, 5, 0⟩ (-1) (-1) 2 w W hB hB.size h0 hng ht (by decide) (by decide) fit_alx (by decide) (by decide)
    rw [aliveP, aliveL] at this
    exact this⟩
  clear hng h0
  go_enter Tryd.func7, Tryd.ntmps7
  go_wp2_with (first
    | (go_at_fn 14; refine HN.out.mono ?_; rintro e w1 ⟨g, b, cap, rfl, ht, hb⟩; have HT1 := Aside0.mk ht; have HB1 := Aside0.mk hb; clear ht hb)
    | (go_at_fn 15; refine (HS.out w1 g b cap HB1.out HT1.out).mono ?_; rintro e w2 ⟨rfl, ht, htn⟩; have HT2 := Aside0.mk ht; have HB2 := Aside0.mk htn.bel; clear ht htn)
    | (go_at_fn 17; refine (HTK.out w2 g b cap HB2.out HT2.out).mono ?_; rintro e w3 ⟨v3, rfl, hr3, ht, htn⟩; have HT3 := Aside0.mk ht; have HB3 := Aside0.mk htn.bel; obtain ⟨b3, c3, rfl, hO3⟩ : ∃ b3 c3 : Nat, v3 = .slice (some ⟨b3, 0, none⟩) 1 c3 ∧ Own enc47 8 47 w3 b3 c3 [⟨0, ⟨⟨5, 0, 5, 0⟩, 0, 2, false⟩⟩] := own_one47 hr3; have hz1 : w3.cell? ⟨b3, 1, none⟩ = some (.int .i64 5) := hO3.at_ enc47_len 0 1 (by decide) (by decide); have hz2 : w3.cell? ⟨b3, 2, none⟩ = some (.int .i64 0) := hO3.at_ enc47_len 0 2 (by decide) (by decide); have hz3 : w3.cell? ⟨b3, 3, none⟩ = some (.int .i64 5) := hO3.at_ enc47_len 0 3 (by decide) (by decide); have hz4 : w3.cell? ⟨b3, 4, none⟩ = some (.int .i64 0) := hO3.at_ enc47_len 0 4 (by decide) (by decide); clear ht htn hr3 hO3)
    | (go_at_fn 20; refine (role_calls HT3.out 0).mono ?_; rintro e w4 ⟨rfl, hb4⟩; have HB4 := Aside0.mk (below_step HB3.out hb4); clear hb4))
  go_ret
  exact ⟨rfl, HB4.out⟩
end Go.Proofs.YtfimhaodgekkgaaDoor.QTre
namespace Go.Proofs.YtfimhaodgekkgaaDoor.QSpn
open Go.RowKit Go.Proofs.YtfimhaodgekkgaaDoorW.PrintWords Go.Proofs.YtfimhaodgekkgaaDoorW.PrintLast Go.Proofs.YtfimhaodgekkgaaDoorW.PrintMore
open Go.Proofs.YtfimhaodgekkgaaDoor.Gen (Own)
set_option linter.unusedVariables false
set_option linter.unusedSimpArgs false
attribute [local go_sem] max2_int min2_int max_two min_two
def pstep (out : List Int) (l : S72) : List Int := (out.set l.f0.toNat (mn (out.getD l.f0.toNat 0) (out.getD l.f2.toNat 0))).set l.f2.toNat (mn (out.getD l.f0.toNat 0) (out.getD l.f2.toNat 0))
def pin (ls : List S72) (sm : List Bool) : Nat → List Int → List Int
  | 0, out => out
  | k + 1, out => if sm = [] ∨ sm.getD k false = true then pstep (pin ls sm k out) (ls.getD k z72) else pin ls sm k out
def base0 (n : Nat) : List Int := (List.range n).map Int.ofNat
def pout (n : Nat) (ls : List S72) (sm : List Bool) : Nat → List Int
  | 0 => base0 n
  | j + 1 => pin ls sm ls.length (pout n ls sm j)
def Joins (n : Nat) (ls : List S72) : Prop := ∀ k < ls.length, 0 ≤ (ls.getD k z72).f0 ∧ (ls.getD k z72).f0 < n ∧ 0 ≤ (ls.getD k z72).f2 ∧ (ls.getD k z72).f2 < n ∧ (ls.getD k z72).f0 ≠ (ls.getD k z72).f2
instance (n : Nat) (ls : List S72) : Decidable (Joins n ls) := by unfold Joins; exact inferInstance
def kissgatelaw12_parts.f (n : Int) (ls : List S72) (sm : List Bool) : Option (List Int) :=
  if 1 ≤ n ∧ n ≤ 8 ∧ ls.length ≤ 16 ∧ Joins n.toNat ls ∧ (sm = [] ∨ sm.length = ls.length) then some (pout n.toNat ls sm n.toNat) else none
theorem pstep_len (out : List Int) (l : S72) : (pstep out l).length = out.length := by simp [pstep]
theorem pin_len (ls : List S72) (sm : List Bool) (k : Nat) (out : List Int) : (pin ls sm k out).length = out.length := by
  induction k with
  | zero => rfl
  | succ k ih =>
    unfold pin
    split
    · rw [pstep_len, ih]
    · exact ih
theorem base0_len (n : Nat) : (base0 n).length = n := by simp [base0]
theorem pout_len (n : Nat) (ls : List S72) (sm : List Bool) (j : Nat) : (pout n ls sm j).length = n := by
  induction j with
  | zero => exact base0_len n
  | succ j ih => rw [pout, pin_len, ih]
def encI (x : Int) : List Value := [.int .i64 x]
theorem encI_len (x : Int) : (encI x).length = 1 := rfl
abbrev OwnI (w : World) (b cap : Nat) (xs : List Int) : Prop := Own encI 1 3 w b cap xs
theorem OwnI.at_ {w : World} {b cap : Nat} {xs : List Int} (h : OwnI w b cap xs) (i : Nat) (hi : i < xs.length) : w.cell? ⟨b, i, none⟩ = some (.int .i64 (xs.getD i 0)) := by
  have := Own.at_ h encI_len i 0 hi (by omega)
  rw [Nat.mul_one, Nat.add_zero] at this
  rw [this, List.getD_eq_getElem?_getD, List.getElem?_eq_getElem hi]
  rfl
theorem OwnI.put {w : World} {b cap : Nat} {xs : List Int} (h : OwnI w b cap xs) (i : Nat) (hi : i < xs.length) (v : Int) : OwnI (w.setCell ⟨b, i, none⟩ (.int .i64 v)) b cap (xs.set i v) := by
  have := Own.put h encI_len i 0 hi (by omega) v (.int .i64 v) rfl
  rw [Nat.mul_one, Nat.add_zero] at this
  exact this
theorem info3s : (Tryd.prog.info? 3).map (fun i => (i.zero, i.size, i.bytes)) = some (some (.int .i64 0), 1, 8) := by kernel_rfl
theorem atN_T72 {w : World} {A : Option Addr} {n : Nat} {xs : List S72} (h : Kd.C k72 w A n xs) (k : Nat) (hk : k < n) : ∃ ad , A = some ad ∧ w.cell? (ad.add (k * 6)) = some (.int .i64 (xs.getD k z72).f0) ∧ w.cell? ⟨(ad.add (k * 6)).block, (ad.add (k * 6)).off + 1, none⟩ = some (.int .i64 (xs.getD k z72).f1) ∧ w.cell? ⟨(ad.add (k * 6)).block, (ad.add (k * 6)).off + 2, none⟩ = some (.int .i64 (xs.getD k z72).f2) ∧ w.cell? ⟨(ad.add (k * 6)).block, (ad.add (k * 6)).off + 3, none⟩ = some (.int .i64 (xs.getD k z72).f3) ∧ w.cell? ⟨(ad.add (k * 6)).block, (ad.add (k * 6)).off + 4, none⟩ = some (.int .i64 (xs.getD k z72).f4) ∧ w.cell? ⟨(ad.add (k * 6)).block, (ad.add (k * 6)).off + 5, none⟩ = some (.int .i64 (xs.getD k z72).f5) := by
  have := at_T72 h (k : Int) (by omega) (by omega)
  rw [Int.toNat_natCast] at this
  exact this
abbrev lay6 (W : World) (gb : Nat) (v0 v1 v2 v3 v4 v5 : Value) : World := ((((((W.setCell ⟨gb, 0, none⟩ v0).setCell ⟨gb, 1, none⟩ v1).setCell ⟨gb, 2, none⟩ v2).setCell ⟨gb, 3, none⟩ v3).setCell ⟨gb, 4, none⟩ v4).setCell ⟨gb, 5, none⟩ v5)
theorem lay6_blk {W : World} {gb : Nat} (v0 v1 v2 v3 v4 v5 : Value) (h : W.heap[gb]? = some (.cells #[.int .i64 0, .int .i64 0, .int .i64 0, .int .i64 0, .int .i64 0, .int .i64 0] 72 (0, 0))) : (lay6 W gb v0 v1 v2 v3 v4 v5).heap[gb]? = some (.cells #[v0, v1, v2, v3, v4, v5] 72 (0, 0)) := by
  refine blk_put (cs := #[v0, v1, v2, v3, v4, .int .i64 0]) ?_ 5 _ rfl
  refine blk_put (cs := #[v0, v1, v2, v3, .int .i64 0, .int .i64 0]) ?_ 4 _ rfl
  refine blk_put (cs := #[v0, v1, v2, .int .i64 0, .int .i64 0, .int .i64 0]) ?_ 3 _ rfl
  refine blk_put (cs := #[v0, v1, .int .i64 0, .int .i64 0, .int .i64 0, .int .i64 0]) ?_ 2 _ rfl
  refine blk_put (cs := #[v0, .int .i64 0, .int .i64 0, .int .i64 0, .int .i64 0, .int .i64 0]) ?_ 1 _ rfl
  refine blk_put (cs := #[.int .i64 0, .int .i64 0, .int .i64 0, .int .i64 0, .int .i64 0, .int .i64 0]) ?_ 0 _ rfl
  exact h
theorem lay6_bel {w W : World} {gb : Nat} (v0 v1 v2 v3 v4 v5 : Value) (h : Below w.heap.size w W) (hg : w.heap.size ≤ gb) : Below w.heap.size w (lay6 W gb v0 v1 v2 v3 v4 v5) := (below_set (below_set (below_set (below_set (below_set (below_set h hg) hg) hg) hg) hg) hg)
theorem nat_step (i : Nat) (h : i < 1000000) : wrap64 ((i : Int) + 1) = ((i + 1 : Nat) : Int) := by rw [IntWalk.wrap64_in _ (by omega)]; omega
theorem base0_succ (i : Nat) : base0 (i + 1) = base0 i ++ [(i : Int)] := by simp [base0, List.range_succ]
set_option maxHeartbeats 8000000 in
set_option maxRecDepth 100000 in
theorem kissgatelaw12_parts.calls (n : Int) (A1 : Option Addr) (c1 : Nat) (ls : List S72) (A2 : Option Addr) (c2 : Nat) (sm : List Bool) (r : List Int) (w : World)
    (hr1 : Kd.C k72 w A1 ls.length ls) (hc1 : ls.length ≤ c1) (hr2 : Kd.C Kd.bool w A2 sm.length sm) (hc2 : sm.length ≤ c2)
    (hn2 : sm = [] → ls = [] ∨ (A2 = none ∧ c2 = 0)) (h : kissgatelaw12_parts.f n ls sm = some r) :
    Calls Tryd.prog 10 #[.int .i64 n, .slice A1 ls.length c1, .slice A2 sm.length c2] w fun e w' => ∃ v0_ : Value, e = .returned v0_ ∧ Kd.R (Kd.int .i64) 3 w' w.heap.size (fun _ => True) v0_ r ∧ Below w.heap.size w w' := by
  unfold kissgatelaw12_parts.f at h
  split at h
  case isFalse => cases h
  case isTrue hyp =>
  obtain ⟨h1, h8, h16, hj, hs⟩ := hyp
  obtain ⟨m, rfl⟩ := Int.eq_ofNat_of_zero_le (show 0 ≤ n by omega)
  rw [Int.toNat_natCast] at h hj
  injection h with h
  subst h
  have HJ := Aside0.mk hj
  have HS := Aside0.mk hs
  have HR1 := Aside0.mk hr1
  have HR2 := Aside0.mk hr2
  have HN2 := Aside0.mk hn2
  have HC2 := Aside0.mk hc2
  have hm1 : 1 ≤ m := by omega
  have hm8 : m ≤ 8 := by omega
  clear hj hs hr1 hr2 hn2 hc1 hc2 h1 h8
  have hu72 := Tryd.underlying72
  have HM := Aside0.mk (And.intro hm1 (And.intro hm8 h16))
  clear hm1 hm8 h16
  go_enter Tryd.func10, Tryd.ntmps10
  go_wp2
  go_loopg [7, 8] m (fun gk s7 s8 wr => ∃ i : Nat, s8 = .int .i64 i ∧ i ≤ m ∧ m - i ≤ gk ∧ Aside0 (Kd.R (Kd.int .i64) 3 wr w.heap.size (fun _ => True) s7 (base0 i)) ∧ Aside0 (Below w.heap.size w wr))
  case atStart => exact ⟨0, rfl, Nat.zero_le _, by omega, ⟨Kd.R_nil _ _ _ _ _⟩, ⟨Below.refl _ _⟩⟩
  case round =>
    obtain ⟨i, rfl, hil, hgk, HO, HB⟩ := hrel
    by_cases hlt : i < m
    · have hlz : (i : Int) < (m : Int) := by omega
      have HLL := Aside0.mk (show ((base0 i).length + 1) * 8 ≤ 140737488355328 by rw [base0_len]; have := HM.out; omega)
      have HST := Aside0.mk (base0_succ i)
      generalize base0 i = Q at HO HLL HST
      go_wp2_with (first | ((with_reducible refine gate_builtin (b := .append) (xs := #[.tmp 17, .tmp 19]) rfl ?_); at_builtin; refine Kd.R_append (Kd.int .i64) (w0 := w) w.heap.size rfl (.tmp 17) (.tmp 19) 22 3 (.int .i64 0) 8 rfl Tryd.underlying22 info3s rfl (by decide) (by decide) u7 Q (i : Int) [.int .i64 (i : Int)] (fun _ => True) (fun _ => False) rfl rfl ?aP (fun _ hk => hk.elim) ?aF ?aO ?aB ?aS ?aL ?_; (case aP => exact rfl); (case aB => exact (by repeat (first | (with_reducible first | exact HB.out | apply below_alloc | apply pw_below_drewN | apply below_drew1) | exact HB.out))); (case aF => exact (fun _ _ => trivial)); (case aO => exact (by (with_reducible repeat (first | apply Kd.R_alloc | apply Kd.R_drewN | apply Kd.R_drew)); exact HO.out)); (case aS => exact (below_size (by repeat (first | (with_reducible first | exact HB.out | apply below_alloc | apply pw_below_drewN | apply below_drew1) | exact HB.out)))); (case aL => have := HLL.out; omega); intro v2 w2 ho hb hg hat; have HO9 := Aside0.mk ho; have HB9 := Aside0.mk hb; clear ho hb hg hat))
      go_roundg (m - (i + 1))
      case measure => omega
      case rel => exact ⟨i + 1, by have := HM.out; rw [nat_step _ (by omega)], by omega, Nat.le_refl _, ⟨by rw [HST.out]; exact HO9.out⟩, HB9⟩
    · have e : i = m := by omega
      subst e
      rcases Gen.Own.ofR (enc := encI) (k := 1) encI_len rfl (fun w base ok x cs h => h) HO.out with ⟨_, e⟩ | ⟨b, cap, rfl, hbok, hbb, hcap, hown⟩
      · have : (base0 i).length = 0 := by rw [e]; rfl
        rw [base0_len] at this
        have := HM.out
        omega
      · rw [base0_len]
        have HW := Aside0.mk hown
        clear hown HO
        go_wp2
        go_loopg [22] i (fun gk s22 wr => ∃ j : Nat, s22 = .int .i64 j ∧ j ≤ i ∧ i - j ≤ gk ∧ Aside0 (OwnI wr b cap (pout i ls sm j)) ∧ Aside0 (Below w.heap.size w wr))
        case atStart => exact ⟨0, rfl, Nat.zero_le _, by omega, HW, HB⟩
        case round =>
          clear HB HW hgk
          obtain ⟨j, rfl, hjl, hgk, HO, HB⟩ := hrel
          by_cases hlt2 : j < i
          · have hlz : (j : Int) < (i : Int) := by omega
            have HPL := Aside0.mk (pout_len i ls sm j)
            have HPE := Aside0.mk (show pout i ls sm (j + 1) = pin ls sm ls.length (pout i ls sm j) from rfl)
            generalize pout i ls sm j = O at HO HPL HPE
            go_wp2
            go_loopg [26] ls.length (fun gk s26 wr => ∃ k : Nat, s26 = .int .i64 k ∧ k ≤ ls.length ∧ ls.length - k ≤ gk ∧ Aside0 (OwnI wr b cap (pin ls sm k O)) ∧ Aside0 (Below w.heap.size w wr))
            case atStart => exact ⟨0, rfl, Nat.zero_le _, by omega, HO, HB⟩
            case round =>
              clear HB HO
              obtain ⟨k, rfl, hkl, hgk, HO, HB⟩ := hrel
              by_cases hlt3 : k < ls.length
              · have hkz : (k : Int) < (ls.length : Int) := by omega
                have HQL := Aside0.mk (show (pin ls sm k O).length = i by rw [pin_len, HPL.out])
                have HQE := Aside0.mk (show pin ls sm (k + 1) O = if sm = [] ∨ sm.getD k false = true then pstep (pin ls sm k O) (ls.getD k z72) else pin ls sm k O from rfl)
                generalize pin ls sm k O = Q at HO HQL HQE
                obtain ⟨j0, j1, j2, j3, j4⟩ := HJ.out k hlt3
                obtain ⟨ad, rfl, hx0, hx1, hx2, hx3, hx4, hx5⟩ := atN_T72 HR1.out k hlt3
                replace hx0 := (HB.out.cell (World.block_lt_of_cell? w _ hx0)).trans hx0
                replace hx1 := (HB.out.cell (World.block_lt_of_cell? w _ hx1)).trans hx1
                replace hx2 := (HB.out.cell (World.block_lt_of_cell? w _ hx2)).trans hx2
                replace hx3 := (HB.out.cell (World.block_lt_of_cell? w _ hx3)).trans hx3
                replace hx4 := (HB.out.cell (World.block_lt_of_cell? w _ hx4)).trans hx4
                replace hx5 := (HB.out.cell (World.block_lt_of_cell? w _ hx5)).trans hx5
                generalize ls.getD k z72 = x at HQE j0 j1 j2 j3 j4 hx0 hx1 hx2 hx3 hx4 hx5
                obtain ⟨v0, v1, v2, v3, v4, v5⟩ := x
                dsimp only at j0 j1 j2 j3 j4 hx0 hx1 hx2 hx3 hx4 hx5
                obtain ⟨x, rfl⟩ := Int.eq_ofNat_of_zero_le j0
                obtain ⟨y, rfl⟩ := Int.eq_ofNat_of_zero_le j2
                have hxi : x < i := by omega
                have hyi : y < i := by omega
                have hxy : ¬ (x = y) := by omega
                have hyx : ¬ (y = x) := by omega
                clear j0 j2 j4
                go_upto_region 11 with ((with_reducible refine gate_dst (N := 10) rfl ?_); refine box_event ?hg (N := 10) ?hd (cs := #[.int .i64 0, .int .i64 0, .int .i64 0, .int .i64 0, .int .i64 0, .int .i64 0]) (t := 72) ?hr ?_; (case hd => rfl); (case hg => rfl); (case hr => first | (go_simp; done) | (go_simp; rfl)); intro gb hg w4 hbox hb; have hcz0 : w4.cell? ⟨gb, 0, none⟩ = some (.int .i64 0) := (blk_cell hbox 0).trans rfl; have hfz0 := blk_frozen hbox 0; have hcz1 : w4.cell? ⟨gb, 1, none⟩ = some (.int .i64 0) := (blk_cell hbox 1).trans rfl; have hfz1 := blk_frozen hbox 1; have hcz2 : w4.cell? ⟨gb, 2, none⟩ = some (.int .i64 0) := (blk_cell hbox 2).trans rfl; have hfz2 := blk_frozen hbox 2; have hcz3 : w4.cell? ⟨gb, 3, none⟩ = some (.int .i64 0) := (blk_cell hbox 3).trans rfl; have hfz3 := blk_frozen hbox 3; have hcz4 : w4.cell? ⟨gb, 4, none⟩ = some (.int .i64 0) := (blk_cell hbox 4).trans rfl; have hfz4 := blk_frozen hbox 4; have hcz5 : w4.cell? ⟨gb, 5, none⟩ = some (.int .i64 0) := (blk_cell hbox 5).trans rfl; have hfz5 := blk_frozen hbox 5; have BX := Aside0.mk hbox; have KX := Aside0.mk hb; have HGB := Aside0.mk hg; clear hbox hb hg)
                have B5 : Below wr.heap.size wr ((((((w4.setCell ⟨gb, 0, none⟩ (.int .i64 x)).setCell ⟨gb, 1, none⟩ (.int .i64 v1)).setCell ⟨gb, 2, none⟩ (.int .i64 y)).setCell ⟨gb, 3, none⟩ (.int .i64 v3)).setCell ⟨gb, 4, none⟩ (.int .i64 v4)).setCell ⟨gb, 5, none⟩ (.int .i64 v5)) := lay6_bel _ _ _ _ _ _ KX.out (Nat.le_of_eq HGB.out.symm)
                have X5 : ((((((w4.setCell ⟨gb, 0, none⟩ (.int .i64 x)).setCell ⟨gb, 1, none⟩ (.int .i64 v1)).setCell ⟨gb, 2, none⟩ (.int .i64 y)).setCell ⟨gb, 3, none⟩ (.int .i64 v3)).setCell ⟨gb, 4, none⟩ (.int .i64 v4)).setCell ⟨gb, 5, none⟩ (.int .i64 v5)).heap[gb]? = some (.cells #[.int .i64 x, .int .i64 v1, .int .i64 y, .int .i64 v3, .int .i64 v4, .int .i64 v5] 72 (0, 0)) := lay6_blk _ _ _ _ _ _ BX.out
                generalize ((((((w4.setCell ⟨gb, 0, none⟩ (.int .i64 x)).setCell ⟨gb, 1, none⟩ (.int .i64 v1)).setCell ⟨gb, 2, none⟩ (.int .i64 y)).setCell ⟨gb, 3, none⟩ (.int .i64 v3)).setCell ⟨gb, 4, none⟩ (.int .i64 v4)).setCell ⟨gb, 5, none⟩ (.int .i64 v5)) = w5 at B5 X5 ⊢
                have hp0 : w5.cell? ⟨gb, 0, none⟩ = some (.int .i64 x) := (blk_cell X5 0).trans rfl
                have hp2 : w5.cell? ⟨gb, 2, none⟩ = some (.int .i64 y) := (blk_cell X5 2).trans rfl
                have hO5 : OwnI w5 b cap Q := HO.out.below B5
                have hbl : b < wr.heap.size := HO.out.lt
                have hgg : gb = wr.heap.size := HGB.out
                have hn1 : ¬ (gb = b) := by omega
                have hn2 : ¬ (b = gb) := by omega
                have hxQ : x < Q.length := by rw [HQL.out]; exact hxi
                have hyQ : y < Q.length := by rw [HQL.out]; exact hyi
                have hcx := hO5.at_ x hxQ
                have hcy := hO5.at_ y hyQ
                have hfx := hO5.fz x
                have hfy := hO5.fz y
                have HB5 := Aside0.mk (below_step HB.out B5)
                have HPUT := Aside0.mk (fun (W : World) (hb : Below w5.heap.size w5 W) (v : Int) => OwnI.put (OwnI.put (hO5.below hb) x hxQ v) y (by rw [List.length_set]; exact hyQ) v)
                have HBW := Aside0.mk (fun (W : World) (hb : Below w5.heap.size w5 W) (u v : Value) => below_set (below_set (below_step HB5.out hb) hbb (j := x) (v := u)) hbb (j := y) (v := v))
                have HPS := Aside0.mk (show pstep Q ⟨x, v1, y, v3, v4, v5⟩ = (Q.set x (mn (Q.getD x 0) (Q.getD y 0))).set y (mn (Q.getD x 0) (Q.getD y 0)) from rfl)
                generalize Q.getD x 0 = p at hcx HPS
                generalize Q.getD y 0 = q at hcy HPS
                have HO5 := Aside0.mk hO5
                clear hcz0 hfz0 hcz1 hfz1 hcz2 hfz2 hcz3 hfz3 hcz4 hfz4 hcz5 hfz5 BX KX HGB hx0 hx1 hx2 hx3 hx4 hx5 B5 X5 hO5 HO HB hgg hbl
                have key : (sm = []) ∨ (sm ≠ [] ∧ sm.getD k false = true) ∨ (sm ≠ [] ∧ sm.getD k false = false) := by
                  by_cases e : sm = []
                  · exact .inl e
                  · rcases Bool.eq_false_or_eq_true (sm.getD k false) with h | h
                    · exact .inr (.inl ⟨e, h⟩)
                    · exact .inr (.inr ⟨e, h⟩)
                rcases key with e | ⟨e, e2⟩ | ⟨e, e2⟩
                · have hE : pin ls sm (k + 1) O = pstep Q ⟨x, v1, y, v3, v4, v5⟩ := by rw [HQE.out, if_pos (.inl e)]
                  have HE := Aside0.mk hE
                  rcases HN2.out e with e3 | ⟨rfl, rfl⟩
                  · rw [e3] at hlt3
                    exact absurd hlt3 (Nat.not_lt_zero _)
                  · subst e
                    clear hE
                    have hnil : ∀ W, (binOp .eql 26 (.slice none 0 0) (.slice none 0 0)).run Tryd.prog W = .ok (.bool true) W := fun W => Lib.run_eql_slice_nil W 26 4 none 0 0 0 0 Tryd.underlying26
                    rcases Int.lt_or_le q p with hmn | hmn
                    · have hv : mn p q = q := if_pos hmn
                      rw [hv] at HPS
                      clear hv
                      go_wp2_with fail
                      go_quiet (fail)
                      go_wp2_with fail
                      go_roundg (ls.length - (k + 1))
                      case measure => omega
                      case rel => exact ⟨k + 1, by have := HM.out; rw [nat_step _ (by omega)], by omega, Nat.le_refl _, ⟨by rw [HE.out, HPS.out]; exact HPUT.out _ (pw_below_drewN (Below.refl _ _) _) _⟩, ⟨HBW.out _ (pw_below_drewN (Below.refl _ _) _) _ _⟩⟩
                    · have hv : mn p q = p := if_neg (Int.not_lt.mpr hmn)
                      rw [hv] at HPS
                      have hmn2 : ¬ q < p := Int.not_lt.mpr hmn
                      clear hv hmn
                      go_wp2_with fail
                      go_quiet (fail)
                      go_wp2_with fail
                      go_roundg (ls.length - (k + 1))
                      case measure => omega
                      case rel => exact ⟨k + 1, by have := HM.out; rw [nat_step _ (by omega)], by omega, Nat.le_refl _, ⟨by rw [HE.out, HPS.out]; exact HPUT.out _ (pw_below_drewN (Below.refl _ _) _) _⟩, ⟨HBW.out _ (pw_below_drewN (Below.refl _ _) _) _ _⟩⟩
                · obtain ⟨ad2, rfl, hy⟩ := Kd.at_bool HR2.out (k : Int) (by omega) (by have := (HS.out.resolve_left e); omega)
                  have hE : pin ls sm (k + 1) O = pstep Q ⟨x, v1, y, v3, v4, v5⟩ := by rw [HQE.out, if_pos (.inr e2)]
                  have HE := Aside0.mk hE
                  have hkl2 : (k : Int) < (sm.length : Int) := by have := (HS.out.resolve_left e); omega
                  rw [Int.toNat_natCast, show rdOf false sm (k : Int) = true by simpa [rdOf] using e2] at hy
                  replace hy := pw_cell_below HB5.out hy
                  have hnn : ∀ W, (binOp .eql 26 (.slice (some ad2) sm.length c2) (.slice none 0 0)).run Tryd.prog W = .ok (.bool false) W := fun W => Lib.run_eql_slice_nil W 26 4 (some ad2) sm.length c2 0 0 Tryd.underlying26
                  clear hE e2
                  rcases Int.lt_or_le q p with hmn | hmn
                  · have hv : mn p q = q := if_pos hmn
                    rw [hv] at HPS
                    clear hv
                    go_wp2_with fail
                    go_quiet (fail)
                    go_wp2_with fail
                    go_roundg (ls.length - (k + 1))
                    case measure => omega
                    case rel => exact ⟨k + 1, by have := HM.out; rw [nat_step _ (by omega)], by omega, Nat.le_refl _, ⟨by rw [HE.out, HPS.out]; exact HPUT.out _ (pw_below_drewN (Below.refl _ _) _) _⟩, ⟨HBW.out _ (pw_below_drewN (Below.refl _ _) _) _ _⟩⟩
                  · have hv : mn p q = p := if_neg (Int.not_lt.mpr hmn)
                    rw [hv] at HPS
                    have hmn2 : ¬ q < p := Int.not_lt.mpr hmn
                    clear hv hmn
                    go_wp2_with fail
                    go_quiet (fail)
                    go_wp2_with fail
                    go_roundg (ls.length - (k + 1))
                    case measure => omega
                    case rel => exact ⟨k + 1, by have := HM.out; rw [nat_step _ (by omega)], by omega, Nat.le_refl _, ⟨by rw [HE.out, HPS.out]; exact HPUT.out _ (pw_below_drewN (Below.refl _ _) _) _⟩, ⟨HBW.out _ (pw_below_drewN (Below.refl _ _) _) _ _⟩⟩
                · obtain ⟨ad2, rfl, hy⟩ := Kd.at_bool HR2.out (k : Int) (by omega) (by have := (HS.out.resolve_left e); omega)
                  have hE : pin ls sm (k + 1) O = Q := by rw [HQE.out, if_neg (by rintro (h | h); exact e h; rw [e2] at h; cases h)]
                  have HE := Aside0.mk hE
                  have hkl2 : (k : Int) < (sm.length : Int) := by have := (HS.out.resolve_left e); omega
                  rw [Int.toNat_natCast, show rdOf false sm (k : Int) = false by simpa [rdOf] using e2] at hy
                  replace hy := pw_cell_below HB5.out hy
                  have hnn : ∀ W, (binOp .eql 26 (.slice (some ad2) sm.length c2) (.slice none 0 0)).run Tryd.prog W = .ok (.bool false) W := fun W => Lib.run_eql_slice_nil W 26 4 (some ad2) sm.length c2 0 0 Tryd.underlying26
                  clear hE e2
                  go_wp2_with fail
                  go_roundg (ls.length - (k + 1))
                  case measure => omega
                  case rel => exact ⟨k + 1, by have := HM.out; rw [nat_step _ (by omega)], by omega, Nat.le_refl _, ⟨by rw [HE.out]; exact HO5.out⟩, HB5⟩
              · have e : k = ls.length := by omega
                subst e
                go_wp2
                go_roundg (i - (j + 1))
                case measure => omega
                case rel => exact ⟨j + 1, by have := HM.out; rw [nat_step _ (by omega)], by omega, Nat.le_refl _, ⟨by rw [HPE.out]; exact HO.out⟩, HB⟩
          · have e : j = i := by omega
            subst e
            go_wp2
            go_ret
            have hL := pout_len j ls sm j
            have hR := HO.out.toR (d := Kd.int .i64) (base := w.heap.size) (ok := fun _ => True) encI_len rfl (fun w base ok x => rfl) hbb trivial hcap
            rw [hL] at hR
            exact ⟨_, rfl, hR, HB.out⟩
theorem parts_nil.calls (n : Int) (A1 : Option Addr) (c1 : Nat) (ls : List S72) (r : List Int) (w : World) (hr1 : Kd.C k72 w A1 ls.length ls) (hc1 : ls.length ≤ c1) (h : kissgatelaw12_parts.f n ls [] = some r) :
    Calls Tryd.prog 10 #[.int .i64 n, .slice A1 ls.length c1, .slice none 0 0] w fun e w' => ∃ v0_ : Value, e = .returned v0_ ∧ Kd.R (Kd.int .i64) 3 w' w.heap.size (fun _ => True) v0_ r ∧ Below w.heap.size w w' :=
  kissgatelaw12_parts.calls n A1 c1 ls none 0 [] r w hr1 hc1 (Kd.C_nil _ _) (Nat.le_refl _) (fun _ => .inr ⟨rfl, rfl⟩) h
end Go.Proofs.YtfimhaodgekkgaaDoor.QSpn
namespace Go.Proofs.YtfimhaodgekkgaaDoor.QSpn
open Go.RowKit Go.Proofs.YtfimhaodgekkgaaDoorW.PrintWords Go.Proofs.YtfimhaodgekkgaaDoorW.PrintLast Go.Proofs.YtfimhaodgekkgaaDoorW.PrintMore
open Go.Proofs.YtfimhaodgekkgaaDoor.Gen (Own)
set_option linter.unusedVariables false
set_option linter.unusedSimpArgs false
def brd (id : Int) : Bool := (QTre.kissgateref08_Bridge.f id).getD false
theorem brd_some (id : Int) : QTre.kissgateref08_Bridge.f id = some (brd id) := by
  have hM : ∀ a, ∃ b, QTre.kissgateref02_Many.f a = some b := by
    intro a
    unfold QTre.kissgateref02_Many.f QTre.kissgateref02_Good.f
    split <;> (simp only [Option.bind_some]; split <;> exact ⟨_, rfl⟩)
  obtain ⟨b, hb⟩ : ∃ b, QTre.kissgateref08_Bridge.f id = some b := by
    unfold QTre.kissgateref08_Bridge.f
    split
    · exact ⟨_, rfl⟩
    · split
      · exact ⟨_, rfl⟩
      · obtain ⟨b, hb⟩ := hM (Int.tmod id 281474976710656)
        rw [hb, Option.bind_some]
        exact ⟨_, rfl⟩
  rw [brd, hb]
  rfl
def endA (l : S72) : Nat := l.f0.toNat * 6 + l.f1.toNat
def endB (l : S72) : Nat := l.f2.toNat * 6 + l.f3.toNat
def takenB (ls : List S72) : Nat → Nat → Bool
  | 0, _ => false
  | k + 1, q => (takenB ls k q || q == endA (ls.getD k z72)) || q == endB (ls.getD k z72)
def LinkOk (n : Nat) (l : S72) : Prop := 0 ≤ l.f0 ∧ l.f0 < n ∧ 0 ≤ l.f2 ∧ l.f2 < n ∧ l.f0 ≠ l.f2 ∧ 0 ≤ l.f1 ∧ l.f1 ≤ 5 ∧ 0 ≤ l.f3 ∧ l.f3 ≤ 5 ∧ 1 ≤ l.f4 ∧ l.f4 ≤ 1048576 ∧ 1 ≤ l.f5 ∧ l.f5 ≤ 1048576
def IdOk (ids : List Int) (i : Nat) : Prop := brd (ids.getD i 0) = true ∧ ∀ j < i, ids.getD j 0 ≠ ids.getD i 0
def EndOk (n : Nat) (ls : List S72) (k : Nat) : Prop := LinkOk n (ls.getD k z72) ∧ takenB ls k (endA (ls.getD k z72)) = false ∧ takenB ls k (endB (ls.getD k z72)) = false
def FitsP (ids : List Int) (ls : List S72) : Prop := 1 ≤ ids.length ∧ ids.length ≤ 8 ∧ ls.length ≤ 16 ∧ (∀ i < ids.length, IdOk ids i) ∧ ∀ k < ls.length, EndOk ids.length ls k
instance (n : Nat) (l : S72) : Decidable (LinkOk n l) := by unfold LinkOk; exact inferInstance
instance (ids : List Int) (i : Nat) : Decidable (IdOk ids i) := by unfold IdOk; exact inferInstance
instance (n : Nat) (ls : List S72) (k : Nat) : Decidable (EndOk n ls k) := by unfold EndOk; exact inferInstance
instance (ids : List Int) (ls : List S72) : Decidable (FitsP ids ls) := by unfold FitsP; exact inferInstance
def fitsB (ids : List Int) (ls : List S72) : Bool := decide (FitsP ids ls)
def kissgatelaw12_fits.f (ids : List Int) (ls : List S72) : Option Bool := some (fitsB ids ls)
theorem fitsB_true {ids : List Int} {ls : List S72} : fitsB ids ls = true ↔ FitsP ids ls := by unfold fitsB; exact decide_eq_true_iff
theorem fitsB_false {ids : List Int} {ls : List S72} (h : ¬ FitsP ids ls) : fitsB ids ls = false := by unfold fitsB; exact decide_eq_false h
def used48 (T : Nat → Bool) : Array Value := ((List.range 48).map fun q => Value.bool (T q)).toArray
theorem used48_at (T : Nat → Bool) (q : Nat) (h : q < 48) : (used48 T)[q]? = some (.bool (T q)) := by
  simp [used48, h]
theorem used48_put (T : Nat → Bool) (q : Nat) : (used48 T).setIfInBounds q (.bool true) = used48 (fun x => T x || x == q) := by
  apply Array.ext_getElem?
  intro j
  rw [Array.getElem?_setIfInBounds]
  by_cases hj : j < 48
  · rw [used48_at _ _ hj, used48_at _ _ hj]
    by_cases e : q = j
    · subst e
      simp [used48, hj]
    · have : (j == q) = false := by simpa using fun h => e h.symm
      simp [e, this]
  · have h1 : ∀ T, (used48 T)[j]? = none := fun T => by simp [used48]; omega
    rw [h1, h1]
    simp [used48]
    omega
theorem info70 : (Tryd.prog.info? 70).map (·.size) = some (used48 (fun _ => false)).size := by kernel_rfl
theorem all48 : (used48 (fun _ => false)).all (·.oneCell') = true := by kernel_rfl
theorem setRow_same {w : World} {g : Nat} {t : TypeId} {cs : Array Value} (h : w.heap[g]? = some (.cells cs t (0, 0))) : w.setRow g cs = w := by
  have e : (w.setRow g cs).heap = w.heap := by
    apply Array.ext_getElem?
    intro i
    by_cases hi : i = g
    · subst hi
      rw [setRow_heap w i cs cs t (0, 0) h, h]
    · exact setRow_other w g i cs hi
  show ({ w with heap := (w.setRow g cs).heap } : World) = w
  rw [e]
theorem cellFarS {W : World} {g b i j : Nat} {x v : Value} (h : W.cell? ⟨g, j, none⟩ = some x) (ne : g ≠ b) : (W.setCell ⟨b, i, none⟩ v).cell? ⟨g, j, none⟩ = some x := by
  have e : (W.setCell ⟨b, i, none⟩ v).heap[g]? = W.heap[g]? := Below.heap_setCell W _ v g (fun e => ne e)
  rw [← h]
  unfold World.cell?
  rw [e]
theorem cell_drewS {W : World} {p : Addr} {x : Value} (h : W.cell? p = some x) : W.drew.cell? p = some x := h
theorem cell_drewNS {W : World} {p : Addr} {x : Value} (n : Nat) (h : W.cell? p = some x) : (W.drewN n).cell? p = some x := pw_cell_below (pw_below_drewN (Below.refl _ _) _) h
theorem blk_dN {W : World} {g : Nat} {cs : Array Value} {t : TypeId} (h : W.heap[g]? = some (.cells cs t (0, 0))) (n : Nat) : (W.drewN n).heap[g]? = some (.cells cs t (0, 0)) := ((pw_below_drewN (Below.refl W.heap.size W) n).block g (blk_lt h)).trans h
theorem rbr_calls (id : Int) (w : World) : Calls Tryd.prog 13 #[.int .i64 id] w fun e w' => e = .returned (.bool (brd id)) ∧ Below w.heap.size w w' := by
  refine (QTre.kissgateref08_Bridge.calls id (brd id) w (brd_some id)).mono ?_
  rintro e w' ⟨rfl, h2⟩
  exact ⟨rfl, h2.below⟩
set_option maxHeartbeats 8000000 in
set_option maxRecDepth 100000 in
theorem kissgatelaw12_fits.calls (A0 : Option Addr) (c0 : Nat) (l0 : List Int) (A1 : Option Addr) (c1 : Nat) (ls : List S72) (r : Bool) (w : World)
    (hr0 : Kd.C (Kd.int .i64) w A0 l0.length l0) (hc0 : l0.length ≤ c0) (hr1 : Kd.C k72 w A1 ls.length ls) (hc1 : ls.length ≤ c1)
    (h : kissgatelaw12_fits.f l0 ls = some r) :
    Calls Tryd.prog 8 #[.slice A0 l0.length c0, .slice A1 ls.length c1] w fun e w' => e = .returned (.bool r) ∧ Below w.heap.size w w' := by
  injection h with h
  subst h
  have HR0 := Aside0.mk hr0
  have HR1 := Aside0.mk hr1
  have HC0 := Aside0.mk hc0
  clear hr0 hr1 hc1 hc0
  have hu72 := Tryd.underlying72
  have e13 : ∀ args w, (callFunc 13 args).run Tryd.prog w = .ok (.enter 13 args) w := enters_of Tryd.func13 (by kernel_rfl) rfl
  have key : (decide ((l0.length : Int) < 1) = true) ∨ (decide ((l0.length : Int) < 1) = false ∧ decide ((l0.length : Int) > 8) = true) ∨ (decide ((l0.length : Int) < 1) = false ∧ decide ((l0.length : Int) > 8) = false ∧ decide ((ls.length : Int) > 16) = true) ∨ (decide ((l0.length : Int) < 1) = false ∧ decide ((l0.length : Int) > 8) = false ∧ decide ((ls.length : Int) > 16) = false) := by
    simp only [decide_eq_true_eq, decide_eq_false_iff_not]
    omega
  rcases key with h1 | ⟨h1, h2⟩ | ⟨h1, h2, h3⟩ | ⟨h1, h2, h3⟩
  · have HN := Aside0.mk (fitsB_false (ids := l0) (ls := ls) (fun h => by have := h.1; have := of_decide_eq_true h1; omega))
    go_enter Tryd.func8, Tryd.ntmps8
    go_wp2_with fail
    go_ret
    exact ⟨by rw [HN.out]; rfl, Below.refl _ _⟩
  · have HN := Aside0.mk (fitsB_false (ids := l0) (ls := ls) (fun h => by have := h.2.1; have := of_decide_eq_true h2; omega))
    go_enter Tryd.func8, Tryd.ntmps8
    go_wp2_with fail
    go_ret
    exact ⟨by rw [HN.out]; rfl, Below.refl _ _⟩
  · have HN := Aside0.mk (fitsB_false (ids := l0) (ls := ls) (fun h => by have := h.2.2.1; have := of_decide_eq_true h3; omega))
    go_enter Tryd.func8, Tryd.ntmps8
    go_wp2_with fail
    go_ret
    exact ⟨by rw [HN.out]; rfl, Below.refl _ _⟩
  · have HM := Aside0.mk (show 1 ≤ l0.length ∧ l0.length ≤ 8 ∧ ls.length ≤ 16 by simp only [decide_eq_true_eq, decide_eq_false_iff_not] at h1 h2 h3; omega)
    go_enter Tryd.func8, Tryd.ntmps8
    go_wp2_with fail
    clear h1 h2 h3
    go_loopg [27] l0.length (fun gk s27 wr => ∃ i : Nat, s27 = .int .i64 i ∧ i ≤ l0.length ∧ l0.length - i ≤ gk ∧ Aside0 (∀ i' < i, IdOk l0 i') ∧ Aside0 (Below w.heap.size w wr))
    case atStart => exact ⟨0, rfl, Nat.zero_le _, by omega, ⟨fun _ h => absurd h (Nat.not_lt_zero _)⟩, ⟨Below.refl _ _⟩⟩
    case round =>
      obtain ⟨i, rfl, hil, hgk, HI, HB⟩ := hrel
      by_cases hlt : i < l0.length
      · have hlz : (i : Int) < (l0.length : Int) := by omega
        obtain ⟨ad, rfl, hx⟩ := Kd.at_int HR0.out (i : Int) (by omega) hlz
        rw [Int.toNat_natCast] at hx
        have hxw := hx
        replace hx := pw_cell_below HB.out hx
        have hci : i ≤ c0 := by have := HC0.out; omega
        have hciz : (i : Int) ≤ (c0 : Int) := by omega
        have hc0n : ¬ (c0 = 0) := by have := HC0.out; omega
        have hiz : (0 : Int) ≤ (i : Int) := by omega
        have HX := Aside0.mk (show rd l0 (i : Int) = l0.getD i 0 by unfold rd; rw [Int.toNat_natCast])
        generalize rd l0 (i : Int) = id at hx hxw HX
        rcases Bool.eq_false_or_eq_true (brd id) with hb | hb
        · have HG := Aside0.mk (fun W => hb ▸ rbr_calls id W)
          clear hxw
          go_wp2_with (go_at_fn 13; refine (HG.out _).mono ?_; rintro e w1 ⟨rfl, h1⟩; have HB1 := Aside0.mk (below_step HB.out h1); clear h1)
          have HXI := Aside0.mk hb
          clear hb HG
          go_loopg [39] i (fun gk s39 wr => ∃ j : Nat, s39 = .int .i64 j ∧ j ≤ i ∧ i - j ≤ gk ∧ Aside0 (∀ j' < j, l0.getD j' 0 ≠ id) ∧ Aside0 (Below w.heap.size w wr))
          case atStart => exact ⟨0, rfl, Nat.zero_le _, by omega, ⟨fun _ h => absurd h (Nat.not_lt_zero _)⟩, HB1⟩
          case round =>
            clear HB HB1 hx
            obtain ⟨j, rfl, hjl, hgk, HJ, HB⟩ := hrel
            by_cases hlt2 : j < i
            · have hlz2 : (j : Int) < (i : Int) := by omega
              obtain ⟨ad', e', hy⟩ := Kd.at_int HR0.out (j : Int) (by omega) (by omega)
              injection e' with e'
              subst e'
              rw [Int.toNat_natCast] at hy
              replace hy := pw_cell_below HB.out hy
              have HY := Aside0.mk (show rd l0 (j : Int) = l0.getD j 0 by unfold rd; rw [Int.toNat_natCast])
              generalize rd l0 (j : Int) = y at hy HY
              rcases Bool.eq_false_or_eq_true (y == id) with hb | hb
              · have HN := Aside0.mk (fitsB_false (ids := l0) (ls := ls) (fun h => (h.2.2.2.1 i hlt).2 j hlt2 (by rw [← HX.out, ← HY.out]; exact beq_iff_eq.1 hb)))
                go_wp2_with fail
                go_ret
                exact ⟨by rw [HN.out]; rfl, HB.out⟩
              · have HY2 := Aside0.mk (show y ≠ id from fun h => by rw [h] at hb; simp at hb)
                go_wp2_with fail
                go_roundg (i - (j + 1))
                case measure => omega
                case rel => exact ⟨j + 1, by rw [nat_step _ (by have := HM.out; omega)], by omega, Nat.le_refl _, ⟨fun j' hj' => by
                  rcases Nat.lt_or_ge j' j with h | h
                  · exact HJ.out j' h
                  · have : j' = j := by omega
                    subst this
                    rw [← HY.out]
                    exact HY2.out⟩, HB⟩
            · have e : j = i := by omega
              subst e
              go_wp2_with fail
              go_roundg (l0.length - (j + 1))
              case measure => omega
              case rel => exact ⟨j + 1, by rw [nat_step _ (by have := HM.out; omega)], by omega, Nat.le_refl _, ⟨fun i' hi' => by
                  rcases Nat.lt_or_ge i' j with h | h
                  · exact HI.out i' h
                  · have : i' = j := by omega
                    subst this
                    exact ⟨by rw [← HX.out]; exact HXI.out, fun j' hj' => by rw [← HX.out]; exact HJ.out j' hj'⟩⟩, HB⟩
        · have HN := Aside0.mk (fitsB_false (ids := l0) (ls := ls) (fun h => by have := (h.2.2.2.1 i hlt).1; rw [← HX.out, hb] at this; cases this))
          have HG := Aside0.mk (fun W => hb ▸ rbr_calls id W)
          clear hb
          go_wp2_with (go_at_fn 13; refine (HG.out _).mono ?_; rintro e w1 ⟨rfl, h1⟩; have HB1 := Aside0.mk (below_step HB.out h1); clear h1)
          go_ret
          exact ⟨by rw [HN.out]; rfl, HB1.out⟩
      · have e : i = l0.length := by omega
        subst e
        clear hgk
        go_upto_region 16 with (first
          | ((with_reducible refine gate_dst (N := 9) rfl ?_); refine box_event ?hg (N := 9) ?hd (cs := used48 (fun _ => false)) (t := 70) ?hr ?_; (case hd => rfl); (case hg => rfl); (case hr => first | (go_simp; done) | (go_simp; rfl)); intro ub hg w4 hbox hb; have hsr := setRow_same hbox; have BX := Aside0.mk hbox; have KX := Aside0.mk hb; have HGB := Aside0.mk hg; clear hbox hb hg; refine wpList_store_row rfl 70 (.tmp 9) (.tmp 48) rfl ub (used48 (fun _ => false)) rfl rfl 70 (used48 (fun _ => false)) BX.out info70 rfl all48 ?_; rw [hsr]; clear hsr))
        have HB0 := Aside0.mk (below_step HB.out KX.out)
        have HUB : w.heap.size ≤ ub := by have h1 := HGB.out; have h2 := below_size HB.out; omega
        clear HB KX HGB hil hlt
        go_wp2
        go_loopg [51] ls.length (fun gk s51 wr => ∃ k : Nat, s51 = .int .i64 k ∧ k ≤ ls.length ∧ ls.length - k ≤ gk ∧ Aside0 (∀ k' < k, EndOk l0.length ls k') ∧ Aside0 (wr.heap[ub]? = some (.cells (used48 (takenB ls k)) 70 (0, 0))) ∧ Aside0 (Below w.heap.size w wr))
        case atStart => exact ⟨0, rfl, Nat.zero_le _, by omega, ⟨fun _ h => absurd h (Nat.not_lt_zero _)⟩, BX, HB0⟩
        case round =>
          clear HB0 BX
          obtain ⟨k, rfl, hkl, hgk, HE, HU, HB⟩ := hrel
          by_cases hlt : k < ls.length
          · have hlz : (k : Int) < (ls.length : Int) := by omega
            obtain ⟨ad, rfl, hx0, hx1, hx2, hx3, hx4, hx5⟩ := atN_T72 HR1.out k hlt
            replace hx0 := (HB.out.cell (World.block_lt_of_cell? w _ hx0)).trans hx0
            replace hx1 := (HB.out.cell (World.block_lt_of_cell? w _ hx1)).trans hx1
            replace hx2 := (HB.out.cell (World.block_lt_of_cell? w _ hx2)).trans hx2
            replace hx3 := (HB.out.cell (World.block_lt_of_cell? w _ hx3)).trans hx3
            replace hx4 := (HB.out.cell (World.block_lt_of_cell? w _ hx4)).trans hx4
            replace hx5 := (HB.out.cell (World.block_lt_of_cell? w _ hx5)).trans hx5
            have HLE := Aside0.mk (show ls.getD k z72 = ls.getD k z72 from rfl)
            have HTS := Aside0.mk (show takenB ls (k + 1) = fun q => (takenB ls k q || q == endA (ls.getD k z72)) || q == endB (ls.getD k z72) from rfl)
            generalize hxe : ls.getD k z72 = x at hx0 hx1 hx2 hx3 hx4 hx5 HTS
            have HL := Aside0.mk hxe
            clear hxe HLE
            obtain ⟨v0, v1, v2, v3, v4, v5⟩ := x
            dsimp only at hx0 hx1 hx2 hx3 hx4 hx5
            go_upto_region 19 with ((with_reducible refine gate_dst (N := 11) rfl ?_); refine box_event ?hg (N := 11) ?hd (cs := #[.int .i64 0, .int .i64 0, .int .i64 0, .int .i64 0, .int .i64 0, .int .i64 0]) (t := 72) ?hr ?_; (case hd => rfl); (case hg => rfl); (case hr => first | (go_simp; done) | (go_simp; rfl)); intro gb hg w6 hbox hb; have hcz0 : w6.cell? ⟨gb, 0, none⟩ = some (.int .i64 0) := (blk_cell hbox 0).trans rfl; have hfz0 := blk_frozen hbox 0; have hcz1 : w6.cell? ⟨gb, 1, none⟩ = some (.int .i64 0) := (blk_cell hbox 1).trans rfl; have hfz1 := blk_frozen hbox 1; have hcz2 : w6.cell? ⟨gb, 2, none⟩ = some (.int .i64 0) := (blk_cell hbox 2).trans rfl; have hfz2 := blk_frozen hbox 2; have hcz3 : w6.cell? ⟨gb, 3, none⟩ = some (.int .i64 0) := (blk_cell hbox 3).trans rfl; have hfz3 := blk_frozen hbox 3; have hcz4 : w6.cell? ⟨gb, 4, none⟩ = some (.int .i64 0) := (blk_cell hbox 4).trans rfl; have hfz4 := blk_frozen hbox 4; have hcz5 : w6.cell? ⟨gb, 5, none⟩ = some (.int .i64 0) := (blk_cell hbox 5).trans rfl; have hfz5 := blk_frozen hbox 5; have BX := Aside0.mk hbox; have KX := Aside0.mk hb; have HGB := Aside0.mk hg; clear hbox hb hg)
            have B5 : Below wr.heap.size wr ((((((w6.setCell ⟨gb, 0, none⟩ (.int .i64 v0)).setCell ⟨gb, 1, none⟩ (.int .i64 v1)).setCell ⟨gb, 2, none⟩ (.int .i64 v2)).setCell ⟨gb, 3, none⟩ (.int .i64 v3)).setCell ⟨gb, 4, none⟩ (.int .i64 v4)).setCell ⟨gb, 5, none⟩ (.int .i64 v5)) := lay6_bel _ _ _ _ _ _ KX.out (Nat.le_of_eq HGB.out.symm)
            have X5 : ((((((w6.setCell ⟨gb, 0, none⟩ (.int .i64 v0)).setCell ⟨gb, 1, none⟩ (.int .i64 v1)).setCell ⟨gb, 2, none⟩ (.int .i64 v2)).setCell ⟨gb, 3, none⟩ (.int .i64 v3)).setCell ⟨gb, 4, none⟩ (.int .i64 v4)).setCell ⟨gb, 5, none⟩ (.int .i64 v5)).heap[gb]? = some (.cells #[.int .i64 v0, .int .i64 v1, .int .i64 v2, .int .i64 v3, .int .i64 v4, .int .i64 v5] 72 (0, 0)) := lay6_blk _ _ _ _ _ _ BX.out
            generalize ((((((w6.setCell ⟨gb, 0, none⟩ (.int .i64 v0)).setCell ⟨gb, 1, none⟩ (.int .i64 v1)).setCell ⟨gb, 2, none⟩ (.int .i64 v2)).setCell ⟨gb, 3, none⟩ (.int .i64 v3)).setCell ⟨gb, 4, none⟩ (.int .i64 v4)).setCell ⟨gb, 5, none⟩ (.int .i64 v5)) = w7 at B5 X5 ⊢
            have hp0 : w7.cell? ⟨gb, 0, none⟩ = some (.int .i64 v0) := (blk_cell X5 0).trans rfl
            have hp1 : w7.cell? ⟨gb, 1, none⟩ = some (.int .i64 v1) := (blk_cell X5 1).trans rfl
            have hp2 : w7.cell? ⟨gb, 2, none⟩ = some (.int .i64 v2) := (blk_cell X5 2).trans rfl
            have hp3 : w7.cell? ⟨gb, 3, none⟩ = some (.int .i64 v3) := (blk_cell X5 3).trans rfl
            have hp4 : w7.cell? ⟨gb, 4, none⟩ = some (.int .i64 v4) := (blk_cell X5 4).trans rfl
            have hp5 : w7.cell? ⟨gb, 5, none⟩ = some (.int .i64 v5) := (blk_cell X5 5).trans rfl
            have hbl : ub < wr.heap.size := blk_lt HU.out
            have hgg : gb = wr.heap.size := HGB.out
            have hn1 : ¬ (gb = ub) := by omega
            have hn2 : ¬ (ub = gb) := by omega
            have HU7 := Aside0.mk ((B5.block ub hbl).trans HU.out)
            have HB7 := Aside0.mk (below_step HB.out B5)
            clear hcz0 hfz0 hcz1 hfz1 hcz2 hfz2 hcz3 hfz3 hcz4 hfz4 hcz5 hfz5 BX KX HGB hx0 hx1 hx2 hx3 hx4 hx5 B5 X5 HU HB hgg hbl
            rcases Bool.eq_false_or_eq_true (decide (v0 < 0)) with c1 | c1
            · have HN := Aside0.mk (fitsB_false (ids := l0) (ls := ls) (fun h => by have h2 := (h.2.2.2.2 k hlt).1; rw [HL.out] at h2; have h3 := of_decide_eq_true c1; unfold LinkOk at h2; dsimp only at h2; omega))
              simp only [List.append_eq, List.cons_append, List.nil_append]
              go_wp2_with fail
              go_ret
              exact ⟨by rw [HN.out]; rfl, HB7.out⟩
            rcases Bool.eq_false_or_eq_true (decide (v0 ≥ (l0.length : Int))) with c2 | c2
            · have HN := Aside0.mk (fitsB_false (ids := l0) (ls := ls) (fun h => by have h2 := (h.2.2.2.2 k hlt).1; rw [HL.out] at h2; have h3 := of_decide_eq_true c2; unfold LinkOk at h2; dsimp only at h2; omega))
              simp only [List.append_eq, List.cons_append, List.nil_append]
              go_wp2_with fail
              go_ret
              exact ⟨by rw [HN.out]; rfl, HB7.out⟩
            rcases Bool.eq_false_or_eq_true (decide (v2 < 0)) with c3 | c3
            · have HN := Aside0.mk (fitsB_false (ids := l0) (ls := ls) (fun h => by have h2 := (h.2.2.2.2 k hlt).1; rw [HL.out] at h2; have h3 := of_decide_eq_true c3; unfold LinkOk at h2; dsimp only at h2; omega))
              simp only [List.append_eq, List.cons_append, List.nil_append]
              go_wp2_with fail
              go_ret
              exact ⟨by rw [HN.out]; rfl, HB7.out⟩
            rcases Bool.eq_false_or_eq_true (decide (v2 ≥ (l0.length : Int))) with c4 | c4
            · have HN := Aside0.mk (fitsB_false (ids := l0) (ls := ls) (fun h => by have h2 := (h.2.2.2.2 k hlt).1; rw [HL.out] at h2; have h3 := of_decide_eq_true c4; unfold LinkOk at h2; dsimp only at h2; omega))
              simp only [List.append_eq, List.cons_append, List.nil_append]
              go_wp2_with fail
              go_ret
              exact ⟨by rw [HN.out]; rfl, HB7.out⟩
            rcases Bool.eq_false_or_eq_true (v0 == v2) with c5 | c5
            · have HN := Aside0.mk (fitsB_false (ids := l0) (ls := ls) (fun h => by have h2 := (h.2.2.2.2 k hlt).1; rw [HL.out] at h2; have h3 := beq_iff_eq.1 c5; unfold LinkOk at h2; dsimp only at h2; omega))
              simp only [List.append_eq, List.cons_append, List.nil_append]
              go_wp2_with fail
              go_ret
              exact ⟨by rw [HN.out]; rfl, HB7.out⟩
            rcases Bool.eq_false_or_eq_true (decide (v1 < 0)) with c6 | c6
            · have HN := Aside0.mk (fitsB_false (ids := l0) (ls := ls) (fun h => by have h2 := (h.2.2.2.2 k hlt).1; rw [HL.out] at h2; have h3 := of_decide_eq_true c6; unfold LinkOk at h2; dsimp only at h2; omega))
              simp only [List.append_eq, List.cons_append, List.nil_append]
              go_wp2_with fail
              go_ret
              exact ⟨by rw [HN.out]; rfl, HB7.out⟩
            rcases Bool.eq_false_or_eq_true (decide (v1 > 5)) with c7 | c7
            · have HN := Aside0.mk (fitsB_false (ids := l0) (ls := ls) (fun h => by have h2 := (h.2.2.2.2 k hlt).1; rw [HL.out] at h2; have h3 := of_decide_eq_true c7; unfold LinkOk at h2; dsimp only at h2; omega))
              simp only [List.append_eq, List.cons_append, List.nil_append]
              go_wp2_with fail
              go_ret
              exact ⟨by rw [HN.out]; rfl, HB7.out⟩
            rcases Bool.eq_false_or_eq_true (decide (v3 < 0)) with c8 | c8
            · have HN := Aside0.mk (fitsB_false (ids := l0) (ls := ls) (fun h => by have h2 := (h.2.2.2.2 k hlt).1; rw [HL.out] at h2; have h3 := of_decide_eq_true c8; unfold LinkOk at h2; dsimp only at h2; omega))
              simp only [List.append_eq, List.cons_append, List.nil_append]
              go_wp2_with fail
              go_ret
              exact ⟨by rw [HN.out]; rfl, HB7.out⟩
            rcases Bool.eq_false_or_eq_true (decide (v3 > 5)) with c9 | c9
            · have HN := Aside0.mk (fitsB_false (ids := l0) (ls := ls) (fun h => by have h2 := (h.2.2.2.2 k hlt).1; rw [HL.out] at h2; have h3 := of_decide_eq_true c9; unfold LinkOk at h2; dsimp only at h2; omega))
              simp only [List.append_eq, List.cons_append, List.nil_append]
              go_wp2_with fail
              go_ret
              exact ⟨by rw [HN.out]; rfl, HB7.out⟩
            rcases Bool.eq_false_or_eq_true (decide (v4 < 1)) with c10 | c10
            · have HN := Aside0.mk (fitsB_false (ids := l0) (ls := ls) (fun h => by have h2 := (h.2.2.2.2 k hlt).1; rw [HL.out] at h2; have h3 := of_decide_eq_true c10; unfold LinkOk at h2; dsimp only at h2; omega))
              simp only [List.append_eq, List.cons_append, List.nil_append]
              go_wp2_with fail
              go_ret
              exact ⟨by rw [HN.out]; rfl, HB7.out⟩
            rcases Bool.eq_false_or_eq_true (decide (v4 > 1048576)) with c11 | c11
            · have HN := Aside0.mk (fitsB_false (ids := l0) (ls := ls) (fun h => by have h2 := (h.2.2.2.2 k hlt).1; rw [HL.out] at h2; have h3 := of_decide_eq_true c11; unfold LinkOk at h2; dsimp only at h2; omega))
              simp only [List.append_eq, List.cons_append, List.nil_append]
              go_wp2_with fail
              go_ret
              exact ⟨by rw [HN.out]; rfl, HB7.out⟩
            rcases Bool.eq_false_or_eq_true (decide (v5 < 1)) with c12 | c12
            · have HN := Aside0.mk (fitsB_false (ids := l0) (ls := ls) (fun h => by have h2 := (h.2.2.2.2 k hlt).1; rw [HL.out] at h2; have h3 := of_decide_eq_true c12; unfold LinkOk at h2; dsimp only at h2; omega))
              simp only [List.append_eq, List.cons_append, List.nil_append]
              go_wp2_with fail
              go_ret
              exact ⟨by rw [HN.out]; rfl, HB7.out⟩
            rcases Bool.eq_false_or_eq_true (decide (v5 > 1048576)) with c13 | c13
            · have HN := Aside0.mk (fitsB_false (ids := l0) (ls := ls) (fun h => by have h2 := (h.2.2.2.2 k hlt).1; rw [HL.out] at h2; have h3 := of_decide_eq_true c13; unfold LinkOk at h2; dsimp only at h2; omega))
              simp only [List.append_eq, List.cons_append, List.nil_append]
              go_wp2_with fail
              go_ret
              exact ⟨by rw [HN.out]; rfl, HB7.out⟩
            simp only [List.append_eq, List.cons_append, List.nil_append]
            go_wp2_with fail
            have HOK := Aside0.mk (show LinkOk l0.length ⟨v0, v1, v2, v3, v4, v5⟩ by
              have d1 := of_decide_eq_false c1; have d2 := of_decide_eq_false c2; have d3 := of_decide_eq_false c3; have d4 := of_decide_eq_false c4
              have d5 : ¬ (v0 = v2) := fun h => by rw [h] at c5; simp at c5
              have d6 := of_decide_eq_false c6; have d7 := of_decide_eq_false c7; have d8 := of_decide_eq_false c8; have d9 := of_decide_eq_false c9; have d10 := of_decide_eq_false c10; have d11 := of_decide_eq_false c11; have d12 := of_decide_eq_false c12; have d13 := of_decide_eq_false c13
              unfold LinkOk; dsimp only; omega)
            clear c1 c2 c3 c4 c5 c6 c7 c8 c9 c10 c11 c12 c13
            obtain ⟨o1, o2, o3, o4, o5, o6, o7, o8, o9, _⟩ := HOK.out
            dsimp only at o1 o2 o3 o4 o5 o6 o7 o8 o9
            obtain ⟨a, rfl⟩ := Int.eq_ofNat_of_zero_le o1
            obtain ⟨p, rfl⟩ := Int.eq_ofNat_of_zero_le o6
            obtain ⟨b, rfl⟩ := Int.eq_ofNat_of_zero_le o3
            obtain ⟨q, rfl⟩ := Int.eq_ofNat_of_zero_le o8
            have hm8 := HM.out.2.1
            have ha : a < 8 := by omega
            have hp : p < 6 := by omega
            have hb : b < 8 := by omega
            have hq : q < 6 := by omega
            have haz : (a : Int) < 8 := by omega
            have hpz : (p : Int) < 6 := by omega
            have hbz : (b : Int) < 8 := by omega
            have hqz : (q : Int) < 6 := by omega
            have hca : w7.cell? ⟨ub, a * 6 + p, none⟩ = some (.bool (takenB ls k (a * 6 + p))) := (blk_cell HU7.out _).trans (used48_at _ _ (by omega))
            have hcb : w7.cell? ⟨ub, b * 6 + q, none⟩ = some (.bool (takenB ls k (b * 6 + q))) := (blk_cell HU7.out _).trans (used48_at _ _ (by omega))
            have hfa : w7.frozen? ⟨ub, a * 6 + p, none⟩ = false := blk_frozen HU7.out _
            have hfb : w7.frozen? ⟨ub, b * 6 + q, none⟩ = false := blk_frozen HU7.out _
            have hab : ¬ (a * 6 + p = b * 6 + q) := by omega
            have hba : ¬ (b * 6 + q = a * 6 + p) := by omega
            have HEA := Aside0.mk (show endA ⟨(a : Int), (p : Int), (b : Int), (q : Int), v4, v5⟩ = a * 6 + p from rfl)
            have HEB := Aside0.mk (show endB ⟨(a : Int), (p : Int), (b : Int), (q : Int), v4, v5⟩ = b * 6 + q from rfl)
            clear o1 o2 o3 o4 o5 o6 o7 o8 o9 hm8
            rcases Bool.eq_false_or_eq_true (takenB ls k (a * 6 + p)) with t1 | t1
            · have HN := Aside0.mk (fitsB_false (ids := l0) (ls := ls) (fun h => by have h2 := (h.2.2.2.2 k hlt).2.1; rw [HL.out, HEA.out, t1] at h2; cases h2))
              rw [t1] at hca
              go_quiet (fail)
              go_wp2_with fail
              go_ret
              exact ⟨by rw [HN.out]; rfl, below_step HB7.out (pw_below_drewN (Below.refl _ _) _)⟩
            rcases Bool.eq_false_or_eq_true (takenB ls k (b * 6 + q)) with t2 | t2
            · have HN := Aside0.mk (fitsB_false (ids := l0) (ls := ls) (fun h => by have h2 := (h.2.2.2.2 k hlt).2.2; rw [HL.out, HEB.out, t2] at h2; cases h2))
              rw [t1] at hca
              rw [t2] at hcb
              go_quiet (fail)
              go_wp2_with fail
              go_ret
              exact ⟨by rw [HN.out]; rfl, below_step HB7.out (pw_below_drewN (Below.refl _ _) _)⟩
            have HT1 := Aside0.mk t1
            have HT2 := Aside0.mk t2
            rw [t1] at hca
            rw [t2] at hcb
            clear t1 t2
            have hng : gb ≠ ub := hn1
            go_quiet (fail)
            go_wp2_with fail
            go_region_held3 (fun W => W.cell? ⟨gb, 0, none⟩ = some (.int .i64 a) ∧ W.cell? ⟨gb, 1, none⟩ = some (.int .i64 p)) (refine ⟨?_, ?_⟩ <;> (repeat (with_reducible first | assumption | refine cellFarS ?_ (by assumption) | refine cell_drewS ?_ | refine cell_drewNS _ ?_))) (fail)
            have hcb2 : ((w7.drewN (nq + 1)).setCell ⟨ub, a * 6 + p, none⟩ (.bool true)).cell? ⟨ub, b * 6 + q, none⟩ = some (.bool false) := by
              rw [blk_cell (blk_put (blk_dN HU7.out (nq + 1)) (a * 6 + p) (.bool true) rfl) (b * 6 + q), used48_put, used48_at _ _ (by omega), HT2.out]
              have : (b * 6 + q == a * 6 + p) = false := by simpa using hba
              rw [this]; rfl
            have hfb2 : ((w7.drewN (nq + 1)).setCell ⟨ub, a * 6 + p, none⟩ (.bool true)).frozen? ⟨ub, b * 6 + q, none⟩ = false := blk_frozen (blk_put (blk_dN HU7.out (nq + 1)) (a * 6 + p) (.bool true) rfl) _
            have hg2 : ((w7.drewN (nq + 1)).setCell ⟨ub, a * 6 + p, none⟩ (.bool true)).cell? ⟨gb, 2, none⟩ = some (.int .i64 b) := cellFarS (cell_drewNS _ hp2) hng
            have hg3 : ((w7.drewN (nq + 1)).setCell ⟨ub, a * 6 + p, none⟩ (.bool true)).cell? ⟨gb, 3, none⟩ = some (.int .i64 q) := cellFarS (cell_drewNS _ hp3) hng
            have HU8 := Aside0.mk (blk_put (blk_dN HU7.out (nq + 1)) (a * 6 + p) (.bool true) rfl)
            have HB8 := Aside0.mk (below_set (below_step HB7.out (pw_below_drewN (Below.refl _ _) (nq + 1))) HUB (j := a * 6 + p) (v := .bool true))
            generalize (w7.drewN (nq + 1)).setCell ⟨ub, a * 6 + p, none⟩ (.bool true) = w8 at hcb2 hfb2 hg2 hg3 HU8 HB8 ⊢
            clear hca hcb hfa hfb hp0 hp1 hp2 hp3 hp4 hp5 HU7 HB7
            go_wp2_with fail
            go_region_held3 (fun W => W.cell? ⟨gb, 2, none⟩ = some (.int .i64 b) ∧ W.cell? ⟨gb, 3, none⟩ = some (.int .i64 q)) (refine ⟨?_, ?_⟩ <;> (repeat (with_reducible first | assumption | refine cellFarS ?_ (by assumption) | refine cell_drewS ?_ | refine cell_drewNS _ ?_))) (fail)
            go_wp2_with fail
            go_roundg (ls.length - (k + 1))
            case measure => omega
            case rel =>
              refine ⟨k + 1, by rw [nat_step _ (by have := HM.out; omega)], by omega, Nat.le_refl _, ⟨fun k' hk' => ?_⟩, ⟨?_⟩, ⟨?_⟩⟩
              · rcases Nat.lt_or_ge k' k with h | h
                · exact HE.out k' h
                · have : k' = k := by omega
                  subst this
                  unfold EndOk
                  rw [HL.out, HEA.out, HEB.out]
                  exact ⟨HOK.out, HT1.out, HT2.out⟩
              · rw [HTS.out, HEA.out, HEB.out, ← used48_put (fun q_1 => takenB ls k q_1 || q_1 == a * 6 + p), ← used48_put (takenB ls k)]
                exact blk_put HU8.out _ _ rfl
              · exact below_drew1 (below_set HB8.out HUB)
          · have e : k = ls.length := by omega
            subst e
            have HN := Aside0.mk (fitsB_true.2 ⟨HM.out.1, HM.out.2.1, HM.out.2.2, HI.out, HE.out⟩)
            go_wp2_with fail
            go_ret
            exact ⟨by rw [HN.out]; rfl, HB.out⟩
end Go.Proofs.YtfimhaodgekkgaaDoor.QSpn
namespace Go.Proofs.YtfimhaodgekkgaaDoor.QSpn
open Go.RowKit Go.Proofs.YtfimhaodgekkgaaDoorW.PrintWords Go.Proofs.YtfimhaodgekkgaaDoorW.PrintLast Go.Proofs.YtfimhaodgekkgaaDoorW.PrintMore
def kissgatelaw12_alive.f : Option Bool := some true
theorem kissgatelaw12_alive.calls (r : Bool) (w W : World) (hng : QTre.NG w) (hz : 0 < w.heap.size) (hb : Below w.heap.size w W) (h : kissgatelaw12_alive.f = some r) :
    Calls Tryd.prog 7 #[] W fun e w' => e = .returned (.bool r) ∧ Below W.heap.size W w' := by
  injection h with h
  subst h
  exact QTre.alive_calls W (hng.below hb hz) (Nat.lt_of_lt_of_le hz hb.size)
end Go.Proofs.YtfimhaodgekkgaaDoor.QSpn
namespace Go.Proofs.YtfimhaodgekkgaaDoor.QSpn
open Go.RowKit Go.Proofs.YtfimhaodgekkgaaDoorW.PrintWords Go.Proofs.YtfimhaodgekkgaaDoorW.PrintLast Go.Proofs.YtfimhaodgekkgaaDoorW.PrintMore
attribute [local go_sem] max2_int min2_int max_two min_two max_three min_three max_four min_four
set_option linter.unusedVariables false
set_option linter.unusedSimpArgs false
def kissgateref10_Better.f (a0_0 : Int) (a0_1 : Int) (a0_2 : Int) (a0_3 : Int) (a1_0 : Int) (a1_1 : Int) (a1_2 : Int) (a1_3 : Int) : Option (Bool) := if a0_0 = a1_0 then (if a0_1 = a1_1 then (if a0_2 = a1_2 then (some (decide (a0_3 < a1_3))) else (some (decide (a0_2 < a1_2)))) else (some (decide (a0_1 < a1_1)))) else (some (decide (a0_0 < a1_0)))
set_option maxHeartbeats 8000000 in
set_option maxRecDepth 100000 in
theorem kissgateref10_Better.calls (a0_0 : Int) (a0_1 : Int) (a0_2 : Int) (a0_3 : Int) (a1_0 : Int) (a1_1 : Int) (a1_2 : Int) (a1_3 : Int) (r : Bool) (w : World) (h : kissgateref10_Better.f a0_0 a0_1 a0_2 a0_3 a1_0 a1_1 a1_2 a1_3 = some r) :
    Calls Tryd.prog 57 #[.agg #[.int .i64 a0_0, .int .i64 a0_1, .int .i64 a0_2, .int .i64 a0_3], .agg #[.int .i64 a1_0, .int .i64 a1_1, .int .i64 a1_2, .int .i64 a1_3]] w fun e w' => e = .returned (.bool r) ∧ Below w.heap.size w w' := by
  have hu36 := Tryd.underlying36
  have HB := Aside0.mk (Below.refl w.heap.size w)
  have H : (if a0_0 = a1_0 then (if a0_1 = a1_1 then (if a0_2 = a1_2 then (some (decide (a0_3 < a1_3))) else (some (decide (a0_2 < a1_2)))) else (some (decide (a0_1 < a1_1)))) else (some (decide (a0_0 < a1_0)))) = some r := h
  clear h
  by_cases c3 : a0_0 = a1_0
  · rw [if_pos c3] at H
    have c3b0 : (a0_0 == a1_0) = true := beq_iff_eq.mpr c3
    have c3b1 : (a0_0 != a1_0) = false := bne_eq_false_iff_eq.mpr c3
    clear c3
    by_cases c4 : a0_1 = a1_1
    · rw [if_pos c4] at H
      have c4b0 : (a0_1 == a1_1) = true := beq_iff_eq.mpr c4
      have c4b1 : (a0_1 != a1_1) = false := bne_eq_false_iff_eq.mpr c4
      clear c4
      by_cases c5 : a0_2 = a1_2
      · rw [if_pos c5] at H
        have c5b0 : (a0_2 == a1_2) = true := beq_iff_eq.mpr c5
        have c5b1 : (a0_2 != a1_2) = false := bne_eq_false_iff_eq.mpr c5
        clear c5
        obtain rfl := Option.some.inj H
        go_enter Tryd.func57, Tryd.ntmps57
        go_wp2_with (first | ((with_reducible refine gate_dst (N := 2) rfl ?_); refine box_event ?hg (N := 2) ?hd (cs := #[.int .i64 a0_0, .int .i64 a0_1, .int .i64 a0_2, .int .i64 a0_3]) (t := 36) ?hr ?_; (case hd => rfl); (case hg => rfl); (case hr => first | (go_simp; done) | (go_simp; rfl)); intro gb101 hg w6 hbox hb; have n0_ := Aside0.mk (below_step (by repeat (first | (with_reducible first | exact HB.out | apply below_alloc | apply pw_below_drewN | apply below_drew1) | exact HB.out)) hb); have n1_ := Aside0.mk (hbox); have n2_ := Aside0.mk ((by rw [hg]; exact (below_size (by repeat (first | (with_reducible first | exact HB.out | apply below_alloc | apply pw_below_drewN | apply below_drew1) | exact HB.out))) : w.heap.size ≤ gb101)); have n3_ := Aside0.mk ((by rw [hg]; exact (below_size (by repeat (first | (with_reducible first | exact HB.out | apply below_alloc | apply pw_below_drewN | apply below_drew1) | exact HB.out))) : w.heap.size ≤ gb101)); clear HB; have HB := n0_; have BK101 := n1_; have GW101 := n2_; have GE101 := n3_; clear n0_ n1_ n2_ n3_; clear hb hbox hg) | ((with_reducible refine gate_dst (N := 3) rfl ?_); refine box_event ?hg (N := 3) ?hd (cs := #[.int .i64 a1_0, .int .i64 a1_1, .int .i64 a1_2, .int .i64 a1_3]) (t := 36) ?hr ?_; (case hd => rfl); (case hg => rfl); (case hr => first | (go_simp; done) | (go_simp; rfl)); intro gb102 hg w7 hbox hb; have n0_ := Aside0.mk (blk_below (g := gb101) (o := .cells #[.int .i64 a0_0, .int .i64 a0_1, .int .i64 a0_2, .int .i64 a0_3] 36 (0, 0)) (by (with_reducible repeat (first | refine blk_drewN ?_ _ | refine blk_drew ?_ | refine blk_alloc ?_ _)); exact BK101.out) hb); have n1_ := Aside0.mk (below_step (by repeat (first | (with_reducible first | exact HB.out | apply below_alloc | apply pw_below_drewN | apply below_drew1 | refine below_set ?_ GE101.out) | exact HB.out)) hb); have n2_ := Aside0.mk (hbox); have n3_ := Aside0.mk ((by rw [hg]; exact (below_size (by repeat (first | (with_reducible first | exact HB.out | apply below_alloc | apply pw_below_drewN | apply below_drew1 | refine below_set ?_ GE101.out) | exact HB.out))) : w.heap.size ≤ gb102)); have n4_ := Aside0.mk ((by rw [hg]; exact (below_size (by repeat (first | (with_reducible first | exact HB.out | apply below_alloc | apply pw_below_drewN | apply below_drew1 | refine below_set ?_ GE101.out) | exact HB.out))) : w.heap.size ≤ gb102)); have n5_ := Aside0.mk ((by rw [hg]; exact Nat.ne_of_lt (blk_lt (g := gb101) (o := .cells #[.int .i64 a0_0, .int .i64 a0_1, .int .i64 a0_2, .int .i64 a0_3] 36 (0, 0)) (by (with_reducible repeat (first | refine blk_drewN ?_ _ | refine blk_drew ?_ | refine blk_alloc ?_ _)); exact BK101.out)) : gb101 ≠ gb102)); have n6_ := Aside0.mk ((by rw [hg]; exact Nat.ne_of_gt (blk_lt (g := gb101) (o := .cells #[.int .i64 a0_0, .int .i64 a0_1, .int .i64 a0_2, .int .i64 a0_3] 36 (0, 0)) (by (with_reducible repeat (first | refine blk_drewN ?_ _ | refine blk_drew ?_ | refine blk_alloc ?_ _)); exact BK101.out)) : gb102 ≠ gb101)); clear BK101; clear HB; have BK101 := n0_; have HB := n1_; have BK102 := n2_; have GW102 := n3_; have GE102 := n4_; have NB101_102 := n5_; have NB102_101 := n6_; clear n0_ n1_ n2_ n3_ n4_ n5_ n6_; clear hb hbox hg; have hnb8 := NB101_102.out; have hnc8 := NB102_101.out; have hcz9_0 : w7.cell? ⟨gb101, 0, none⟩ = some (.int .i64 a0_0) := (blk_cell BK101.out 0).trans rfl; have hcz9_1 : w7.cell? ⟨gb101, 1, none⟩ = some (.int .i64 a0_1) := (blk_cell BK101.out 1).trans rfl; have hcz9_2 : w7.cell? ⟨gb101, 2, none⟩ = some (.int .i64 a0_2) := (blk_cell BK101.out 2).trans rfl; have hcz9_3 : w7.cell? ⟨gb101, 3, none⟩ = some (.int .i64 a0_3) := (blk_cell BK101.out 3).trans rfl; have hfz9_0 := blk_frozen BK101.out 0; have hfz9_1 := blk_frozen BK101.out 1; have hfz9_2 := blk_frozen BK101.out 2; have hfz9_3 := blk_frozen BK101.out 3; have hcz10_0 : w7.cell? ⟨gb102, 0, none⟩ = some (.int .i64 a1_0) := (blk_cell BK102.out 0).trans rfl; have hcz10_1 : w7.cell? ⟨gb102, 1, none⟩ = some (.int .i64 a1_1) := (blk_cell BK102.out 1).trans rfl; have hcz10_2 : w7.cell? ⟨gb102, 2, none⟩ = some (.int .i64 a1_2) := (blk_cell BK102.out 2).trans rfl; have hcz10_3 : w7.cell? ⟨gb102, 3, none⟩ = some (.int .i64 a1_3) := (blk_cell BK102.out 3).trans rfl; have hfz10_0 := blk_frozen BK102.out 0; have hfz10_1 := blk_frozen BK102.out 1; have hfz10_2 := blk_frozen BK102.out 2; have hfz10_3 := blk_frozen BK102.out 3))
        go_ret
        exact ⟨by first | rfl | (simp [errW_none, errW_some] <;> rfl) | (simp [*, errW_none, errW_some] <;> rfl), by repeat (first | (with_reducible first | exact HB.out | apply below_alloc | apply pw_below_drewN | apply below_drew1 | refine below_set ?_ GE101.out | refine below_set ?_ GE102.out) | exact HB.out)⟩
      · rw [if_neg c5] at H
        have c5b0 : (a0_2 == a1_2) = false := beq_eq_false_iff_ne.mpr c5
        have c5b1 : (a0_2 != a1_2) = true := bne_iff_ne.mpr c5
        obtain rfl := Option.some.inj H
        go_enter Tryd.func57, Tryd.ntmps57
        go_wp2_with (first | ((with_reducible refine gate_dst (N := 2) rfl ?_); refine box_event ?hg (N := 2) ?hd (cs := #[.int .i64 a0_0, .int .i64 a0_1, .int .i64 a0_2, .int .i64 a0_3]) (t := 36) ?hr ?_; (case hd => rfl); (case hg => rfl); (case hr => first | (go_simp; done) | (go_simp; rfl)); intro gb101 hg w11 hbox hb; have n0_ := Aside0.mk (below_step (by repeat (first | (with_reducible first | exact HB.out | apply below_alloc | apply pw_below_drewN | apply below_drew1) | exact HB.out)) hb); have n1_ := Aside0.mk (hbox); have n2_ := Aside0.mk ((by rw [hg]; exact (below_size (by repeat (first | (with_reducible first | exact HB.out | apply below_alloc | apply pw_below_drewN | apply below_drew1) | exact HB.out))) : w.heap.size ≤ gb101)); have n3_ := Aside0.mk ((by rw [hg]; exact (below_size (by repeat (first | (with_reducible first | exact HB.out | apply below_alloc | apply pw_below_drewN | apply below_drew1) | exact HB.out))) : w.heap.size ≤ gb101)); clear HB; have HB := n0_; have BK101 := n1_; have GW101 := n2_; have GE101 := n3_; clear n0_ n1_ n2_ n3_; clear hb hbox hg) | ((with_reducible refine gate_dst (N := 3) rfl ?_); refine box_event ?hg (N := 3) ?hd (cs := #[.int .i64 a1_0, .int .i64 a1_1, .int .i64 a1_2, .int .i64 a1_3]) (t := 36) ?hr ?_; (case hd => rfl); (case hg => rfl); (case hr => first | (go_simp; done) | (go_simp; rfl)); intro gb102 hg w12 hbox hb; have n0_ := Aside0.mk (blk_below (g := gb101) (o := .cells #[.int .i64 a0_0, .int .i64 a0_1, .int .i64 a0_2, .int .i64 a0_3] 36 (0, 0)) (by (with_reducible repeat (first | refine blk_drewN ?_ _ | refine blk_drew ?_ | refine blk_alloc ?_ _)); exact BK101.out) hb); have n1_ := Aside0.mk (below_step (by repeat (first | (with_reducible first | exact HB.out | apply below_alloc | apply pw_below_drewN | apply below_drew1 | refine below_set ?_ GE101.out) | exact HB.out)) hb); have n2_ := Aside0.mk (hbox); have n3_ := Aside0.mk ((by rw [hg]; exact (below_size (by repeat (first | (with_reducible first | exact HB.out | apply below_alloc | apply pw_below_drewN | apply below_drew1 | refine below_set ?_ GE101.out) | exact HB.out))) : w.heap.size ≤ gb102)); have n4_ := Aside0.mk ((by rw [hg]; exact (below_size (by repeat (first | (with_reducible first | exact HB.out | apply below_alloc | apply pw_below_drewN | apply below_drew1 | refine below_set ?_ GE101.out) | exact HB.out))) : w.heap.size ≤ gb102)); have n5_ := Aside0.mk ((by rw [hg]; exact Nat.ne_of_lt (blk_lt (g := gb101) (o := .cells #[.int .i64 a0_0, .int .i64 a0_1, .int .i64 a0_2, .int .i64 a0_3] 36 (0, 0)) (by (with_reducible repeat (first | refine blk_drewN ?_ _ | refine blk_drew ?_ | refine blk_alloc ?_ _)); exact BK101.out)) : gb101 ≠ gb102)); have n6_ := Aside0.mk ((by rw [hg]; exact Nat.ne_of_gt (blk_lt (g := gb101) (o := .cells #[.int .i64 a0_0, .int .i64 a0_1, .int .i64 a0_2, .int .i64 a0_3] 36 (0, 0)) (by (with_reducible repeat (first | refine blk_drewN ?_ _ | refine blk_drew ?_ | refine blk_alloc ?_ _)); exact BK101.out)) : gb102 ≠ gb101)); clear BK101; clear HB; have BK101 := n0_; have HB := n1_; have BK102 := n2_; have GW102 := n3_; have GE102 := n4_; have NB101_102 := n5_; have NB102_101 := n6_; clear n0_ n1_ n2_ n3_ n4_ n5_ n6_; clear hb hbox hg; have hnb13 := NB101_102.out; have hnc13 := NB102_101.out; have hcz14_0 : w12.cell? ⟨gb101, 0, none⟩ = some (.int .i64 a0_0) := (blk_cell BK101.out 0).trans rfl; have hcz14_1 : w12.cell? ⟨gb101, 1, none⟩ = some (.int .i64 a0_1) := (blk_cell BK101.out 1).trans rfl; have hcz14_2 : w12.cell? ⟨gb101, 2, none⟩ = some (.int .i64 a0_2) := (blk_cell BK101.out 2).trans rfl; have hcz14_3 : w12.cell? ⟨gb101, 3, none⟩ = some (.int .i64 a0_3) := (blk_cell BK101.out 3).trans rfl; have hfz14_0 := blk_frozen BK101.out 0; have hfz14_1 := blk_frozen BK101.out 1; have hfz14_2 := blk_frozen BK101.out 2; have hfz14_3 := blk_frozen BK101.out 3; have hcz15_0 : w12.cell? ⟨gb102, 0, none⟩ = some (.int .i64 a1_0) := (blk_cell BK102.out 0).trans rfl; have hcz15_1 : w12.cell? ⟨gb102, 1, none⟩ = some (.int .i64 a1_1) := (blk_cell BK102.out 1).trans rfl; have hcz15_2 : w12.cell? ⟨gb102, 2, none⟩ = some (.int .i64 a1_2) := (blk_cell BK102.out 2).trans rfl; have hcz15_3 : w12.cell? ⟨gb102, 3, none⟩ = some (.int .i64 a1_3) := (blk_cell BK102.out 3).trans rfl; have hfz15_0 := blk_frozen BK102.out 0; have hfz15_1 := blk_frozen BK102.out 1; have hfz15_2 := blk_frozen BK102.out 2; have hfz15_3 := blk_frozen BK102.out 3))
        go_ret
        exact ⟨by first | rfl | (simp [errW_none, errW_some] <;> rfl) | (simp [*, errW_none, errW_some] <;> rfl), by repeat (first | (with_reducible first | exact HB.out | apply below_alloc | apply pw_below_drewN | apply below_drew1 | refine below_set ?_ GE101.out | refine below_set ?_ GE102.out) | exact HB.out)⟩
    · rw [if_neg c4] at H
      have c4b0 : (a0_1 == a1_1) = false := beq_eq_false_iff_ne.mpr c4
      have c4b1 : (a0_1 != a1_1) = true := bne_iff_ne.mpr c4
      obtain rfl := Option.some.inj H
      go_enter Tryd.func57, Tryd.ntmps57
      go_wp2_with (first | ((with_reducible refine gate_dst (N := 2) rfl ?_); refine box_event ?hg (N := 2) ?hd (cs := #[.int .i64 a0_0, .int .i64 a0_1, .int .i64 a0_2, .int .i64 a0_3]) (t := 36) ?hr ?_; (case hd => rfl); (case hg => rfl); (case hr => first | (go_simp; done) | (go_simp; rfl)); intro gb101 hg w16 hbox hb; have n0_ := Aside0.mk (below_step (by repeat (first | (with_reducible first | exact HB.out | apply below_alloc | apply pw_below_drewN | apply below_drew1) | exact HB.out)) hb); have n1_ := Aside0.mk (hbox); have n2_ := Aside0.mk ((by rw [hg]; exact (below_size (by repeat (first | (with_reducible first | exact HB.out | apply below_alloc | apply pw_below_drewN | apply below_drew1) | exact HB.out))) : w.heap.size ≤ gb101)); have n3_ := Aside0.mk ((by rw [hg]; exact (below_size (by repeat (first | (with_reducible first | exact HB.out | apply below_alloc | apply pw_below_drewN | apply below_drew1) | exact HB.out))) : w.heap.size ≤ gb101)); clear HB; have HB := n0_; have BK101 := n1_; have GW101 := n2_; have GE101 := n3_; clear n0_ n1_ n2_ n3_; clear hb hbox hg) | ((with_reducible refine gate_dst (N := 3) rfl ?_); refine box_event ?hg (N := 3) ?hd (cs := #[.int .i64 a1_0, .int .i64 a1_1, .int .i64 a1_2, .int .i64 a1_3]) (t := 36) ?hr ?_; (case hd => rfl); (case hg => rfl); (case hr => first | (go_simp; done) | (go_simp; rfl)); intro gb102 hg w17 hbox hb; have n0_ := Aside0.mk (blk_below (g := gb101) (o := .cells #[.int .i64 a0_0, .int .i64 a0_1, .int .i64 a0_2, .int .i64 a0_3] 36 (0, 0)) (by (with_reducible repeat (first | refine blk_drewN ?_ _ | refine blk_drew ?_ | refine blk_alloc ?_ _)); exact BK101.out) hb); have n1_ := Aside0.mk (below_step (by repeat (first | (with_reducible first | exact HB.out | apply below_alloc | apply pw_below_drewN | apply below_drew1 | refine below_set ?_ GE101.out) | exact HB.out)) hb); have n2_ := Aside0.mk (hbox); have n3_ := Aside0.mk ((by rw [hg]; exact (below_size (by repeat (first | (with_reducible first | exact HB.out | apply below_alloc | apply pw_below_drewN | apply below_drew1 | refine below_set ?_ GE101.out) | exact HB.out))) : w.heap.size ≤ gb102)); have n4_ := Aside0.mk ((by rw [hg]; exact (below_size (by repeat (first | (with_reducible first | exact HB.out | apply below_alloc | apply pw_below_drewN | apply below_drew1 | refine below_set ?_ GE101.out) | exact HB.out))) : w.heap.size ≤ gb102)); have n5_ := Aside0.mk ((by rw [hg]; exact Nat.ne_of_lt (blk_lt (g := gb101) (o := .cells #[.int .i64 a0_0, .int .i64 a0_1, .int .i64 a0_2, .int .i64 a0_3] 36 (0, 0)) (by (with_reducible repeat (first | refine blk_drewN ?_ _ | refine blk_drew ?_ | refine blk_alloc ?_ _)); exact BK101.out)) : gb101 ≠ gb102)); have n6_ := Aside0.mk ((by rw [hg]; exact Nat.ne_of_gt (blk_lt (g := gb101) (o := .cells #[.int .i64 a0_0, .int .i64 a0_1, .int .i64 a0_2, .int .i64 a0_3] 36 (0, 0)) (by (with_reducible repeat (first | refine blk_drewN ?_ _ | refine blk_drew ?_ | refine blk_alloc ?_ _)); exact BK101.out)) : gb102 ≠ gb101)); clear BK101; clear HB; have BK101 := n0_; have HB := n1_; have BK102 := n2_; have GW102 := n3_; have GE102 := n4_; have NB101_102 := n5_; have NB102_101 := n6_; clear n0_ n1_ n2_ n3_ n4_ n5_ n6_; clear hb hbox hg; have hnb18 := NB101_102.out; have hnc18 := NB102_101.out; have hcz19_0 : w17.cell? ⟨gb101, 0, none⟩ = some (.int .i64 a0_0) := (blk_cell BK101.out 0).trans rfl; have hcz19_1 : w17.cell? ⟨gb101, 1, none⟩ = some (.int .i64 a0_1) := (blk_cell BK101.out 1).trans rfl; have hcz19_2 : w17.cell? ⟨gb101, 2, none⟩ = some (.int .i64 a0_2) := (blk_cell BK101.out 2).trans rfl; have hcz19_3 : w17.cell? ⟨gb101, 3, none⟩ = some (.int .i64 a0_3) := (blk_cell BK101.out 3).trans rfl; have hfz19_0 := blk_frozen BK101.out 0; have hfz19_1 := blk_frozen BK101.out 1; have hfz19_2 := blk_frozen BK101.out 2; have hfz19_3 := blk_frozen BK101.out 3; have hcz20_0 : w17.cell? ⟨gb102, 0, none⟩ = some (.int .i64 a1_0) := (blk_cell BK102.out 0).trans rfl; have hcz20_1 : w17.cell? ⟨gb102, 1, none⟩ = some (.int .i64 a1_1) := (blk_cell BK102.out 1).trans rfl; have hcz20_2 : w17.cell? ⟨gb102, 2, none⟩ = some (.int .i64 a1_2) := (blk_cell BK102.out 2).trans rfl; have hcz20_3 : w17.cell? ⟨gb102, 3, none⟩ = some (.int .i64 a1_3) := (blk_cell BK102.out 3).trans rfl; have hfz20_0 := blk_frozen BK102.out 0; have hfz20_1 := blk_frozen BK102.out 1; have hfz20_2 := blk_frozen BK102.out 2; have hfz20_3 := blk_frozen BK102.out 3))
      go_ret
      exact ⟨by first | rfl | (simp [errW_none, errW_some] <;> rfl) | (simp [*, errW_none, errW_some] <;> rfl), by repeat (first | (with_reducible first | exact HB.out | apply below_alloc | apply pw_below_drewN | apply below_drew1 | refine below_set ?_ GE101.out | refine below_set ?_ GE102.out) | exact HB.out)⟩
  · rw [if_neg c3] at H
    have c3b0 : (a0_0 == a1_0) = false := beq_eq_false_iff_ne.mpr c3
    have c3b1 : (a0_0 != a1_0) = true := bne_iff_ne.mpr c3
    obtain rfl := Option.some.inj H
    go_enter Tryd.func57, Tryd.ntmps57
    go_wp2_with (first | ((with_reducible refine gate_dst (N := 2) rfl ?_); refine box_event ?hg (N := 2) ?hd (cs := #[.int .i64 a0_0, .int .i64 a0_1, .int .i64 a0_2, .int .i64 a0_3]) (t := 36) ?hr ?_; (case hd => rfl); (case hg => rfl); (case hr => first | (go_simp; done) | (go_simp; rfl)); intro gb101 hg w21 hbox hb; have n0_ := Aside0.mk (below_step (by repeat (first | (with_reducible first | exact HB.out | apply below_alloc | apply pw_below_drewN | apply below_drew1) | exact HB.out)) hb); have n1_ := Aside0.mk (hbox); have n2_ := Aside0.mk ((by rw [hg]; exact (below_size (by repeat (first | (with_reducible first | exact HB.out | apply below_alloc | apply pw_below_drewN | apply below_drew1) | exact HB.out))) : w.heap.size ≤ gb101)); have n3_ := Aside0.mk ((by rw [hg]; exact (below_size (by repeat (first | (with_reducible first | exact HB.out | apply below_alloc | apply pw_below_drewN | apply below_drew1) | exact HB.out))) : w.heap.size ≤ gb101)); clear HB; have HB := n0_; have BK101 := n1_; have GW101 := n2_; have GE101 := n3_; clear n0_ n1_ n2_ n3_; clear hb hbox hg) | ((with_reducible refine gate_dst (N := 3) rfl ?_); refine box_event ?hg (N := 3) ?hd (cs := #[.int .i64 a1_0, .int .i64 a1_1, .int .i64 a1_2, .int .i64 a1_3]) (t := 36) ?hr ?_; (case hd => rfl); (case hg => rfl); (case hr => first | (go_simp; done) | (go_simp; rfl)); intro gb102 hg w22 hbox hb; have n0_ := Aside0.mk (blk_below (g := gb101) (o := .cells #[.int .i64 a0_0, .int .i64 a0_1, .int .i64 a0_2, .int .i64 a0_3] 36 (0, 0)) (by (with_reducible repeat (first | refine blk_drewN ?_ _ | refine blk_drew ?_ | refine blk_alloc ?_ _)); exact BK101.out) hb); have n1_ := Aside0.mk (below_step (by repeat (first | (with_reducible first | exact HB.out | apply below_alloc | apply pw_below_drewN | apply below_drew1 | refine below_set ?_ GE101.out) | exact HB.out)) hb); have n2_ := Aside0.mk (hbox); have n3_ := Aside0.mk ((by rw [hg]; exact (below_size (by repeat (first | (with_reducible first | exact HB.out | apply below_alloc | apply pw_below_drewN | apply below_drew1 | refine below_set ?_ GE101.out) | exact HB.out))) : w.heap.size ≤ gb102)); have n4_ := Aside0.mk ((by rw [hg]; exact (below_size (by repeat (first | (with_reducible first | exact HB.out | apply below_alloc | apply pw_below_drewN | apply below_drew1 | refine below_set ?_ GE101.out) | exact HB.out))) : w.heap.size ≤ gb102)); have n5_ := Aside0.mk ((by rw [hg]; exact Nat.ne_of_lt (blk_lt (g := gb101) (o := .cells #[.int .i64 a0_0, .int .i64 a0_1, .int .i64 a0_2, .int .i64 a0_3] 36 (0, 0)) (by (with_reducible repeat (first | refine blk_drewN ?_ _ | refine blk_drew ?_ | refine blk_alloc ?_ _)); exact BK101.out)) : gb101 ≠ gb102)); have n6_ := Aside0.mk ((by rw [hg]; exact Nat.ne_of_gt (blk_lt (g := gb101) (o := .cells #[.int .i64 a0_0, .int .i64 a0_1, .int .i64 a0_2, .int .i64 a0_3] 36 (0, 0)) (by (with_reducible repeat (first | refine blk_drewN ?_ _ | refine blk_drew ?_ | refine blk_alloc ?_ _)); exact BK101.out)) : gb102 ≠ gb101)); clear BK101; clear HB; have BK101 := n0_; have HB := n1_; have BK102 := n2_; have GW102 := n3_; have GE102 := n4_; have NB101_102 := n5_; have NB102_101 := n6_; clear n0_ n1_ n2_ n3_ n4_ n5_ n6_; clear hb hbox hg; have hnb23 := NB101_102.out; have hnc23 := NB102_101.out; have hcz24_0 : w22.cell? ⟨gb101, 0, none⟩ = some (.int .i64 a0_0) := (blk_cell BK101.out 0).trans rfl; have hcz24_1 : w22.cell? ⟨gb101, 1, none⟩ = some (.int .i64 a0_1) := (blk_cell BK101.out 1).trans rfl; have hcz24_2 : w22.cell? ⟨gb101, 2, none⟩ = some (.int .i64 a0_2) := (blk_cell BK101.out 2).trans rfl; have hcz24_3 : w22.cell? ⟨gb101, 3, none⟩ = some (.int .i64 a0_3) := (blk_cell BK101.out 3).trans rfl; have hfz24_0 := blk_frozen BK101.out 0; have hfz24_1 := blk_frozen BK101.out 1; have hfz24_2 := blk_frozen BK101.out 2; have hfz24_3 := blk_frozen BK101.out 3; have hcz25_0 : w22.cell? ⟨gb102, 0, none⟩ = some (.int .i64 a1_0) := (blk_cell BK102.out 0).trans rfl; have hcz25_1 : w22.cell? ⟨gb102, 1, none⟩ = some (.int .i64 a1_1) := (blk_cell BK102.out 1).trans rfl; have hcz25_2 : w22.cell? ⟨gb102, 2, none⟩ = some (.int .i64 a1_2) := (blk_cell BK102.out 2).trans rfl; have hcz25_3 : w22.cell? ⟨gb102, 3, none⟩ = some (.int .i64 a1_3) := (blk_cell BK102.out 3).trans rfl; have hfz25_0 := blk_frozen BK102.out 0; have hfz25_1 := blk_frozen BK102.out 1; have hfz25_2 := blk_frozen BK102.out 2; have hfz25_3 := blk_frozen BK102.out 3))
    go_ret
    exact ⟨by first | rfl | (simp [errW_none, errW_some] <;> rfl) | (simp [*, errW_none, errW_some] <;> rfl), by repeat (first | (with_reducible first | exact HB.out | apply below_alloc | apply pw_below_drewN | apply below_drew1 | refine below_set ?_ GE101.out | refine below_set ?_ GE102.out) | exact HB.out)⟩
def kissgateref12_better.f (a0_0 : Int) (a0_1 : Int) (a0_2 : Int) (a0_3 : Int) (a1 : Int) (a2_0 : Int) (a2_1 : Int) (a2_2 : Int) (a2_3 : Int) (a3 : Int) (a4 : Int) (a5 : Int) : Option (Int × Int × Int × Int) := if a2_0 < a1 then (if a1 = a3 then (some (a0_0, a0_1, a0_2, a0_3)) else ((kissgateref10_Better.f a2_0 (wrap64 (a2_1 + a5)) a3 a4 a0_0 a0_1 a0_2 a0_3).bind fun t107 => (if t107 = true then (some (a2_0, wrap64 (a2_1 + a5), a3, a4)) else (some (a0_0, a0_1, a0_2, a0_3))))) else (some (a0_0, a0_1, a0_2, a0_3))
set_option maxHeartbeats 8000000 in
set_option maxRecDepth 100000 in
theorem kissgateref12_better.calls (a0_0 : Int) (a0_1 : Int) (a0_2 : Int) (a0_3 : Int) (a1 : Int) (a2_0 : Int) (a2_1 : Int) (a2_2 : Int) (a2_3 : Int) (a3 : Int) (a4 : Int) (a5 : Int) (r1 : Int) (r2 : Int) (r3 : Int) (r4 : Int) (w : World) (h : kissgateref12_better.f a0_0 a0_1 a0_2 a0_3 a1 a2_0 a2_1 a2_2 a2_3 a3 a4 a5 = some (r1, r2, r3, r4)) :
    Calls Tryd.prog 47 #[.agg #[.int .i64 a0_0, .int .i64 a0_1, .int .i64 a0_2, .int .i64 a0_3], .int .i64 a1, .agg #[.int .i64 a2_0, .int .i64 a2_1, .int .i64 a2_2, .int .i64 a2_3], .int .i64 a3, .int .i64 a4, .int .i64 a5] w fun e w' => e = .returned (.agg #[.int .i64 r1, .int .i64 r2, .int .i64 r3, .int .i64 r4]) ∧ Below w.heap.size w w' := by
  have hu36 := Tryd.underlying36
  have HB := Aside0.mk (Below.refl w.heap.size w)
  have H : (if a2_0 < a1 then (if a1 = a3 then (some (a0_0, a0_1, a0_2, a0_3)) else ((kissgateref10_Better.f a2_0 (wrap64 (a2_1 + a5)) a3 a4 a0_0 a0_1 a0_2 a0_3).bind fun t107 => (if t107 = true then (some (a2_0, wrap64 (a2_1 + a5), a3, a4)) else (some (a0_0, a0_1, a0_2, a0_3))))) else (some (a0_0, a0_1, a0_2, a0_3))) = some (r1, r2, r3, r4) := h
  clear h
  by_cases c7 : a2_0 < a1
  · rw [if_pos c7] at H
    have c7b0 : decide (a2_0 < a1) = true := decide_eq_true c7
    clear c7
    by_cases c8 : a1 = a3
    · rw [if_pos c8] at H
      have c8b0 : (a1 == a3) = true := beq_iff_eq.mpr c8
      have c8b1 : (a1 != a3) = false := bne_eq_false_iff_eq.mpr c8
      clear c8
      simp only [Option.some.injEq, Prod.mk.injEq] at H
      obtain ⟨rfl, rfl, rfl, rfl⟩ := H
      go_enter Tryd.func47, Tryd.ntmps47
      go_wp2_with (first | ((with_reducible refine gate_dst (N := 6) rfl ?_); refine box_event ?hg (N := 6) ?hd (cs := #[.int .i64 a0_0, .int .i64 a0_1, .int .i64 a0_2, .int .i64 a0_3]) (t := 36) ?hr ?_; (case hd => rfl); (case hg => rfl); (case hr => first | (go_simp; done) | (go_simp; rfl)); intro gb103 hg w9 hbox hb; have n0_ := Aside0.mk (below_step (by repeat (first | (with_reducible first | exact HB.out | apply below_alloc | apply pw_below_drewN | apply below_drew1) | exact HB.out)) hb); have n1_ := Aside0.mk (hbox); have n2_ := Aside0.mk ((by rw [hg]; exact (below_size (by repeat (first | (with_reducible first | exact HB.out | apply below_alloc | apply pw_below_drewN | apply below_drew1) | exact HB.out))) : w.heap.size ≤ gb103)); have n3_ := Aside0.mk ((by rw [hg]; exact (below_size (by repeat (first | (with_reducible first | exact HB.out | apply below_alloc | apply pw_below_drewN | apply below_drew1) | exact HB.out))) : w.heap.size ≤ gb103)); clear HB; have HB := n0_; have BK103 := n1_; have GW103 := n2_; have GE103 := n3_; clear n0_ n1_ n2_ n3_; clear hb hbox hg) | ((with_reducible refine gate_dst (N := 8) rfl ?_); refine box_event ?hg (N := 8) ?hd (cs := #[.int .i64 a2_0, .int .i64 a2_1, .int .i64 a2_2, .int .i64 a2_3]) (t := 36) ?hr ?_; (case hd => rfl); (case hg => rfl); (case hr => first | (go_simp; done) | (go_simp; rfl)); intro gb104 hg w10 hbox hb; have n0_ := Aside0.mk (blk_below (g := gb103) (o := .cells #[.int .i64 a0_0, .int .i64 a0_1, .int .i64 a0_2, .int .i64 a0_3] 36 (0, 0)) (by (with_reducible repeat (first | refine blk_drewN ?_ _ | refine blk_drew ?_ | refine blk_alloc ?_ _)); exact BK103.out) hb); have n1_ := Aside0.mk (below_step (by repeat (first | (with_reducible first | exact HB.out | apply below_alloc | apply pw_below_drewN | apply below_drew1 | refine below_set ?_ GE103.out) | exact HB.out)) hb); have n2_ := Aside0.mk (hbox); have n3_ := Aside0.mk ((by rw [hg]; exact (below_size (by repeat (first | (with_reducible first | exact HB.out | apply below_alloc | apply pw_below_drewN | apply below_drew1 | refine below_set ?_ GE103.out) | exact HB.out))) : w.heap.size ≤ gb104)); have n4_ := Aside0.mk ((by rw [hg]; exact (below_size (by repeat (first | (with_reducible first | exact HB.out | apply below_alloc | apply pw_below_drewN | apply below_drew1 | refine below_set ?_ GE103.out) | exact HB.out))) : w.heap.size ≤ gb104)); have n5_ := Aside0.mk ((by rw [hg]; exact Nat.ne_of_lt (blk_lt (g := gb103) (o := .cells #[.int .i64 a0_0, .int .i64 a0_1, .int .i64 a0_2, .int .i64 a0_3] 36 (0, 0)) (by (with_reducible repeat (first | refine blk_drewN ?_ _ | refine blk_drew ?_ | refine blk_alloc ?_ _)); exact BK103.out)) : gb103 ≠ gb104)); have n6_ := Aside0.mk ((by rw [hg]; exact Nat.ne_of_gt (blk_lt (g := gb103) (o := .cells #[.int .i64 a0_0, .int .i64 a0_1, .int .i64 a0_2, .int .i64 a0_3] 36 (0, 0)) (by (with_reducible repeat (first | refine blk_drewN ?_ _ | refine blk_drew ?_ | refine blk_alloc ?_ _)); exact BK103.out)) : gb104 ≠ gb103)); clear BK103; clear HB; have BK103 := n0_; have HB := n1_; have BK104 := n2_; have GW104 := n3_; have GE104 := n4_; have NB103_104 := n5_; have NB104_103 := n6_; clear n0_ n1_ n2_ n3_ n4_ n5_ n6_; clear hb hbox hg) | ((with_reducible refine gate_dst (N := 12) rfl ?_); refine box_event ?hg (N := 12) ?hd (cs := #[.int .i64 0, .int .i64 0, .int .i64 0, .int .i64 0]) (t := 36) ?hr ?_; (case hd => rfl); (case hg => rfl); (case hr => first | (go_simp; done) | (go_simp; rfl)); intro gb105 hg w11 hbox hb; have n0_ := Aside0.mk (blk_below (g := gb103) (o := .cells #[.int .i64 a0_0, .int .i64 a0_1, .int .i64 a0_2, .int .i64 a0_3] 36 (0, 0)) (by (with_reducible repeat (first | refine blk_drewN ?_ _ | refine blk_drew ?_ | refine blk_alloc ?_ _)); exact BK103.out) hb); have n1_ := Aside0.mk (blk_below (g := gb104) (o := .cells #[.int .i64 a2_0, .int .i64 a2_1, .int .i64 a2_2, .int .i64 a2_3] 36 (0, 0)) (by (with_reducible repeat (first | refine blk_drewN ?_ _ | refine blk_drew ?_ | refine blk_alloc ?_ _)); exact BK104.out) hb); have n2_ := Aside0.mk (below_step (by repeat (first | (with_reducible first | exact HB.out | apply below_alloc | apply pw_below_drewN | apply below_drew1 | refine below_set ?_ GE103.out | refine below_set ?_ GE104.out) | exact HB.out)) hb); have n3_ := Aside0.mk (hbox); have n4_ := Aside0.mk ((by rw [hg]; exact (below_size (by repeat (first | (with_reducible first | exact HB.out | apply below_alloc | apply pw_below_drewN | apply below_drew1 | refine below_set ?_ GE103.out | refine below_set ?_ GE104.out) | exact HB.out))) : w.heap.size ≤ gb105)); have n5_ := Aside0.mk ((by rw [hg]; exact (below_size (by repeat (first | (with_reducible first | exact HB.out | apply below_alloc | apply pw_below_drewN | apply below_drew1 | refine below_set ?_ GE103.out | refine below_set ?_ GE104.out) | exact HB.out))) : w.heap.size ≤ gb105)); have n6_ := Aside0.mk ((by rw [hg]; exact Nat.ne_of_lt (blk_lt (g := gb103) (o := .cells #[.int .i64 a0_0, .int .i64 a0_1, .int .i64 a0_2, .int .i64 a0_3] 36 (0, 0)) (by (with_reducible repeat (first | refine blk_drewN ?_ _ | refine blk_drew ?_ | refine blk_alloc ?_ _)); exact BK103.out)) : gb103 ≠ gb105)); have n7_ := Aside0.mk ((by rw [hg]; exact Nat.ne_of_gt (blk_lt (g := gb103) (o := .cells #[.int .i64 a0_0, .int .i64 a0_1, .int .i64 a0_2, .int .i64 a0_3] 36 (0, 0)) (by (with_reducible repeat (first | refine blk_drewN ?_ _ | refine blk_drew ?_ | refine blk_alloc ?_ _)); exact BK103.out)) : gb105 ≠ gb103)); have n8_ := Aside0.mk ((by rw [hg]; exact Nat.ne_of_lt (blk_lt (g := gb104) (o := .cells #[.int .i64 a2_0, .int .i64 a2_1, .int .i64 a2_2, .int .i64 a2_3] 36 (0, 0)) (by (with_reducible repeat (first | refine blk_drewN ?_ _ | refine blk_drew ?_ | refine blk_alloc ?_ _)); exact BK104.out)) : gb104 ≠ gb105)); have n9_ := Aside0.mk ((by rw [hg]; exact Nat.ne_of_gt (blk_lt (g := gb104) (o := .cells #[.int .i64 a2_0, .int .i64 a2_1, .int .i64 a2_2, .int .i64 a2_3] 36 (0, 0)) (by (with_reducible repeat (first | refine blk_drewN ?_ _ | refine blk_drew ?_ | refine blk_alloc ?_ _)); exact BK104.out)) : gb105 ≠ gb104)); clear BK103; clear BK104; clear HB; have BK103 := n0_; have BK104 := n1_; have HB := n2_; have BK105 := n3_; have GW105 := n4_; have GE105 := n5_; have NB103_105 := n6_; have NB105_103 := n7_; have NB104_105 := n8_; have NB105_104 := n9_; clear n0_ n1_ n2_ n3_ n4_ n5_ n6_ n7_ n8_ n9_; clear hb hbox hg; have hnb12 := NB104_103.out; have hnc12 := NB103_104.out; have hnb13 := NB104_105.out; have hnc13 := NB105_104.out; have hcz14_0 : w11.cell? ⟨gb104, 0, none⟩ = some (.int .i64 a2_0) := (blk_cell BK104.out 0).trans rfl; have hcz14_1 : w11.cell? ⟨gb104, 1, none⟩ = some (.int .i64 a2_1) := (blk_cell BK104.out 1).trans rfl; have hcz14_2 : w11.cell? ⟨gb104, 2, none⟩ = some (.int .i64 a2_2) := (blk_cell BK104.out 2).trans rfl; have hcz14_3 : w11.cell? ⟨gb104, 3, none⟩ = some (.int .i64 a2_3) := (blk_cell BK104.out 3).trans rfl; have hfz14_0 := blk_frozen BK104.out 0; have hfz14_1 := blk_frozen BK104.out 1; have hfz14_2 := blk_frozen BK104.out 2; have hfz14_3 := blk_frozen BK104.out 3) | ((with_reducible refine gate_dst (N := 13) rfl ?_); refine box_event ?hg (N := 13) ?hd (cs := #[.int .i64 0, .int .i64 0, .int .i64 0, .int .i64 0]) (t := 36) ?hr ?_; (case hd => rfl); (case hg => rfl); (case hr => first | (go_simp; done) | (go_simp; rfl)); intro gb106 hg w15 hbox hb; have n0_ := Aside0.mk (blk_below (g := gb103) (o := .cells #[.int .i64 a0_0, .int .i64 a0_1, .int .i64 a0_2, .int .i64 a0_3] 36 (0, 0)) (by (with_reducible repeat (first | refine blk_drewN ?_ _ | refine blk_drew ?_ | refine blk_alloc ?_ _)); exact BK103.out) hb); have n1_ := Aside0.mk (blk_below (g := gb104) (o := .cells #[.int .i64 a2_0, .int .i64 a2_1, .int .i64 a2_2, .int .i64 a2_3] 36 (0, 0)) (by (with_reducible repeat (first | refine blk_drewN ?_ _ | refine blk_drew ?_ | refine blk_alloc ?_ _)); exact BK104.out) hb); have n2_ := Aside0.mk (blk_below (g := gb105) (o := .cells #[.int .i64 0, .int .i64 0, .int .i64 0, .int .i64 0] 36 (0, 0)) (by (with_reducible repeat (first | refine blk_drewN ?_ _ | refine blk_drew ?_ | refine blk_alloc ?_ _)); exact BK105.out) hb); have n3_ := Aside0.mk (below_step (by repeat (first | (with_reducible first | exact HB.out | apply below_alloc | apply pw_below_drewN | apply below_drew1 | refine below_set ?_ GE103.out | refine below_set ?_ GE104.out | refine below_set ?_ GE105.out) | exact HB.out)) hb); have n4_ := Aside0.mk (hbox); have n5_ := Aside0.mk ((by rw [hg]; exact (below_size (by repeat (first | (with_reducible first | exact HB.out | apply below_alloc | apply pw_below_drewN | apply below_drew1 | refine below_set ?_ GE103.out | refine below_set ?_ GE104.out | refine below_set ?_ GE105.out) | exact HB.out))) : w.heap.size ≤ gb106)); have n6_ := Aside0.mk ((by rw [hg]; exact (below_size (by repeat (first | (with_reducible first | exact HB.out | apply below_alloc | apply pw_below_drewN | apply below_drew1 | refine below_set ?_ GE103.out | refine below_set ?_ GE104.out | refine below_set ?_ GE105.out) | exact HB.out))) : w.heap.size ≤ gb106)); have n7_ := Aside0.mk ((by rw [hg]; exact Nat.ne_of_lt (blk_lt (g := gb103) (o := .cells #[.int .i64 a0_0, .int .i64 a0_1, .int .i64 a0_2, .int .i64 a0_3] 36 (0, 0)) (by (with_reducible repeat (first | refine blk_drewN ?_ _ | refine blk_drew ?_ | refine blk_alloc ?_ _)); exact BK103.out)) : gb103 ≠ gb106)); have n8_ := Aside0.mk ((by rw [hg]; exact Nat.ne_of_gt (blk_lt (g := gb103) (o := .cells #[.int .i64 a0_0, .int .i64 a0_1, .int .i64 a0_2, .int .i64 a0_3] 36 (0, 0)) (by (with_reducible repeat (first | refine blk_drewN ?_ _ | refine blk_drew ?_ | refine blk_alloc ?_ _)); exact BK103.out)) : gb106 ≠ gb103)); have n9_ := Aside0.mk ((by rw [hg]; exact Nat.ne_of_lt (blk_lt (g := gb104) (o := .cells #[.int .i64 a2_0, .int .i64 a2_1, .int .i64 a2_2, .int .i64 a2_3] 36 (0, 0)) (by (with_reducible repeat (first | refine blk_drewN ?_ _ | refine blk_drew ?_ | refine blk_alloc ?_ _)); exact BK104.out)) : gb104 ≠ gb106)); have n10_ := Aside0.mk ((by rw [hg]; exact Nat.ne_of_gt (blk_lt (g := gb104) (o := .cells #[.int .i64 a2_0, .int .i64 a2_1, .int .i64 a2_2, .int .i64 a2_3] 36 (0, 0)) (by (with_reducible repeat (first | refine blk_drewN ?_ _ | refine blk_drew ?_ | refine blk_alloc ?_ _)); exact BK104.out)) : gb106 ≠ gb104)); have n11_ := Aside0.mk ((by rw [hg]; exact Nat.ne_of_lt (blk_lt (g := gb105) (o := .cells #[.int .i64 0, .int .i64 0, .int .i64 0, .int .i64 0] 36 (0, 0)) (by (with_reducible repeat (first | refine blk_drewN ?_ _ | refine blk_drew ?_ | refine blk_alloc ?_ _)); exact BK105.out)) : gb105 ≠ gb106)); have n12_ := Aside0.mk ((by rw [hg]; exact Nat.ne_of_gt (blk_lt (g := gb105) (o := .cells #[.int .i64 0, .int .i64 0, .int .i64 0, .int .i64 0] 36 (0, 0)) (by (with_reducible repeat (first | refine blk_drewN ?_ _ | refine blk_drew ?_ | refine blk_alloc ?_ _)); exact BK105.out)) : gb106 ≠ gb105)); clear BK103; clear BK104; clear BK105; clear HB; have BK103 := n0_; have BK104 := n1_; have BK105 := n2_; have HB := n3_; have BK106 := n4_; have GW106 := n5_; have GE106 := n6_; have NB103_106 := n7_; have NB106_103 := n8_; have NB104_106 := n9_; have NB106_104 := n10_; have NB105_106 := n11_; have NB106_105 := n12_; clear n0_ n1_ n2_ n3_ n4_ n5_ n6_ n7_ n8_ n9_ n10_ n11_ n12_; clear hb hbox hg; have hnb16 := NB106_103.out; have hnc16 := NB103_106.out; have hnb17 := NB106_104.out; have hnc17 := NB104_106.out; have hnb18 := NB106_105.out; have hnc18 := NB105_106.out; have hcz19_0 : w15.cell? ⟨gb106, 0, none⟩ = some (.int .i64 0) := (blk_cell BK106.out 0).trans rfl; have hcz19_1 : w15.cell? ⟨gb106, 1, none⟩ = some (.int .i64 0) := (blk_cell BK106.out 1).trans rfl; have hcz19_2 : w15.cell? ⟨gb106, 2, none⟩ = some (.int .i64 0) := (blk_cell BK106.out 2).trans rfl; have hcz19_3 : w15.cell? ⟨gb106, 3, none⟩ = some (.int .i64 0) := (blk_cell BK106.out 3).trans rfl; have hfz19_0 := blk_frozen BK106.out 0; have hfz19_1 := blk_frozen BK106.out 1; have hfz19_2 := blk_frozen BK106.out 2; have hfz19_3 := blk_frozen BK106.out 3; have hnb20 := NB103_105.out; have hnc20 := NB105_103.out; have hcz21_0 : w15.cell? ⟨gb103, 0, none⟩ = some (.int .i64 a0_0) := (blk_cell BK103.out 0).trans rfl; have hcz21_1 : w15.cell? ⟨gb103, 1, none⟩ = some (.int .i64 a0_1) := (blk_cell BK103.out 1).trans rfl; have hcz21_2 : w15.cell? ⟨gb103, 2, none⟩ = some (.int .i64 a0_2) := (blk_cell BK103.out 2).trans rfl; have hcz21_3 : w15.cell? ⟨gb103, 3, none⟩ = some (.int .i64 a0_3) := (blk_cell BK103.out 3).trans rfl; have hfz21_0 := blk_frozen BK103.out 0; have hfz21_1 := blk_frozen BK103.out 1; have hfz21_2 := blk_frozen BK103.out 2; have hfz21_3 := blk_frozen BK103.out 3; have hcz22_0 : w15.cell? ⟨gb105, 0, none⟩ = some (.int .i64 0) := (blk_cell BK105.out 0).trans rfl; have hcz22_1 : w15.cell? ⟨gb105, 1, none⟩ = some (.int .i64 0) := (blk_cell BK105.out 1).trans rfl; have hcz22_2 : w15.cell? ⟨gb105, 2, none⟩ = some (.int .i64 0) := (blk_cell BK105.out 2).trans rfl; have hcz22_3 : w15.cell? ⟨gb105, 3, none⟩ = some (.int .i64 0) := (blk_cell BK105.out 3).trans rfl; have hfz22_0 := blk_frozen BK105.out 0; have hfz22_1 := blk_frozen BK105.out 1; have hfz22_2 := blk_frozen BK105.out 2; have hfz22_3 := blk_frozen BK105.out 3))
      refine bodyPost_ret (results_cell_row rfl _ _ gb105 36 #[.int .i64 a0_0, .int .i64 a0_1, .int .i64 a0_2, .int .i64 a0_3] (0, 0) _ rfl (by (with_reducible repeat (first | refine blk_drewN ?_ _ | refine blk_drew ?_ | refine blk_alloc ?_ _)); refine blk_put (cs := #[.int .i64 a0_0, .int .i64 a0_1, .int .i64 a0_2, .int .i64 0]) ?_ 3 _ rfl; (with_reducible repeat (first | refine blk_drewN ?_ _ | refine blk_drew ?_ | refine blk_alloc ?_ _)); refine blk_put (cs := #[.int .i64 a0_0, .int .i64 a0_1, .int .i64 0, .int .i64 0]) ?_ 2 _ rfl; (with_reducible repeat (first | refine blk_drewN ?_ _ | refine blk_drew ?_ | refine blk_alloc ?_ _)); refine blk_put (cs := #[.int .i64 a0_0, .int .i64 0, .int .i64 0, .int .i64 0]) ?_ 1 _ rfl; (with_reducible repeat (first | refine blk_drewN ?_ _ | refine blk_drew ?_ | refine blk_alloc ?_ _)); refine blk_put (cs := #[.int .i64 0, .int .i64 0, .int .i64 0, .int .i64 0]) ?_ 0 _ rfl; (with_reducible repeat (first | refine blk_drewN ?_ _ | refine blk_drew ?_ | refine blk_alloc ?_ _)); refine blk_far ?_ NB105_106.out _; (with_reducible repeat (first | refine blk_drewN ?_ _ | refine blk_drew ?_ | refine blk_alloc ?_ _)); refine blk_far ?_ NB105_106.out _; (with_reducible repeat (first | refine blk_drewN ?_ _ | refine blk_drew ?_ | refine blk_alloc ?_ _)); refine blk_far ?_ NB105_106.out _; (with_reducible repeat (first | refine blk_drewN ?_ _ | refine blk_drew ?_ | refine blk_alloc ?_ _)); refine blk_far ?_ NB105_106.out _; (with_reducible repeat (first | refine blk_drewN ?_ _ | refine blk_drew ?_ | refine blk_alloc ?_ _)); exact BK105.out) Tryd.underlying36 rfl (by kernel_rfl)) rfl ?_
      exact ⟨by first | rfl | (simp [errW_none, errW_some] <;> rfl) | (simp [*, errW_none, errW_some] <;> rfl), by repeat (first | (with_reducible first | exact HB.out | apply below_alloc | apply pw_below_drewN | apply below_drew1 | refine below_set ?_ GE103.out | refine below_set ?_ GE104.out | refine below_set ?_ GE105.out | refine below_set ?_ GE106.out) | exact HB.out)⟩
    · rw [if_neg c8] at H
      have c8b0 : (a1 == a3) = false := beq_eq_false_iff_ne.mpr c8
      have c8b1 : (a1 != a3) = true := bne_iff_ne.mpr c8
      replace H := Option.bind_eq_some_iff.mp H
      obtain ⟨t107, A230, H⟩ := H
      replace H : (if t107 = true then (some (a2_0, wrap64 (a2_1 + a5), a3, a4)) else (some (a0_0, a0_1, a0_2, a0_3))) = some (r1, r2, r3, r4) := H
      have A23 := Aside0.mk A230
      clear A230
      by_cases c24 : t107 = true
      · subst c24
        have H1 : (some (a2_0, wrap64 (a2_1 + a5), a3, a4)) = some (r1, r2, r3, r4) := by rw [if_pos rfl] at H; exact H
        clear H
        have H := H1
        clear H1
        simp only [Option.some.injEq, Prod.mk.injEq] at H
        obtain ⟨rfl, rfl, rfl, rfl⟩ := H
        go_enter Tryd.func47, Tryd.ntmps47
        go_wp2_with (first | ((with_reducible refine gate_dst (N := 6) rfl ?_); refine box_event ?hg (N := 6) ?hd (cs := #[.int .i64 a0_0, .int .i64 a0_1, .int .i64 a0_2, .int .i64 a0_3]) (t := 36) ?hr ?_; (case hd => rfl); (case hg => rfl); (case hr => first | (go_simp; done) | (go_simp; rfl)); intro gb103 hg w25 hbox hb; have n0_ := Aside0.mk (below_step (by repeat (first | (with_reducible first | exact HB.out | apply below_alloc | apply pw_below_drewN | apply below_drew1) | exact HB.out)) hb); have n1_ := Aside0.mk (hbox); have n2_ := Aside0.mk ((by rw [hg]; exact (below_size (by repeat (first | (with_reducible first | exact HB.out | apply below_alloc | apply pw_below_drewN | apply below_drew1) | exact HB.out))) : w.heap.size ≤ gb103)); have n3_ := Aside0.mk ((by rw [hg]; exact (below_size (by repeat (first | (with_reducible first | exact HB.out | apply below_alloc | apply pw_below_drewN | apply below_drew1) | exact HB.out))) : w.heap.size ≤ gb103)); clear HB; have HB := n0_; have BK103 := n1_; have GW103 := n2_; have GE103 := n3_; clear n0_ n1_ n2_ n3_; clear hb hbox hg) | ((with_reducible refine gate_dst (N := 8) rfl ?_); refine box_event ?hg (N := 8) ?hd (cs := #[.int .i64 a2_0, .int .i64 a2_1, .int .i64 a2_2, .int .i64 a2_3]) (t := 36) ?hr ?_; (case hd => rfl); (case hg => rfl); (case hr => first | (go_simp; done) | (go_simp; rfl)); intro gb104 hg w26 hbox hb; have n0_ := Aside0.mk (blk_below (g := gb103) (o := .cells #[.int .i64 a0_0, .int .i64 a0_1, .int .i64 a0_2, .int .i64 a0_3] 36 (0, 0)) (by (with_reducible repeat (first | refine blk_drewN ?_ _ | refine blk_drew ?_ | refine blk_alloc ?_ _)); exact BK103.out) hb); have n1_ := Aside0.mk (below_step (by repeat (first | (with_reducible first | exact HB.out | apply below_alloc | apply pw_below_drewN | apply below_drew1 | refine below_set ?_ GE103.out) | exact HB.out)) hb); have n2_ := Aside0.mk (hbox); have n3_ := Aside0.mk ((by rw [hg]; exact (below_size (by repeat (first | (with_reducible first | exact HB.out | apply below_alloc | apply pw_below_drewN | apply below_drew1 | refine below_set ?_ GE103.out) | exact HB.out))) : w.heap.size ≤ gb104)); have n4_ := Aside0.mk ((by rw [hg]; exact (below_size (by repeat (first | (with_reducible first | exact HB.out | apply below_alloc | apply pw_below_drewN | apply below_drew1 | refine below_set ?_ GE103.out) | exact HB.out))) : w.heap.size ≤ gb104)); have n5_ := Aside0.mk ((by rw [hg]; exact Nat.ne_of_lt (blk_lt (g := gb103) (o := .cells #[.int .i64 a0_0, .int .i64 a0_1, .int .i64 a0_2, .int .i64 a0_3] 36 (0, 0)) (by (with_reducible repeat (first | refine blk_drewN ?_ _ | refine blk_drew ?_ | refine blk_alloc ?_ _)); exact BK103.out)) : gb103 ≠ gb104)); have n6_ := Aside0.mk ((by rw [hg]; exact Nat.ne_of_gt (blk_lt (g := gb103) (o := .cells #[.int .i64 a0_0, .int .i64 a0_1, .int .i64 a0_2, .int .i64 a0_3] 36 (0, 0)) (by (with_reducible repeat (first | refine blk_drewN ?_ _ | refine blk_drew ?_ | refine blk_alloc ?_ _)); exact BK103.out)) : gb104 ≠ gb103)); clear BK103; clear HB; have BK103 := n0_; have HB := n1_; have BK104 := n2_; have GW104 := n3_; have GE104 := n4_; have NB103_104 := n5_; have NB104_103 := n6_; clear n0_ n1_ n2_ n3_ n4_ n5_ n6_; clear hb hbox hg) | ((with_reducible refine gate_dst (N := 12) rfl ?_); refine box_event ?hg (N := 12) ?hd (cs := #[.int .i64 0, .int .i64 0, .int .i64 0, .int .i64 0]) (t := 36) ?hr ?_; (case hd => rfl); (case hg => rfl); (case hr => first | (go_simp; done) | (go_simp; rfl)); intro gb105 hg w27 hbox hb; have n0_ := Aside0.mk (blk_below (g := gb103) (o := .cells #[.int .i64 a0_0, .int .i64 a0_1, .int .i64 a0_2, .int .i64 a0_3] 36 (0, 0)) (by (with_reducible repeat (first | refine blk_drewN ?_ _ | refine blk_drew ?_ | refine blk_alloc ?_ _)); exact BK103.out) hb); have n1_ := Aside0.mk (blk_below (g := gb104) (o := .cells #[.int .i64 a2_0, .int .i64 a2_1, .int .i64 a2_2, .int .i64 a2_3] 36 (0, 0)) (by (with_reducible repeat (first | refine blk_drewN ?_ _ | refine blk_drew ?_ | refine blk_alloc ?_ _)); exact BK104.out) hb); have n2_ := Aside0.mk (below_step (by repeat (first | (with_reducible first | exact HB.out | apply below_alloc | apply pw_below_drewN | apply below_drew1 | refine below_set ?_ GE103.out | refine below_set ?_ GE104.out) | exact HB.out)) hb); have n3_ := Aside0.mk (hbox); have n4_ := Aside0.mk ((by rw [hg]; exact (below_size (by repeat (first | (with_reducible first | exact HB.out | apply below_alloc | apply pw_below_drewN | apply below_drew1 | refine below_set ?_ GE103.out | refine below_set ?_ GE104.out) | exact HB.out))) : w.heap.size ≤ gb105)); have n5_ := Aside0.mk ((by rw [hg]; exact (below_size (by repeat (first | (with_reducible first | exact HB.out | apply below_alloc | apply pw_below_drewN | apply below_drew1 | refine below_set ?_ GE103.out | refine below_set ?_ GE104.out) | exact HB.out))) : w.heap.size ≤ gb105)); have n6_ := Aside0.mk ((by rw [hg]; exact Nat.ne_of_lt (blk_lt (g := gb103) (o := .cells #[.int .i64 a0_0, .int .i64 a0_1, .int .i64 a0_2, .int .i64 a0_3] 36 (0, 0)) (by (with_reducible repeat (first | refine blk_drewN ?_ _ | refine blk_drew ?_ | refine blk_alloc ?_ _)); exact BK103.out)) : gb103 ≠ gb105)); have n7_ := Aside0.mk ((by rw [hg]; exact Nat.ne_of_gt (blk_lt (g := gb103) (o := .cells #[.int .i64 a0_0, .int .i64 a0_1, .int .i64 a0_2, .int .i64 a0_3] 36 (0, 0)) (by (with_reducible repeat (first | refine blk_drewN ?_ _ | refine blk_drew ?_ | refine blk_alloc ?_ _)); exact BK103.out)) : gb105 ≠ gb103)); have n8_ := Aside0.mk ((by rw [hg]; exact Nat.ne_of_lt (blk_lt (g := gb104) (o := .cells #[.int .i64 a2_0, .int .i64 a2_1, .int .i64 a2_2, .int .i64 a2_3] 36 (0, 0)) (by (with_reducible repeat (first | refine blk_drewN ?_ _ | refine blk_drew ?_ | refine blk_alloc ?_ _)); exact BK104.out)) : gb104 ≠ gb105)); have n9_ := Aside0.mk ((by rw [hg]; exact Nat.ne_of_gt (blk_lt (g := gb104) (o := .cells #[.int .i64 a2_0, .int .i64 a2_1, .int .i64 a2_2, .int .i64 a2_3] 36 (0, 0)) (by (with_reducible repeat (first | refine blk_drewN ?_ _ | refine blk_drew ?_ | refine blk_alloc ?_ _)); exact BK104.out)) : gb105 ≠ gb104)); clear BK103; clear BK104; clear HB; have BK103 := n0_; have BK104 := n1_; have HB := n2_; have BK105 := n3_; have GW105 := n4_; have GE105 := n5_; have NB103_105 := n6_; have NB105_103 := n7_; have NB104_105 := n8_; have NB105_104 := n9_; clear n0_ n1_ n2_ n3_ n4_ n5_ n6_ n7_ n8_ n9_; clear hb hbox hg; have hnb28 := NB104_103.out; have hnc28 := NB103_104.out; have hnb29 := NB104_105.out; have hnc29 := NB105_104.out; have hcz30_0 : w27.cell? ⟨gb104, 0, none⟩ = some (.int .i64 a2_0) := (blk_cell BK104.out 0).trans rfl; have hcz30_1 : w27.cell? ⟨gb104, 1, none⟩ = some (.int .i64 a2_1) := (blk_cell BK104.out 1).trans rfl; have hcz30_2 : w27.cell? ⟨gb104, 2, none⟩ = some (.int .i64 a2_2) := (blk_cell BK104.out 2).trans rfl; have hcz30_3 : w27.cell? ⟨gb104, 3, none⟩ = some (.int .i64 a2_3) := (blk_cell BK104.out 3).trans rfl; have hfz30_0 := blk_frozen BK104.out 0; have hfz30_1 := blk_frozen BK104.out 1; have hfz30_2 := blk_frozen BK104.out 2; have hfz30_3 := blk_frozen BK104.out 3) | ((with_reducible refine gate_dst (N := 13) rfl ?_); refine box_event ?hg (N := 13) ?hd (cs := #[.int .i64 0, .int .i64 0, .int .i64 0, .int .i64 0]) (t := 36) ?hr ?_; (case hd => rfl); (case hg => rfl); (case hr => first | (go_simp; done) | (go_simp; rfl)); intro gb106 hg w31 hbox hb; have n0_ := Aside0.mk (blk_below (g := gb103) (o := .cells #[.int .i64 a0_0, .int .i64 a0_1, .int .i64 a0_2, .int .i64 a0_3] 36 (0, 0)) (by (with_reducible repeat (first | refine blk_drewN ?_ _ | refine blk_drew ?_ | refine blk_alloc ?_ _)); exact BK103.out) hb); have n1_ := Aside0.mk (blk_below (g := gb104) (o := .cells #[.int .i64 a2_0, .int .i64 a2_1, .int .i64 a2_2, .int .i64 a2_3] 36 (0, 0)) (by (with_reducible repeat (first | refine blk_drewN ?_ _ | refine blk_drew ?_ | refine blk_alloc ?_ _)); exact BK104.out) hb); have n2_ := Aside0.mk (blk_below (g := gb105) (o := .cells #[.int .i64 0, .int .i64 0, .int .i64 0, .int .i64 0] 36 (0, 0)) (by (with_reducible repeat (first | refine blk_drewN ?_ _ | refine blk_drew ?_ | refine blk_alloc ?_ _)); exact BK105.out) hb); have n3_ := Aside0.mk (below_step (by repeat (first | (with_reducible first | exact HB.out | apply below_alloc | apply pw_below_drewN | apply below_drew1 | refine below_set ?_ GE103.out | refine below_set ?_ GE104.out | refine below_set ?_ GE105.out) | exact HB.out)) hb); have n4_ := Aside0.mk (hbox); have n5_ := Aside0.mk ((by rw [hg]; exact (below_size (by repeat (first | (with_reducible first | exact HB.out | apply below_alloc | apply pw_below_drewN | apply below_drew1 | refine below_set ?_ GE103.out | refine below_set ?_ GE104.out | refine below_set ?_ GE105.out) | exact HB.out))) : w.heap.size ≤ gb106)); have n6_ := Aside0.mk ((by rw [hg]; exact (below_size (by repeat (first | (with_reducible first | exact HB.out | apply below_alloc | apply pw_below_drewN | apply below_drew1 | refine below_set ?_ GE103.out | refine below_set ?_ GE104.out | refine below_set ?_ GE105.out) | exact HB.out))) : w.heap.size ≤ gb106)); have n7_ := Aside0.mk ((by rw [hg]; exact Nat.ne_of_lt (blk_lt (g := gb103) (o := .cells #[.int .i64 a0_0, .int .i64 a0_1, .int .i64 a0_2, .int .i64 a0_3] 36 (0, 0)) (by (with_reducible repeat (first | refine blk_drewN ?_ _ | refine blk_drew ?_ | refine blk_alloc ?_ _)); exact BK103.out)) : gb103 ≠ gb106)); have n8_ := Aside0.mk ((by rw [hg]; exact Nat.ne_of_gt (blk_lt (g := gb103) (o := .cells #[.int .i64 a0_0, .int .i64 a0_1, .int .i64 a0_2, .int .i64 a0_3] 36 (0, 0)) (by (with_reducible repeat (first | refine blk_drewN ?_ _ | refine blk_drew ?_ | refine blk_alloc ?_ _)); exact BK103.out)) : gb106 ≠ gb103)); have n9_ := Aside0.mk ((by rw [hg]; exact Nat.ne_of_lt (blk_lt (g := gb104) (o := .cells #[.int .i64 a2_0, .int .i64 a2_1, .int .i64 a2_2, .int .i64 a2_3] 36 (0, 0)) (by (with_reducible repeat (first | refine blk_drewN ?_ _ | refine blk_drew ?_ | refine blk_alloc ?_ _)); exact BK104.out)) : gb104 ≠ gb106)); have n10_ := Aside0.mk ((by rw [hg]; exact Nat.ne_of_gt (blk_lt (g := gb104) (o := .cells #[.int .i64 a2_0, .int .i64 a2_1, .int .i64 a2_2, .int .i64 a2_3] 36 (0, 0)) (by (with_reducible repeat (first | refine blk_drewN ?_ _ | refine blk_drew ?_ | refine blk_alloc ?_ _)); exact BK104.out)) : gb106 ≠ gb104)); have n11_ := Aside0.mk ((by rw [hg]; exact Nat.ne_of_lt (blk_lt (g := gb105) (o := .cells #[.int .i64 0, .int .i64 0, .int .i64 0, .int .i64 0] 36 (0, 0)) (by (with_reducible repeat (first | refine blk_drewN ?_ _ | refine blk_drew ?_ | refine blk_alloc ?_ _)); exact BK105.out)) : gb105 ≠ gb106)); have n12_ := Aside0.mk ((by rw [hg]; exact Nat.ne_of_gt (blk_lt (g := gb105) (o := .cells #[.int .i64 0, .int .i64 0, .int .i64 0, .int .i64 0] 36 (0, 0)) (by (with_reducible repeat (first | refine blk_drewN ?_ _ | refine blk_drew ?_ | refine blk_alloc ?_ _)); exact BK105.out)) : gb106 ≠ gb105)); clear BK103; clear BK104; clear BK105; clear HB; have BK103 := n0_; have BK104 := n1_; have BK105 := n2_; have HB := n3_; have BK106 := n4_; have GW106 := n5_; have GE106 := n6_; have NB103_106 := n7_; have NB106_103 := n8_; have NB104_106 := n9_; have NB106_104 := n10_; have NB105_106 := n11_; have NB106_105 := n12_; clear n0_ n1_ n2_ n3_ n4_ n5_ n6_ n7_ n8_ n9_ n10_ n11_ n12_; clear hb hbox hg; have hnb32 := NB106_103.out; have hnc32 := NB103_106.out; have hnb33 := NB106_104.out; have hnc33 := NB104_106.out; have hnb34 := NB106_105.out; have hnc34 := NB105_106.out; have hcz35_0 : w31.cell? ⟨gb106, 0, none⟩ = some (.int .i64 0) := (blk_cell BK106.out 0).trans rfl; have hcz35_1 : w31.cell? ⟨gb106, 1, none⟩ = some (.int .i64 0) := (blk_cell BK106.out 1).trans rfl; have hcz35_2 : w31.cell? ⟨gb106, 2, none⟩ = some (.int .i64 0) := (blk_cell BK106.out 2).trans rfl; have hcz35_3 : w31.cell? ⟨gb106, 3, none⟩ = some (.int .i64 0) := (blk_cell BK106.out 3).trans rfl; have hfz35_0 := blk_frozen BK106.out 0; have hfz35_1 := blk_frozen BK106.out 1; have hfz35_2 := blk_frozen BK106.out 2; have hfz35_3 := blk_frozen BK106.out 3; have hnb36 := NB103_105.out; have hnc36 := NB105_103.out; have hcz37_0 : w31.cell? ⟨gb103, 0, none⟩ = some (.int .i64 a0_0) := (blk_cell BK103.out 0).trans rfl; have hcz37_1 : w31.cell? ⟨gb103, 1, none⟩ = some (.int .i64 a0_1) := (blk_cell BK103.out 1).trans rfl; have hcz37_2 : w31.cell? ⟨gb103, 2, none⟩ = some (.int .i64 a0_2) := (blk_cell BK103.out 2).trans rfl; have hcz37_3 : w31.cell? ⟨gb103, 3, none⟩ = some (.int .i64 a0_3) := (blk_cell BK103.out 3).trans rfl; have hfz37_0 := blk_frozen BK103.out 0; have hfz37_1 := blk_frozen BK103.out 1; have hfz37_2 := blk_frozen BK103.out 2; have hfz37_3 := blk_frozen BK103.out 3) | (go_at_call 57; (with_reducible refine (kissgateref10_Better.calls a2_0 (wrap64 (a2_1 + a5)) a3 a4 a0_0 a0_1 a0_2 a0_3 true _ A23.out).mono ?_); rintro e w38 ⟨rfl, hb⟩; have n0_ := Aside0.mk (blk_below (g := gb103) (o := .cells #[.int .i64 a0_0, .int .i64 a0_1, .int .i64 a0_2, .int .i64 a0_3] 36 (0, 0)) (by (with_reducible repeat (first | refine blk_drewN ?_ _ | refine blk_drew ?_ | refine blk_alloc ?_ _)); refine blk_far ?_ NB103_106.out _; (with_reducible repeat (first | refine blk_drewN ?_ _ | refine blk_drew ?_ | refine blk_alloc ?_ _)); refine blk_far ?_ NB103_106.out _; (with_reducible repeat (first | refine blk_drewN ?_ _ | refine blk_drew ?_ | refine blk_alloc ?_ _)); refine blk_far ?_ NB103_106.out _; (with_reducible repeat (first | refine blk_drewN ?_ _ | refine blk_drew ?_ | refine blk_alloc ?_ _)); refine blk_far ?_ NB103_106.out _; (with_reducible repeat (first | refine blk_drewN ?_ _ | refine blk_drew ?_ | refine blk_alloc ?_ _)); exact BK103.out) hb); have n1_ := Aside0.mk (blk_below (g := gb104) (o := .cells #[.int .i64 a2_0, .int .i64 a2_1, .int .i64 a2_2, .int .i64 a2_3] 36 (0, 0)) (by (with_reducible repeat (first | refine blk_drewN ?_ _ | refine blk_drew ?_ | refine blk_alloc ?_ _)); refine blk_far ?_ NB104_106.out _; (with_reducible repeat (first | refine blk_drewN ?_ _ | refine blk_drew ?_ | refine blk_alloc ?_ _)); refine blk_far ?_ NB104_106.out _; (with_reducible repeat (first | refine blk_drewN ?_ _ | refine blk_drew ?_ | refine blk_alloc ?_ _)); refine blk_far ?_ NB104_106.out _; (with_reducible repeat (first | refine blk_drewN ?_ _ | refine blk_drew ?_ | refine blk_alloc ?_ _)); refine blk_far ?_ NB104_106.out _; (with_reducible repeat (first | refine blk_drewN ?_ _ | refine blk_drew ?_ | refine blk_alloc ?_ _)); exact BK104.out) hb); have n2_ := Aside0.mk (blk_below (g := gb105) (o := .cells #[.int .i64 0, .int .i64 0, .int .i64 0, .int .i64 0] 36 (0, 0)) (by (with_reducible repeat (first | refine blk_drewN ?_ _ | refine blk_drew ?_ | refine blk_alloc ?_ _)); refine blk_far ?_ NB105_106.out _; (with_reducible repeat (first | refine blk_drewN ?_ _ | refine blk_drew ?_ | refine blk_alloc ?_ _)); refine blk_far ?_ NB105_106.out _; (with_reducible repeat (first | refine blk_drewN ?_ _ | refine blk_drew ?_ | refine blk_alloc ?_ _)); refine blk_far ?_ NB105_106.out _; (with_reducible repeat (first | refine blk_drewN ?_ _ | refine blk_drew ?_ | refine blk_alloc ?_ _)); refine blk_far ?_ NB105_106.out _; (with_reducible repeat (first | refine blk_drewN ?_ _ | refine blk_drew ?_ | refine blk_alloc ?_ _)); exact BK105.out) hb); have n3_ := Aside0.mk (blk_below (g := gb106) (o := .cells #[.int .i64 a2_0, .int .i64 (wrap64 (a2_1 + a5)), .int .i64 a3, .int .i64 a4] 36 (0, 0)) (by (with_reducible repeat (first | refine blk_drewN ?_ _ | refine blk_drew ?_ | refine blk_alloc ?_ _)); refine blk_put (cs := #[.int .i64 a2_0, .int .i64 (wrap64 (a2_1 + a5)), .int .i64 a3, .int .i64 0]) ?_ 3 _ rfl; (with_reducible repeat (first | refine blk_drewN ?_ _ | refine blk_drew ?_ | refine blk_alloc ?_ _)); refine blk_put (cs := #[.int .i64 a2_0, .int .i64 (wrap64 (a2_1 + a5)), .int .i64 0, .int .i64 0]) ?_ 2 _ rfl; (with_reducible repeat (first | refine blk_drewN ?_ _ | refine blk_drew ?_ | refine blk_alloc ?_ _)); refine blk_put (cs := #[.int .i64 a2_0, .int .i64 0, .int .i64 0, .int .i64 0]) ?_ 1 _ rfl; (with_reducible repeat (first | refine blk_drewN ?_ _ | refine blk_drew ?_ | refine blk_alloc ?_ _)); refine blk_put (cs := #[.int .i64 0, .int .i64 0, .int .i64 0, .int .i64 0]) ?_ 0 _ rfl; (with_reducible repeat (first | refine blk_drewN ?_ _ | refine blk_drew ?_ | refine blk_alloc ?_ _)); exact BK106.out) hb); have n4_ := Aside0.mk (below_step (by repeat (first | (with_reducible first | exact HB.out | apply below_alloc | apply pw_below_drewN | apply below_drew1 | refine below_set ?_ GE103.out | refine below_set ?_ GE104.out | refine below_set ?_ GE105.out | refine below_set ?_ GE106.out) | exact HB.out)) hb); clear BK103; clear BK104; clear BK105; clear BK106; clear HB; have BK103 := n0_; have BK104 := n1_; have BK105 := n2_; have BK106 := n3_; have HB := n4_; clear n0_ n1_ n2_ n3_ n4_; (try clear hb); (try clear hb2); (try clear hk); (try clear hi); have hcz39_0 : w38.cell? ⟨gb106, 0, none⟩ = some (.int .i64 a2_0) := (blk_cell BK106.out 0).trans rfl; have hcz39_1 : w38.cell? ⟨gb106, 1, none⟩ = some (.int .i64 (wrap64 (a2_1 + a5))) := (blk_cell BK106.out 1).trans rfl; have hcz39_2 : w38.cell? ⟨gb106, 2, none⟩ = some (.int .i64 a3) := (blk_cell BK106.out 2).trans rfl; have hcz39_3 : w38.cell? ⟨gb106, 3, none⟩ = some (.int .i64 a4) := (blk_cell BK106.out 3).trans rfl; have hfz39_0 := blk_frozen BK106.out 0; have hfz39_1 := blk_frozen BK106.out 1; have hfz39_2 := blk_frozen BK106.out 2; have hfz39_3 := blk_frozen BK106.out 3; have hcz40_0 : w38.cell? ⟨gb105, 0, none⟩ = some (.int .i64 0) := (blk_cell BK105.out 0).trans rfl; have hcz40_1 : w38.cell? ⟨gb105, 1, none⟩ = some (.int .i64 0) := (blk_cell BK105.out 1).trans rfl; have hcz40_2 : w38.cell? ⟨gb105, 2, none⟩ = some (.int .i64 0) := (blk_cell BK105.out 2).trans rfl; have hcz40_3 : w38.cell? ⟨gb105, 3, none⟩ = some (.int .i64 0) := (blk_cell BK105.out 3).trans rfl; have hfz40_0 := blk_frozen BK105.out 0; have hfz40_1 := blk_frozen BK105.out 1; have hfz40_2 := blk_frozen BK105.out 2; have hfz40_3 := blk_frozen BK105.out 3))
        refine bodyPost_ret (results_cell_row rfl _ _ gb105 36 #[.int .i64 a2_0, .int .i64 (wrap64 (a2_1 + a5)), .int .i64 a3, .int .i64 a4] (0, 0) _ rfl (by (with_reducible repeat (first | refine blk_drewN ?_ _ | refine blk_drew ?_ | refine blk_alloc ?_ _)); refine blk_put (cs := #[.int .i64 a2_0, .int .i64 (wrap64 (a2_1 + a5)), .int .i64 a3, .int .i64 0]) ?_ 3 _ rfl; (with_reducible repeat (first | refine blk_drewN ?_ _ | refine blk_drew ?_ | refine blk_alloc ?_ _)); refine blk_put (cs := #[.int .i64 a2_0, .int .i64 (wrap64 (a2_1 + a5)), .int .i64 0, .int .i64 0]) ?_ 2 _ rfl; (with_reducible repeat (first | refine blk_drewN ?_ _ | refine blk_drew ?_ | refine blk_alloc ?_ _)); refine blk_put (cs := #[.int .i64 a2_0, .int .i64 0, .int .i64 0, .int .i64 0]) ?_ 1 _ rfl; (with_reducible repeat (first | refine blk_drewN ?_ _ | refine blk_drew ?_ | refine blk_alloc ?_ _)); refine blk_put (cs := #[.int .i64 0, .int .i64 0, .int .i64 0, .int .i64 0]) ?_ 0 _ rfl; (with_reducible repeat (first | refine blk_drewN ?_ _ | refine blk_drew ?_ | refine blk_alloc ?_ _)); exact BK105.out) Tryd.underlying36 rfl (by kernel_rfl)) rfl ?_
        exact ⟨by first | rfl | (simp [errW_none, errW_some] <;> rfl) | (simp [*, errW_none, errW_some] <;> rfl), by repeat (first | (with_reducible first | exact HB.out | apply below_alloc | apply pw_below_drewN | apply below_drew1 | refine below_set ?_ GE103.out | refine below_set ?_ GE104.out | refine below_set ?_ GE105.out | refine below_set ?_ GE106.out) | exact HB.out)⟩
      · replace c24 := Bool.eq_false_iff.mpr c24
        subst c24
        have H1 : (some (a0_0, a0_1, a0_2, a0_3)) = some (r1, r2, r3, r4) := by rw [if_neg (show ¬ (false = true) by decide)] at H; exact H
        clear H
        have H := H1
        clear H1
        simp only [Option.some.injEq, Prod.mk.injEq] at H
        obtain ⟨rfl, rfl, rfl, rfl⟩ := H
        go_enter Tryd.func47, Tryd.ntmps47
        go_wp2_with (first | ((with_reducible refine gate_dst (N := 6) rfl ?_); refine box_event ?hg (N := 6) ?hd (cs := #[.int .i64 a0_0, .int .i64 a0_1, .int .i64 a0_2, .int .i64 a0_3]) (t := 36) ?hr ?_; (case hd => rfl); (case hg => rfl); (case hr => first | (go_simp; done) | (go_simp; rfl)); intro gb103 hg w41 hbox hb; have n0_ := Aside0.mk (below_step (by repeat (first | (with_reducible first | exact HB.out | apply below_alloc | apply pw_below_drewN | apply below_drew1) | exact HB.out)) hb); have n1_ := Aside0.mk (hbox); have n2_ := Aside0.mk ((by rw [hg]; exact (below_size (by repeat (first | (with_reducible first | exact HB.out | apply below_alloc | apply pw_below_drewN | apply below_drew1) | exact HB.out))) : w.heap.size ≤ gb103)); have n3_ := Aside0.mk ((by rw [hg]; exact (below_size (by repeat (first | (with_reducible first | exact HB.out | apply below_alloc | apply pw_below_drewN | apply below_drew1) | exact HB.out))) : w.heap.size ≤ gb103)); clear HB; have HB := n0_; have BK103 := n1_; have GW103 := n2_; have GE103 := n3_; clear n0_ n1_ n2_ n3_; clear hb hbox hg) | ((with_reducible refine gate_dst (N := 8) rfl ?_); refine box_event ?hg (N := 8) ?hd (cs := #[.int .i64 a2_0, .int .i64 a2_1, .int .i64 a2_2, .int .i64 a2_3]) (t := 36) ?hr ?_; (case hd => rfl); (case hg => rfl); (case hr => first | (go_simp; done) | (go_simp; rfl)); intro gb104 hg w42 hbox hb; have n0_ := Aside0.mk (blk_below (g := gb103) (o := .cells #[.int .i64 a0_0, .int .i64 a0_1, .int .i64 a0_2, .int .i64 a0_3] 36 (0, 0)) (by (with_reducible repeat (first | refine blk_drewN ?_ _ | refine blk_drew ?_ | refine blk_alloc ?_ _)); exact BK103.out) hb); have n1_ := Aside0.mk (below_step (by repeat (first | (with_reducible first | exact HB.out | apply below_alloc | apply pw_below_drewN | apply below_drew1 | refine below_set ?_ GE103.out) | exact HB.out)) hb); have n2_ := Aside0.mk (hbox); have n3_ := Aside0.mk ((by rw [hg]; exact (below_size (by repeat (first | (with_reducible first | exact HB.out | apply below_alloc | apply pw_below_drewN | apply below_drew1 | refine below_set ?_ GE103.out) | exact HB.out))) : w.heap.size ≤ gb104)); have n4_ := Aside0.mk ((by rw [hg]; exact (below_size (by repeat (first | (with_reducible first | exact HB.out | apply below_alloc | apply pw_below_drewN | apply below_drew1 | refine below_set ?_ GE103.out) | exact HB.out))) : w.heap.size ≤ gb104)); have n5_ := Aside0.mk ((by rw [hg]; exact Nat.ne_of_lt (blk_lt (g := gb103) (o := .cells #[.int .i64 a0_0, .int .i64 a0_1, .int .i64 a0_2, .int .i64 a0_3] 36 (0, 0)) (by (with_reducible repeat (first | refine blk_drewN ?_ _ | refine blk_drew ?_ | refine blk_alloc ?_ _)); exact BK103.out)) : gb103 ≠ gb104)); have n6_ := Aside0.mk ((by rw [hg]; exact Nat.ne_of_gt (blk_lt (g := gb103) (o := .cells #[.int .i64 a0_0, .int .i64 a0_1, .int .i64 a0_2, .int .i64 a0_3] 36 (0, 0)) (by (with_reducible repeat (first | refine blk_drewN ?_ _ | refine blk_drew ?_ | refine blk_alloc ?_ _)); exact BK103.out)) : gb104 ≠ gb103)); clear BK103; clear HB; have BK103 := n0_; have HB := n1_; have BK104 := n2_; have GW104 := n3_; have GE104 := n4_; have NB103_104 := n5_; have NB104_103 := n6_; clear n0_ n1_ n2_ n3_ n4_ n5_ n6_; clear hb hbox hg) | ((with_reducible refine gate_dst (N := 12) rfl ?_); refine box_event ?hg (N := 12) ?hd (cs := #[.int .i64 0, .int .i64 0, .int .i64 0, .int .i64 0]) (t := 36) ?hr ?_; (case hd => rfl); (case hg => rfl); (case hr => first | (go_simp; done) | (go_simp; rfl)); intro gb105 hg w43 hbox hb; have n0_ := Aside0.mk (blk_below (g := gb103) (o := .cells #[.int .i64 a0_0, .int .i64 a0_1, .int .i64 a0_2, .int .i64 a0_3] 36 (0, 0)) (by (with_reducible repeat (first | refine blk_drewN ?_ _ | refine blk_drew ?_ | refine blk_alloc ?_ _)); exact BK103.out) hb); have n1_ := Aside0.mk (blk_below (g := gb104) (o := .cells #[.int .i64 a2_0, .int .i64 a2_1, .int .i64 a2_2, .int .i64 a2_3] 36 (0, 0)) (by (with_reducible repeat (first | refine blk_drewN ?_ _ | refine blk_drew ?_ | refine blk_alloc ?_ _)); exact BK104.out) hb); have n2_ := Aside0.mk (below_step (by repeat (first | (with_reducible first | exact HB.out | apply below_alloc | apply pw_below_drewN | apply below_drew1 | refine below_set ?_ GE103.out | refine below_set ?_ GE104.out) | exact HB.out)) hb); have n3_ := Aside0.mk (hbox); have n4_ := Aside0.mk ((by rw [hg]; exact (below_size (by repeat (first | (with_reducible first | exact HB.out | apply below_alloc | apply pw_below_drewN | apply below_drew1 | refine below_set ?_ GE103.out | refine below_set ?_ GE104.out) | exact HB.out))) : w.heap.size ≤ gb105)); have n5_ := Aside0.mk ((by rw [hg]; exact (below_size (by repeat (first | (with_reducible first | exact HB.out | apply below_alloc | apply pw_below_drewN | apply below_drew1 | refine below_set ?_ GE103.out | refine below_set ?_ GE104.out) | exact HB.out))) : w.heap.size ≤ gb105)); have n6_ := Aside0.mk ((by rw [hg]; exact Nat.ne_of_lt (blk_lt (g := gb103) (o := .cells #[.int .i64 a0_0, .int .i64 a0_1, .int .i64 a0_2, .int .i64 a0_3] 36 (0, 0)) (by (with_reducible repeat (first | refine blk_drewN ?_ _ | refine blk_drew ?_ | refine blk_alloc ?_ _)); exact BK103.out)) : gb103 ≠ gb105)); have n7_ := Aside0.mk ((by rw [hg]; exact Nat.ne_of_gt (blk_lt (g := gb103) (o := .cells #[.int .i64 a0_0, .int .i64 a0_1, .int .i64 a0_2, .int .i64 a0_3] 36 (0, 0)) (by (with_reducible repeat (first | refine blk_drewN ?_ _ | refine blk_drew ?_ | refine blk_alloc ?_ _)); exact BK103.out)) : gb105 ≠ gb103)); have n8_ := Aside0.mk ((by rw [hg]; exact Nat.ne_of_lt (blk_lt (g := gb104) (o := .cells #[.int .i64 a2_0, .int .i64 a2_1, .int .i64 a2_2, .int .i64 a2_3] 36 (0, 0)) (by (with_reducible repeat (first | refine blk_drewN ?_ _ | refine blk_drew ?_ | refine blk_alloc ?_ _)); exact BK104.out)) : gb104 ≠ gb105)); have n9_ := Aside0.mk ((by rw [hg]; exact Nat.ne_of_gt (blk_lt (g := gb104) (o := .cells #[.int .i64 a2_0, .int .i64 a2_1, .int .i64 a2_2, .int .i64 a2_3] 36 (0, 0)) (by (with_reducible repeat (first | refine blk_drewN ?_ _ | refine blk_drew ?_ | refine blk_alloc ?_ _)); exact BK104.out)) : gb105 ≠ gb104)); clear BK103; clear BK104; clear HB; have BK103 := n0_; have BK104 := n1_; have HB := n2_; have BK105 := n3_; have GW105 := n4_; have GE105 := n5_; have NB103_105 := n6_; have NB105_103 := n7_; have NB104_105 := n8_; have NB105_104 := n9_; clear n0_ n1_ n2_ n3_ n4_ n5_ n6_ n7_ n8_ n9_; clear hb hbox hg; have hnb44 := NB104_103.out; have hnc44 := NB103_104.out; have hnb45 := NB104_105.out; have hnc45 := NB105_104.out; have hcz46_0 : w43.cell? ⟨gb104, 0, none⟩ = some (.int .i64 a2_0) := (blk_cell BK104.out 0).trans rfl; have hcz46_1 : w43.cell? ⟨gb104, 1, none⟩ = some (.int .i64 a2_1) := (blk_cell BK104.out 1).trans rfl; have hcz46_2 : w43.cell? ⟨gb104, 2, none⟩ = some (.int .i64 a2_2) := (blk_cell BK104.out 2).trans rfl; have hcz46_3 : w43.cell? ⟨gb104, 3, none⟩ = some (.int .i64 a2_3) := (blk_cell BK104.out 3).trans rfl; have hfz46_0 := blk_frozen BK104.out 0; have hfz46_1 := blk_frozen BK104.out 1; have hfz46_2 := blk_frozen BK104.out 2; have hfz46_3 := blk_frozen BK104.out 3) | ((with_reducible refine gate_dst (N := 13) rfl ?_); refine box_event ?hg (N := 13) ?hd (cs := #[.int .i64 0, .int .i64 0, .int .i64 0, .int .i64 0]) (t := 36) ?hr ?_; (case hd => rfl); (case hg => rfl); (case hr => first | (go_simp; done) | (go_simp; rfl)); intro gb106 hg w47 hbox hb; have n0_ := Aside0.mk (blk_below (g := gb103) (o := .cells #[.int .i64 a0_0, .int .i64 a0_1, .int .i64 a0_2, .int .i64 a0_3] 36 (0, 0)) (by (with_reducible repeat (first | refine blk_drewN ?_ _ | refine blk_drew ?_ | refine blk_alloc ?_ _)); exact BK103.out) hb); have n1_ := Aside0.mk (blk_below (g := gb104) (o := .cells #[.int .i64 a2_0, .int .i64 a2_1, .int .i64 a2_2, .int .i64 a2_3] 36 (0, 0)) (by (with_reducible repeat (first | refine blk_drewN ?_ _ | refine blk_drew ?_ | refine blk_alloc ?_ _)); exact BK104.out) hb); have n2_ := Aside0.mk (blk_below (g := gb105) (o := .cells #[.int .i64 0, .int .i64 0, .int .i64 0, .int .i64 0] 36 (0, 0)) (by (with_reducible repeat (first | refine blk_drewN ?_ _ | refine blk_drew ?_ | refine blk_alloc ?_ _)); exact BK105.out) hb); have n3_ := Aside0.mk (below_step (by repeat (first | (with_reducible first | exact HB.out | apply below_alloc | apply pw_below_drewN | apply below_drew1 | refine below_set ?_ GE103.out | refine below_set ?_ GE104.out | refine below_set ?_ GE105.out) | exact HB.out)) hb); have n4_ := Aside0.mk (hbox); have n5_ := Aside0.mk ((by rw [hg]; exact (below_size (by repeat (first | (with_reducible first | exact HB.out | apply below_alloc | apply pw_below_drewN | apply below_drew1 | refine below_set ?_ GE103.out | refine below_set ?_ GE104.out | refine below_set ?_ GE105.out) | exact HB.out))) : w.heap.size ≤ gb106)); have n6_ := Aside0.mk ((by rw [hg]; exact (below_size (by repeat (first | (with_reducible first | exact HB.out | apply below_alloc | apply pw_below_drewN | apply below_drew1 | refine below_set ?_ GE103.out | refine below_set ?_ GE104.out | refine below_set ?_ GE105.out) | exact HB.out))) : w.heap.size ≤ gb106)); have n7_ := Aside0.mk ((by rw [hg]; exact Nat.ne_of_lt (blk_lt (g := gb103) (o := .cells #[.int .i64 a0_0, .int .i64 a0_1, .int .i64 a0_2, .int .i64 a0_3] 36 (0, 0)) (by (with_reducible repeat (first | refine blk_drewN ?_ _ | refine blk_drew ?_ | refine blk_alloc ?_ _)); exact BK103.out)) : gb103 ≠ gb106)); have n8_ := Aside0.mk ((by rw [hg]; exact Nat.ne_of_gt (blk_lt (g := gb103) (o := .cells #[.int .i64 a0_0, .int .i64 a0_1, .int .i64 a0_2, .int .i64 a0_3] 36 (0, 0)) (by (with_reducible repeat (first | refine blk_drewN ?_ _ | refine blk_drew ?_ | refine blk_alloc ?_ _)); exact BK103.out)) : gb106 ≠ gb103)); have n9_ := Aside0.mk ((by rw [hg]; exact Nat.ne_of_lt (blk_lt (g := gb104) (o := .cells #[.int .i64 a2_0, .int .i64 a2_1, .int .i64 a2_2, .int .i64 a2_3] 36 (0, 0)) (by (with_reducible repeat (first | refine blk_drewN ?_ _ | refine blk_drew ?_ | refine blk_alloc ?_ _)); exact BK104.out)) : gb104 ≠ gb106)); have n10_ := Aside0.mk ((by rw [hg]; exact Nat.ne_of_gt (blk_lt (g := gb104) (o := .cells #[.int .i64 a2_0, .int .i64 a2_1, .int .i64 a2_2, .int .i64 a2_3] 36 (0, 0)) (by (with_reducible repeat (first | refine blk_drewN ?_ _ | refine blk_drew ?_ | refine blk_alloc ?_ _)); exact BK104.out)) : gb106 ≠ gb104)); have n11_ := Aside0.mk ((by rw [hg]; exact Nat.ne_of_lt (blk_lt (g := gb105) (o := .cells #[.int .i64 0, .int .i64 0, .int .i64 0, .int .i64 0] 36 (0, 0)) (by (with_reducible repeat (first | refine blk_drewN ?_ _ | refine blk_drew ?_ | refine blk_alloc ?_ _)); exact BK105.out)) : gb105 ≠ gb106)); have n12_ := Aside0.mk ((by rw [hg]; exact Nat.ne_of_gt (blk_lt (g := gb105) (o := .cells #[.int .i64 0, .int .i64 0, .int .i64 0, .int .i64 0] 36 (0, 0)) (by (with_reducible repeat (first | refine blk_drewN ?_ _ | refine blk_drew ?_ | refine blk_alloc ?_ _)); exact BK105.out)) : gb106 ≠ gb105)); clear BK103; clear BK104; clear BK105; clear HB; have BK103 := n0_; have BK104 := n1_; have BK105 := n2_; have HB := n3_; have BK106 := n4_; have GW106 := n5_; have GE106 := n6_; have NB103_106 := n7_; have NB106_103 := n8_; have NB104_106 := n9_; have NB106_104 := n10_; have NB105_106 := n11_; have NB106_105 := n12_; clear n0_ n1_ n2_ n3_ n4_ n5_ n6_ n7_ n8_ n9_ n10_ n11_ n12_; clear hb hbox hg; have hnb48 := NB106_103.out; have hnc48 := NB103_106.out; have hnb49 := NB106_104.out; have hnc49 := NB104_106.out; have hnb50 := NB106_105.out; have hnc50 := NB105_106.out; have hcz51_0 : w47.cell? ⟨gb106, 0, none⟩ = some (.int .i64 0) := (blk_cell BK106.out 0).trans rfl; have hcz51_1 : w47.cell? ⟨gb106, 1, none⟩ = some (.int .i64 0) := (blk_cell BK106.out 1).trans rfl; have hcz51_2 : w47.cell? ⟨gb106, 2, none⟩ = some (.int .i64 0) := (blk_cell BK106.out 2).trans rfl; have hcz51_3 : w47.cell? ⟨gb106, 3, none⟩ = some (.int .i64 0) := (blk_cell BK106.out 3).trans rfl; have hfz51_0 := blk_frozen BK106.out 0; have hfz51_1 := blk_frozen BK106.out 1; have hfz51_2 := blk_frozen BK106.out 2; have hfz51_3 := blk_frozen BK106.out 3; have hnb52 := NB103_105.out; have hnc52 := NB105_103.out; have hcz53_0 : w47.cell? ⟨gb103, 0, none⟩ = some (.int .i64 a0_0) := (blk_cell BK103.out 0).trans rfl; have hcz53_1 : w47.cell? ⟨gb103, 1, none⟩ = some (.int .i64 a0_1) := (blk_cell BK103.out 1).trans rfl; have hcz53_2 : w47.cell? ⟨gb103, 2, none⟩ = some (.int .i64 a0_2) := (blk_cell BK103.out 2).trans rfl; have hcz53_3 : w47.cell? ⟨gb103, 3, none⟩ = some (.int .i64 a0_3) := (blk_cell BK103.out 3).trans rfl; have hfz53_0 := blk_frozen BK103.out 0; have hfz53_1 := blk_frozen BK103.out 1; have hfz53_2 := blk_frozen BK103.out 2; have hfz53_3 := blk_frozen BK103.out 3) | (go_at_call 57; (with_reducible refine (kissgateref10_Better.calls a2_0 (wrap64 (a2_1 + a5)) a3 a4 a0_0 a0_1 a0_2 a0_3 false _ A23.out).mono ?_); rintro e w54 ⟨rfl, hb⟩; have n0_ := Aside0.mk (blk_below (g := gb103) (o := .cells #[.int .i64 a0_0, .int .i64 a0_1, .int .i64 a0_2, .int .i64 a0_3] 36 (0, 0)) (by (with_reducible repeat (first | refine blk_drewN ?_ _ | refine blk_drew ?_ | refine blk_alloc ?_ _)); refine blk_far ?_ NB103_106.out _; (with_reducible repeat (first | refine blk_drewN ?_ _ | refine blk_drew ?_ | refine blk_alloc ?_ _)); refine blk_far ?_ NB103_106.out _; (with_reducible repeat (first | refine blk_drewN ?_ _ | refine blk_drew ?_ | refine blk_alloc ?_ _)); refine blk_far ?_ NB103_106.out _; (with_reducible repeat (first | refine blk_drewN ?_ _ | refine blk_drew ?_ | refine blk_alloc ?_ _)); refine blk_far ?_ NB103_106.out _; (with_reducible repeat (first | refine blk_drewN ?_ _ | refine blk_drew ?_ | refine blk_alloc ?_ _)); exact BK103.out) hb); have n1_ := Aside0.mk (blk_below (g := gb104) (o := .cells #[.int .i64 a2_0, .int .i64 a2_1, .int .i64 a2_2, .int .i64 a2_3] 36 (0, 0)) (by (with_reducible repeat (first | refine blk_drewN ?_ _ | refine blk_drew ?_ | refine blk_alloc ?_ _)); refine blk_far ?_ NB104_106.out _; (with_reducible repeat (first | refine blk_drewN ?_ _ | refine blk_drew ?_ | refine blk_alloc ?_ _)); refine blk_far ?_ NB104_106.out _; (with_reducible repeat (first | refine blk_drewN ?_ _ | refine blk_drew ?_ | refine blk_alloc ?_ _)); refine blk_far ?_ NB104_106.out _; (with_reducible repeat (first | refine blk_drewN ?_ _ | refine blk_drew ?_ | refine blk_alloc ?_ _)); refine blk_far ?_ NB104_106.out _; (with_reducible repeat (first | refine blk_drewN ?_ _ | refine blk_drew ?_ | refine blk_alloc ?_ _)); exact BK104.out) hb); have n2_ := Aside0.mk (blk_below (g := gb105) (o := .cells #[.int .i64 0, .int .i64 0, .int .i64 0, .int .i64 0] 36 (0, 0)) (by (with_reducible repeat (first | refine blk_drewN ?_ _ | refine blk_drew ?_ | refine blk_alloc ?_ _)); refine blk_far ?_ NB105_106.out _; (with_reducible repeat (first | refine blk_drewN ?_ _ | refine blk_drew ?_ | refine blk_alloc ?_ _)); refine blk_far ?_ NB105_106.out _; (with_reducible repeat (first | refine blk_drewN ?_ _ | refine blk_drew ?_ | refine blk_alloc ?_ _)); refine blk_far ?_ NB105_106.out _; (with_reducible repeat (first | refine blk_drewN ?_ _ | refine blk_drew ?_ | refine blk_alloc ?_ _)); refine blk_far ?_ NB105_106.out _; (with_reducible repeat (first | refine blk_drewN ?_ _ | refine blk_drew ?_ | refine blk_alloc ?_ _)); exact BK105.out) hb); have n3_ := Aside0.mk (blk_below (g := gb106) (o := .cells #[.int .i64 a2_0, .int .i64 (wrap64 (a2_1 + a5)), .int .i64 a3, .int .i64 a4] 36 (0, 0)) (by (with_reducible repeat (first | refine blk_drewN ?_ _ | refine blk_drew ?_ | refine blk_alloc ?_ _)); refine blk_put (cs := #[.int .i64 a2_0, .int .i64 (wrap64 (a2_1 + a5)), .int .i64 a3, .int .i64 0]) ?_ 3 _ rfl; (with_reducible repeat (first | refine blk_drewN ?_ _ | refine blk_drew ?_ | refine blk_alloc ?_ _)); refine blk_put (cs := #[.int .i64 a2_0, .int .i64 (wrap64 (a2_1 + a5)), .int .i64 0, .int .i64 0]) ?_ 2 _ rfl; (with_reducible repeat (first | refine blk_drewN ?_ _ | refine blk_drew ?_ | refine blk_alloc ?_ _)); refine blk_put (cs := #[.int .i64 a2_0, .int .i64 0, .int .i64 0, .int .i64 0]) ?_ 1 _ rfl; (with_reducible repeat (first | refine blk_drewN ?_ _ | refine blk_drew ?_ | refine blk_alloc ?_ _)); refine blk_put (cs := #[.int .i64 0, .int .i64 0, .int .i64 0, .int .i64 0]) ?_ 0 _ rfl; (with_reducible repeat (first | refine blk_drewN ?_ _ | refine blk_drew ?_ | refine blk_alloc ?_ _)); exact BK106.out) hb); have n4_ := Aside0.mk (below_step (by repeat (first | (with_reducible first | exact HB.out | apply below_alloc | apply pw_below_drewN | apply below_drew1 | refine below_set ?_ GE103.out | refine below_set ?_ GE104.out | refine below_set ?_ GE105.out | refine below_set ?_ GE106.out) | exact HB.out)) hb); clear BK103; clear BK104; clear BK105; clear BK106; clear HB; have BK103 := n0_; have BK104 := n1_; have BK105 := n2_; have BK106 := n3_; have HB := n4_; clear n0_ n1_ n2_ n3_ n4_; (try clear hb); (try clear hb2); (try clear hk); (try clear hi); have hcz55_0 : w54.cell? ⟨gb103, 0, none⟩ = some (.int .i64 a0_0) := (blk_cell BK103.out 0).trans rfl; have hcz55_1 : w54.cell? ⟨gb103, 1, none⟩ = some (.int .i64 a0_1) := (blk_cell BK103.out 1).trans rfl; have hcz55_2 : w54.cell? ⟨gb103, 2, none⟩ = some (.int .i64 a0_2) := (blk_cell BK103.out 2).trans rfl; have hcz55_3 : w54.cell? ⟨gb103, 3, none⟩ = some (.int .i64 a0_3) := (blk_cell BK103.out 3).trans rfl; have hfz55_0 := blk_frozen BK103.out 0; have hfz55_1 := blk_frozen BK103.out 1; have hfz55_2 := blk_frozen BK103.out 2; have hfz55_3 := blk_frozen BK103.out 3; have hcz56_0 : w54.cell? ⟨gb105, 0, none⟩ = some (.int .i64 0) := (blk_cell BK105.out 0).trans rfl; have hcz56_1 : w54.cell? ⟨gb105, 1, none⟩ = some (.int .i64 0) := (blk_cell BK105.out 1).trans rfl; have hcz56_2 : w54.cell? ⟨gb105, 2, none⟩ = some (.int .i64 0) := (blk_cell BK105.out 2).trans rfl; have hcz56_3 : w54.cell? ⟨gb105, 3, none⟩ = some (.int .i64 0) := (blk_cell BK105.out 3).trans rfl; have hfz56_0 := blk_frozen BK105.out 0; have hfz56_1 := blk_frozen BK105.out 1; have hfz56_2 := blk_frozen BK105.out 2; have hfz56_3 := blk_frozen BK105.out 3))
        refine bodyPost_ret (results_cell_row rfl _ _ gb105 36 #[.int .i64 a0_0, .int .i64 a0_1, .int .i64 a0_2, .int .i64 a0_3] (0, 0) _ rfl (by (with_reducible repeat (first | refine blk_drewN ?_ _ | refine blk_drew ?_ | refine blk_alloc ?_ _)); refine blk_put (cs := #[.int .i64 a0_0, .int .i64 a0_1, .int .i64 a0_2, .int .i64 0]) ?_ 3 _ rfl; (with_reducible repeat (first | refine blk_drewN ?_ _ | refine blk_drew ?_ | refine blk_alloc ?_ _)); refine blk_put (cs := #[.int .i64 a0_0, .int .i64 a0_1, .int .i64 0, .int .i64 0]) ?_ 2 _ rfl; (with_reducible repeat (first | refine blk_drewN ?_ _ | refine blk_drew ?_ | refine blk_alloc ?_ _)); refine blk_put (cs := #[.int .i64 a0_0, .int .i64 0, .int .i64 0, .int .i64 0]) ?_ 1 _ rfl; (with_reducible repeat (first | refine blk_drewN ?_ _ | refine blk_drew ?_ | refine blk_alloc ?_ _)); refine blk_put (cs := #[.int .i64 0, .int .i64 0, .int .i64 0, .int .i64 0]) ?_ 0 _ rfl; (with_reducible repeat (first | refine blk_drewN ?_ _ | refine blk_drew ?_ | refine blk_alloc ?_ _)); exact BK105.out) Tryd.underlying36 rfl (by kernel_rfl)) rfl ?_
        exact ⟨by first | rfl | (simp [errW_none, errW_some] <;> rfl) | (simp [*, errW_none, errW_some] <;> rfl), by repeat (first | (with_reducible first | exact HB.out | apply below_alloc | apply pw_below_drewN | apply below_drew1 | refine below_set ?_ GE103.out | refine below_set ?_ GE104.out | refine below_set ?_ GE105.out | refine below_set ?_ GE106.out) | exact HB.out)⟩
  · rw [if_neg c7] at H
    have c7b0 : decide (a2_0 < a1) = false := decide_eq_false c7
    clear c7
    simp only [Option.some.injEq, Prod.mk.injEq] at H
    obtain ⟨rfl, rfl, rfl, rfl⟩ := H
    go_enter Tryd.func47, Tryd.ntmps47
    go_wp2_with (first | ((with_reducible refine gate_dst (N := 6) rfl ?_); refine box_event ?hg (N := 6) ?hd (cs := #[.int .i64 a0_0, .int .i64 a0_1, .int .i64 a0_2, .int .i64 a0_3]) (t := 36) ?hr ?_; (case hd => rfl); (case hg => rfl); (case hr => first | (go_simp; done) | (go_simp; rfl)); intro gb103 hg w57 hbox hb; have n0_ := Aside0.mk (below_step (by repeat (first | (with_reducible first | exact HB.out | apply below_alloc | apply pw_below_drewN | apply below_drew1) | exact HB.out)) hb); have n1_ := Aside0.mk (hbox); have n2_ := Aside0.mk ((by rw [hg]; exact (below_size (by repeat (first | (with_reducible first | exact HB.out | apply below_alloc | apply pw_below_drewN | apply below_drew1) | exact HB.out))) : w.heap.size ≤ gb103)); have n3_ := Aside0.mk ((by rw [hg]; exact (below_size (by repeat (first | (with_reducible first | exact HB.out | apply below_alloc | apply pw_below_drewN | apply below_drew1) | exact HB.out))) : w.heap.size ≤ gb103)); clear HB; have HB := n0_; have BK103 := n1_; have GW103 := n2_; have GE103 := n3_; clear n0_ n1_ n2_ n3_; clear hb hbox hg) | ((with_reducible refine gate_dst (N := 8) rfl ?_); refine box_event ?hg (N := 8) ?hd (cs := #[.int .i64 a2_0, .int .i64 a2_1, .int .i64 a2_2, .int .i64 a2_3]) (t := 36) ?hr ?_; (case hd => rfl); (case hg => rfl); (case hr => first | (go_simp; done) | (go_simp; rfl)); intro gb104 hg w58 hbox hb; have n0_ := Aside0.mk (blk_below (g := gb103) (o := .cells #[.int .i64 a0_0, .int .i64 a0_1, .int .i64 a0_2, .int .i64 a0_3] 36 (0, 0)) (by (with_reducible repeat (first | refine blk_drewN ?_ _ | refine blk_drew ?_ | refine blk_alloc ?_ _)); exact BK103.out) hb); have n1_ := Aside0.mk (below_step (by repeat (first | (with_reducible first | exact HB.out | apply below_alloc | apply pw_below_drewN | apply below_drew1 | refine below_set ?_ GE103.out) | exact HB.out)) hb); have n2_ := Aside0.mk (hbox); have n3_ := Aside0.mk ((by rw [hg]; exact (below_size (by repeat (first | (with_reducible first | exact HB.out | apply below_alloc | apply pw_below_drewN | apply below_drew1 | refine below_set ?_ GE103.out) | exact HB.out))) : w.heap.size ≤ gb104)); have n4_ := Aside0.mk ((by rw [hg]; exact (below_size (by repeat (first | (with_reducible first | exact HB.out | apply below_alloc | apply pw_below_drewN | apply below_drew1 | refine below_set ?_ GE103.out) | exact HB.out))) : w.heap.size ≤ gb104)); have n5_ := Aside0.mk ((by rw [hg]; exact Nat.ne_of_lt (blk_lt (g := gb103) (o := .cells #[.int .i64 a0_0, .int .i64 a0_1, .int .i64 a0_2, .int .i64 a0_3] 36 (0, 0)) (by (with_reducible repeat (first | refine blk_drewN ?_ _ | refine blk_drew ?_ | refine blk_alloc ?_ _)); exact BK103.out)) : gb103 ≠ gb104)); have n6_ := Aside0.mk ((by rw [hg]; exact Nat.ne_of_gt (blk_lt (g := gb103) (o := .cells #[.int .i64 a0_0, .int .i64 a0_1, .int .i64 a0_2, .int .i64 a0_3] 36 (0, 0)) (by (with_reducible repeat (first | refine blk_drewN ?_ _ | refine blk_drew ?_ | refine blk_alloc ?_ _)); exact BK103.out)) : gb104 ≠ gb103)); clear BK103; clear HB; have BK103 := n0_; have HB := n1_; have BK104 := n2_; have GW104 := n3_; have GE104 := n4_; have NB103_104 := n5_; have NB104_103 := n6_; clear n0_ n1_ n2_ n3_ n4_ n5_ n6_; clear hb hbox hg) | ((with_reducible refine gate_dst (N := 12) rfl ?_); refine box_event ?hg (N := 12) ?hd (cs := #[.int .i64 0, .int .i64 0, .int .i64 0, .int .i64 0]) (t := 36) ?hr ?_; (case hd => rfl); (case hg => rfl); (case hr => first | (go_simp; done) | (go_simp; rfl)); intro gb105 hg w59 hbox hb; have n0_ := Aside0.mk (blk_below (g := gb103) (o := .cells #[.int .i64 a0_0, .int .i64 a0_1, .int .i64 a0_2, .int .i64 a0_3] 36 (0, 0)) (by (with_reducible repeat (first | refine blk_drewN ?_ _ | refine blk_drew ?_ | refine blk_alloc ?_ _)); exact BK103.out) hb); have n1_ := Aside0.mk (blk_below (g := gb104) (o := .cells #[.int .i64 a2_0, .int .i64 a2_1, .int .i64 a2_2, .int .i64 a2_3] 36 (0, 0)) (by (with_reducible repeat (first | refine blk_drewN ?_ _ | refine blk_drew ?_ | refine blk_alloc ?_ _)); exact BK104.out) hb); have n2_ := Aside0.mk (below_step (by repeat (first | (with_reducible first | exact HB.out | apply below_alloc | apply pw_below_drewN | apply below_drew1 | refine below_set ?_ GE103.out | refine below_set ?_ GE104.out) | exact HB.out)) hb); have n3_ := Aside0.mk (hbox); have n4_ := Aside0.mk ((by rw [hg]; exact (below_size (by repeat (first | (with_reducible first | exact HB.out | apply below_alloc | apply pw_below_drewN | apply below_drew1 | refine below_set ?_ GE103.out | refine below_set ?_ GE104.out) | exact HB.out))) : w.heap.size ≤ gb105)); have n5_ := Aside0.mk ((by rw [hg]; exact (below_size (by repeat (first | (with_reducible first | exact HB.out | apply below_alloc | apply pw_below_drewN | apply below_drew1 | refine below_set ?_ GE103.out | refine below_set ?_ GE104.out) | exact HB.out))) : w.heap.size ≤ gb105)); have n6_ := Aside0.mk ((by rw [hg]; exact Nat.ne_of_lt (blk_lt (g := gb103) (o := .cells #[.int .i64 a0_0, .int .i64 a0_1, .int .i64 a0_2, .int .i64 a0_3] 36 (0, 0)) (by (with_reducible repeat (first | refine blk_drewN ?_ _ | refine blk_drew ?_ | refine blk_alloc ?_ _)); exact BK103.out)) : gb103 ≠ gb105)); have n7_ := Aside0.mk ((by rw [hg]; exact Nat.ne_of_gt (blk_lt (g := gb103) (o := .cells #[.int .i64 a0_0, .int .i64 a0_1, .int .i64 a0_2, .int .i64 a0_3] 36 (0, 0)) (by (with_reducible repeat (first | refine blk_drewN ?_ _ | refine blk_drew ?_ | refine blk_alloc ?_ _)); exact BK103.out)) : gb105 ≠ gb103)); have n8_ := Aside0.mk ((by rw [hg]; exact Nat.ne_of_lt (blk_lt (g := gb104) (o := .cells #[.int .i64 a2_0, .int .i64 a2_1, .int .i64 a2_2, .int .i64 a2_3] 36 (0, 0)) (by (with_reducible repeat (first | refine blk_drewN ?_ _ | refine blk_drew ?_ | refine blk_alloc ?_ _)); exact BK104.out)) : gb104 ≠ gb105)); have n9_ := Aside0.mk ((by rw [hg]; exact Nat.ne_of_gt (blk_lt (g := gb104) (o := .cells #[.int .i64 a2_0, .int .i64 a2_1, .int .i64 a2_2, .int .i64 a2_3] 36 (0, 0)) (by (with_reducible repeat (first | refine blk_drewN ?_ _ | refine blk_drew ?_ | refine blk_alloc ?_ _)); exact BK104.out)) : gb105 ≠ gb104)); clear BK103; clear BK104; clear HB; have BK103 := n0_; have BK104 := n1_; have HB := n2_; have BK105 := n3_; have GW105 := n4_; have GE105 := n5_; have NB103_105 := n6_; have NB105_103 := n7_; have NB104_105 := n8_; have NB105_104 := n9_; clear n0_ n1_ n2_ n3_ n4_ n5_ n6_ n7_ n8_ n9_; clear hb hbox hg; have hnb60 := NB104_103.out; have hnc60 := NB103_104.out; have hnb61 := NB104_105.out; have hnc61 := NB105_104.out; have hcz62_0 : w59.cell? ⟨gb104, 0, none⟩ = some (.int .i64 a2_0) := (blk_cell BK104.out 0).trans rfl; have hcz62_1 : w59.cell? ⟨gb104, 1, none⟩ = some (.int .i64 a2_1) := (blk_cell BK104.out 1).trans rfl; have hcz62_2 : w59.cell? ⟨gb104, 2, none⟩ = some (.int .i64 a2_2) := (blk_cell BK104.out 2).trans rfl; have hcz62_3 : w59.cell? ⟨gb104, 3, none⟩ = some (.int .i64 a2_3) := (blk_cell BK104.out 3).trans rfl; have hfz62_0 := blk_frozen BK104.out 0; have hfz62_1 := blk_frozen BK104.out 1; have hfz62_2 := blk_frozen BK104.out 2; have hfz62_3 := blk_frozen BK104.out 3) | ((with_reducible refine gate_dst (N := 13) rfl ?_); refine box_event ?hg (N := 13) ?hd (cs := #[.int .i64 0, .int .i64 0, .int .i64 0, .int .i64 0]) (t := 36) ?hr ?_; (case hd => rfl); (case hg => rfl); (case hr => first | (go_simp; done) | (go_simp; rfl)); intro gb106 hg w63 hbox hb; have n0_ := Aside0.mk (blk_below (g := gb103) (o := .cells #[.int .i64 a0_0, .int .i64 a0_1, .int .i64 a0_2, .int .i64 a0_3] 36 (0, 0)) (by (with_reducible repeat (first | refine blk_drewN ?_ _ | refine blk_drew ?_ | refine blk_alloc ?_ _)); exact BK103.out) hb); have n1_ := Aside0.mk (blk_below (g := gb104) (o := .cells #[.int .i64 a2_0, .int .i64 a2_1, .int .i64 a2_2, .int .i64 a2_3] 36 (0, 0)) (by (with_reducible repeat (first | refine blk_drewN ?_ _ | refine blk_drew ?_ | refine blk_alloc ?_ _)); exact BK104.out) hb); have n2_ := Aside0.mk (blk_below (g := gb105) (o := .cells #[.int .i64 0, .int .i64 0, .int .i64 0, .int .i64 0] 36 (0, 0)) (by (with_reducible repeat (first | refine blk_drewN ?_ _ | refine blk_drew ?_ | refine blk_alloc ?_ _)); exact BK105.out) hb); have n3_ := Aside0.mk (below_step (by repeat (first | (with_reducible first | exact HB.out | apply below_alloc | apply pw_below_drewN | apply below_drew1 | refine below_set ?_ GE103.out | refine below_set ?_ GE104.out | refine below_set ?_ GE105.out) | exact HB.out)) hb); have n4_ := Aside0.mk (hbox); have n5_ := Aside0.mk ((by rw [hg]; exact (below_size (by repeat (first | (with_reducible first | exact HB.out | apply below_alloc | apply pw_below_drewN | apply below_drew1 | refine below_set ?_ GE103.out | refine below_set ?_ GE104.out | refine below_set ?_ GE105.out) | exact HB.out))) : w.heap.size ≤ gb106)); have n6_ := Aside0.mk ((by rw [hg]; exact (below_size (by repeat (first | (with_reducible first | exact HB.out | apply below_alloc | apply pw_below_drewN | apply below_drew1 | refine below_set ?_ GE103.out | refine below_set ?_ GE104.out | refine below_set ?_ GE105.out) | exact HB.out))) : w.heap.size ≤ gb106)); have n7_ := Aside0.mk ((by rw [hg]; exact Nat.ne_of_lt (blk_lt (g := gb103) (o := .cells #[.int .i64 a0_0, .int .i64 a0_1, .int .i64 a0_2, .int .i64 a0_3] 36 (0, 0)) (by (with_reducible repeat (first | refine blk_drewN ?_ _ | refine blk_drew ?_ | refine blk_alloc ?_ _)); exact BK103.out)) : gb103 ≠ gb106)); have n8_ := Aside0.mk ((by rw [hg]; exact Nat.ne_of_gt (blk_lt (g := gb103) (o := .cells #[.int .i64 a0_0, .int .i64 a0_1, .int .i64 a0_2, .int .i64 a0_3] 36 (0, 0)) (by (with_reducible repeat (first | refine blk_drewN ?_ _ | refine blk_drew ?_ | refine blk_alloc ?_ _)); exact BK103.out)) : gb106 ≠ gb103)); have n9_ := Aside0.mk ((by rw [hg]; exact Nat.ne_of_lt (blk_lt (g := gb104) (o := .cells #[.int .i64 a2_0, .int .i64 a2_1, .int .i64 a2_2, .int .i64 a2_3] 36 (0, 0)) (by (with_reducible repeat (first | refine blk_drewN ?_ _ | refine blk_drew ?_ | refine blk_alloc ?_ _)); exact BK104.out)) : gb104 ≠ gb106)); have n10_ := Aside0.mk ((by rw [hg]; exact Nat.ne_of_gt (blk_lt (g := gb104) (o := .cells #[.int .i64 a2_0, .int .i64 a2_1, .int .i64 a2_2, .int .i64 a2_3] 36 (0, 0)) (by (with_reducible repeat (first | refine blk_drewN ?_ _ | refine blk_drew ?_ | refine blk_alloc ?_ _)); exact BK104.out)) : gb106 ≠ gb104)); have n11_ := Aside0.mk ((by rw [hg]; exact Nat.ne_of_lt (blk_lt (g := gb105) (o := .cells #[.int .i64 0, .int .i64 0, .int .i64 0, .int .i64 0] 36 (0, 0)) (by (with_reducible repeat (first | refine blk_drewN ?_ _ | refine blk_drew ?_ | refine blk_alloc ?_ _)); exact BK105.out)) : gb105 ≠ gb106)); have n12_ := Aside0.mk ((by rw [hg]; exact Nat.ne_of_gt (blk_lt (g := gb105) (o := .cells #[.int .i64 0, .int .i64 0, .int .i64 0, .int .i64 0] 36 (0, 0)) (by (with_reducible repeat (first | refine blk_drewN ?_ _ | refine blk_drew ?_ | refine blk_alloc ?_ _)); exact BK105.out)) : gb106 ≠ gb105)); clear BK103; clear BK104; clear BK105; clear HB; have BK103 := n0_; have BK104 := n1_; have BK105 := n2_; have HB := n3_; have BK106 := n4_; have GW106 := n5_; have GE106 := n6_; have NB103_106 := n7_; have NB106_103 := n8_; have NB104_106 := n9_; have NB106_104 := n10_; have NB105_106 := n11_; have NB106_105 := n12_; clear n0_ n1_ n2_ n3_ n4_ n5_ n6_ n7_ n8_ n9_ n10_ n11_ n12_; clear hb hbox hg; have hnb64 := NB106_103.out; have hnc64 := NB103_106.out; have hnb65 := NB106_104.out; have hnc65 := NB104_106.out; have hnb66 := NB106_105.out; have hnc66 := NB105_106.out; have hcz67_0 : w63.cell? ⟨gb106, 0, none⟩ = some (.int .i64 0) := (blk_cell BK106.out 0).trans rfl; have hcz67_1 : w63.cell? ⟨gb106, 1, none⟩ = some (.int .i64 0) := (blk_cell BK106.out 1).trans rfl; have hcz67_2 : w63.cell? ⟨gb106, 2, none⟩ = some (.int .i64 0) := (blk_cell BK106.out 2).trans rfl; have hcz67_3 : w63.cell? ⟨gb106, 3, none⟩ = some (.int .i64 0) := (blk_cell BK106.out 3).trans rfl; have hfz67_0 := blk_frozen BK106.out 0; have hfz67_1 := blk_frozen BK106.out 1; have hfz67_2 := blk_frozen BK106.out 2; have hfz67_3 := blk_frozen BK106.out 3; have hnb68 := NB103_105.out; have hnc68 := NB105_103.out; have hcz69_0 : w63.cell? ⟨gb103, 0, none⟩ = some (.int .i64 a0_0) := (blk_cell BK103.out 0).trans rfl; have hcz69_1 : w63.cell? ⟨gb103, 1, none⟩ = some (.int .i64 a0_1) := (blk_cell BK103.out 1).trans rfl; have hcz69_2 : w63.cell? ⟨gb103, 2, none⟩ = some (.int .i64 a0_2) := (blk_cell BK103.out 2).trans rfl; have hcz69_3 : w63.cell? ⟨gb103, 3, none⟩ = some (.int .i64 a0_3) := (blk_cell BK103.out 3).trans rfl; have hfz69_0 := blk_frozen BK103.out 0; have hfz69_1 := blk_frozen BK103.out 1; have hfz69_2 := blk_frozen BK103.out 2; have hfz69_3 := blk_frozen BK103.out 3; have hcz70_0 : w63.cell? ⟨gb105, 0, none⟩ = some (.int .i64 0) := (blk_cell BK105.out 0).trans rfl; have hcz70_1 : w63.cell? ⟨gb105, 1, none⟩ = some (.int .i64 0) := (blk_cell BK105.out 1).trans rfl; have hcz70_2 : w63.cell? ⟨gb105, 2, none⟩ = some (.int .i64 0) := (blk_cell BK105.out 2).trans rfl; have hcz70_3 : w63.cell? ⟨gb105, 3, none⟩ = some (.int .i64 0) := (blk_cell BK105.out 3).trans rfl; have hfz70_0 := blk_frozen BK105.out 0; have hfz70_1 := blk_frozen BK105.out 1; have hfz70_2 := blk_frozen BK105.out 2; have hfz70_3 := blk_frozen BK105.out 3))
    refine bodyPost_ret (results_cell_row rfl _ _ gb105 36 #[.int .i64 a0_0, .int .i64 a0_1, .int .i64 a0_2, .int .i64 a0_3] (0, 0) _ rfl (by (with_reducible repeat (first | refine blk_drewN ?_ _ | refine blk_drew ?_ | refine blk_alloc ?_ _)); refine blk_put (cs := #[.int .i64 a0_0, .int .i64 a0_1, .int .i64 a0_2, .int .i64 0]) ?_ 3 _ rfl; (with_reducible repeat (first | refine blk_drewN ?_ _ | refine blk_drew ?_ | refine blk_alloc ?_ _)); refine blk_put (cs := #[.int .i64 a0_0, .int .i64 a0_1, .int .i64 0, .int .i64 0]) ?_ 2 _ rfl; (with_reducible repeat (first | refine blk_drewN ?_ _ | refine blk_drew ?_ | refine blk_alloc ?_ _)); refine blk_put (cs := #[.int .i64 a0_0, .int .i64 0, .int .i64 0, .int .i64 0]) ?_ 1 _ rfl; (with_reducible repeat (first | refine blk_drewN ?_ _ | refine blk_drew ?_ | refine blk_alloc ?_ _)); refine blk_put (cs := #[.int .i64 0, .int .i64 0, .int .i64 0, .int .i64 0]) ?_ 0 _ rfl; (with_reducible repeat (first | refine blk_drewN ?_ _ | refine blk_drew ?_ | refine blk_alloc ?_ _)); refine blk_far ?_ NB105_106.out _; (with_reducible repeat (first | refine blk_drewN ?_ _ | refine blk_drew ?_ | refine blk_alloc ?_ _)); refine blk_far ?_ NB105_106.out _; (with_reducible repeat (first | refine blk_drewN ?_ _ | refine blk_drew ?_ | refine blk_alloc ?_ _)); refine blk_far ?_ NB105_106.out _; (with_reducible repeat (first | refine blk_drewN ?_ _ | refine blk_drew ?_ | refine blk_alloc ?_ _)); refine blk_far ?_ NB105_106.out _; (with_reducible repeat (first | refine blk_drewN ?_ _ | refine blk_drew ?_ | refine blk_alloc ?_ _)); exact BK105.out) Tryd.underlying36 rfl (by kernel_rfl)) rfl ?_
    exact ⟨by first | rfl | (simp [errW_none, errW_some] <;> rfl) | (simp [*, errW_none, errW_some] <;> rfl), by repeat (first | (with_reducible first | exact HB.out | apply below_alloc | apply pw_below_drewN | apply below_drew1 | refine below_set ?_ GE103.out | refine below_set ?_ GE104.out | refine below_set ?_ GE105.out | refine below_set ?_ GE106.out) | exact HB.out)⟩
end Go.Proofs.YtfimhaodgekkgaaDoor.QSpn
