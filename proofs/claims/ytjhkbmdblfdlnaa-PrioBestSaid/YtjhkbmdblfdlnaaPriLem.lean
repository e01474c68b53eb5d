/- Layer 10 in plain terms: which vector is better, what a way costs, what is of use, the best of what was heard, and the ports' roles; the program's functions and the document's. Conditions: numbers of their kinds, lists of a size that can be read. -/
import Derived.Test.YtjhkbmdblfdlnaaQPriox5
import Derived.Test.YtjhkbmdblfdlnaaQPriox7
import Derived.Test.YtjhkbmdblfdlnaaQPriox8
namespace Go.Proofs.Ytjhkbmdblfdlnaa.Pri
open Go.RowKit Go.Proofs.YtjhkbmdblfdlnaaW.PrintWords Go.Proofs.YtjhkbmdblfdlnaaW.PrintLast Go.Proofs.YtjhkbmdblfdlnaaW.PrintMore Go.Proofs.Ytjhkbmdblfdlnaa.QPrio

/-- A number of its kind. -/
def Fit (a : Int) : Prop := -9223372036854775808 ≤ a ∧ a ≤ 9223372036854775807

theorem fit_of {a : Int} (h : (Lit.int .i64 a).wf = true) : Fit a := by
  simp only [Lit.wf, Bool.and_eq_true, decide_eq_true_eq] at h
  unfold Fit
  have e1 : IntKind.i64.min = -9223372036854775808 := by decide
  have e2 : IntKind.i64.max = 9223372036854775807 := by decide
  rw [e1, e2] at h
  exact h

/-- What a comparing of two numbers tells. -/
def sgn (a b : Int) : Int := if a < b then -1 else if a > b then 1 else 0

theorem cmp_sgn (a b : Int) : cmp_Compare_int.f a b = some (sgn a b) := by
  unfold cmp_Compare_int.f cmp_isNaN_int.f sgn
  simp only [bne_self_eq_false, Option.bind_some, Bool.false_eq_true, if_false]
  split
  · rfl
  · split <;> rfl

/-- The first number that isn't 0. -/
def or4 (a b c d : Int) : Int := if a ≠ 0 then a else if b ≠ 0 then b else if c ≠ 0 then c else d

theorem or_four (a b c d : Int) (k : Nat) : cmp_Or_int.f (k + 5) [a, b, c, d] = some (or4 a b c d) := by
  have r0 : rd [a, b, c, d] 0 = a := rfl
  have r1 : rd [a, b, c, d] 1 = b := rfl
  have r2 : rd [a, b, c, d] 2 = c := rfl
  have r3 : rd [a, b, c, d] 3 = d := rfl
  have w0 : wrap64 (0 + 1) = 1 := by unfold wrap64; decide
  have w1 : wrap64 (1 + 1) = 2 := by unfold wrap64; decide
  have w2 : wrap64 (2 + 1) = 3 := by unfold wrap64; decide
  have w3 : wrap64 (3 + 1) = 4 := by unfold wrap64; decide
  unfold cmp_Or_int.f
  have hl : (([a, b, c, d] : List Int).length : Int) = 4 := rfl
  rw [hl, cmp_Or_int.l0, if_pos (by decide), if_pos (by decide), hl, if_pos (by decide), r0]
  by_cases ha : a = 0
  · rw [if_pos ha, w0, cmp_Or_int.l0, if_pos (by decide), if_pos (by decide), hl, if_pos (by decide), r1]
    by_cases hb : b = 0
    · rw [if_pos hb, w1, cmp_Or_int.l0, if_pos (by decide), if_pos (by decide), hl, if_pos (by decide), r2]
      by_cases hc : c = 0
      · rw [if_pos hc, w2, cmp_Or_int.l0, if_pos (by decide), if_pos (by decide), hl, if_pos (by decide), r3]
        by_cases hd : d = 0
        · rw [if_pos hd, w3, cmp_Or_int.l0, if_neg (by decide)]
          simp [or4, ha, hb, hc, hd]
        · rw [if_neg hd]
          simp [or4, ha, hb, hc]
      · rw [if_neg hc]
        simp [or4, ha, hb, hc]
    · rw [if_neg hb]
      simp [or4, ha, hb]
  · rw [if_neg ha]
    simp [or4, ha]

/-- What Compare tells of two vectors. -/
def cmpV (a b : S23) : Int := or4 (sgn a.f0 b.f0) (sgn a.f1 b.f1) (sgn a.f2 b.f2) (sgn a.f3 b.f3)

theorem compare_ev (a b : S23) : Ev (fun k => prio_Compare.f k a.f0 a.f1 a.f2 a.f3 b.f0 b.f1 b.f2 b.f3) (cmpV a b) := by
  refine Ev.of (fun k => prio_Compare.mono _ _ _ _ _ _ _ _ k) (k := 5) ?_
  unfold prio_Compare.f
  simp only [cmp_sgn, Option.bind_some]
  rw [or_four _ _ _ _ 0]
  rfl

/-- Is the first vector better? -/
def bet (a b : S23) : Bool := decide (a.f0 < b.f0 ∨ a.f0 = b.f0 ∧ (a.f1 < b.f1 ∨ a.f1 = b.f1 ∧ (a.f2 < b.f2 ∨ a.f2 = b.f2 ∧ a.f3 < b.f3)))

theorem cmpV_neg (a b : S23) : decide (cmpV a b < 0) = bet a b := by
  unfold cmpV or4 sgn bet
  rw [decide_eq_decide]
  repeat' split
  all_goals omega

theorem better_ev (a b : S23) : Ev (fun k => prio_Better.f k a.f0 a.f1 a.f2 a.f3 b.f0 b.f1 b.f2 b.f3) (bet a b) := by
  unfold prio_Better.f
  refine Ev.bind (compare_ev a b) ?_
  rw [cmpV_neg]
  exact Ev.now _

theorem better_ref (a b : S23) : kissgateref10_Better.f a.f0 a.f1 a.f2 a.f3 b.f0 b.f1 b.f2 b.f3 = some (bet a b) := by
  unfold kissgateref10_Better.f bet
  by_cases h0 : a.f0 = b.f0
  · rw [if_pos h0]
    by_cases h1 : a.f1 = b.f1
    · rw [if_pos h1]
      by_cases h2 : a.f2 = b.f2
      · rw [if_pos h2]; congr 1; rw [decide_eq_decide]; omega
      · rw [if_neg h2]; congr 1; rw [decide_eq_decide]; omega
    · rw [if_neg h1]; congr 1; rw [decide_eq_decide]; omega
  · rw [if_neg h0]; congr 1; rw [decide_eq_decide]; omega

/-- Two costs of one way. -/
def sumc (a b : Int) : Int := if mx a 0 + mx b 0 > 9223372036854775807 then 9223372036854775807 else mx a 0 + mx b 0

theorem sum_prog {a b : Int} (ha : Fit a) (hb : Fit b) : cost_Sum.f a b = some (sumc a b) := by
  unfold cost_Sum.f sumc
  unfold Fit at ha hb
  unfold mx wrap64
  repeat' split
  all_goals first | rfl | omega | (congr 1; omega)

theorem sum_ref {a b : Int} (ha : Fit a) (hb : Fit b) : kissgateref10_Sum.f a b = some (sumc a b) := by
  unfold kissgateref10_Sum.f sumc
  unfold Fit at ha hb
  unfold mx wrap64
  repeat' split
  all_goals first | rfl | omega | (congr 1; omega)

/-- A bridge's name? -/
def brid (a : Int) : Bool := decide (0 < a ∧ a / 281474976710656 ≤ 15 ∧ a % 281474976710656 / 1099511627776 % 2 ≠ 1)

theorem wraps_i64 (n : Int) (h₀ : 0 ≤ n) (h₁ : n < 2 ^ 63) : IntKind.i64.wrap n = n := by
  rw [IntKind.wrap_i64]
  have : (2 : Int) ^ 63 = 9223372036854775808 := by decide
  omega

theorem bridge_prog {a : Int} (ha : Fit a) : bpdu_Bridge.f a = some (brid a) := by
  unfold Fit at ha
  unfold bpdu_Bridge.f brid
  have e63 : (2 : Int) ^ 63 = 9223372036854775808 := by decide
  by_cases h0 : a > 0
  · rw [if_pos h0]
    by_cases h1 : a / 281474976710656 ≤ 15
    · rw [if_pos h1]
      have hm : Go.bits .and .i64 a 281474976710655 = a % 281474976710656 := by
        have := bits_mask .i64 63 (by decide) wraps_i64 48 (by decide) a (by omega) (by omega)
        have e1 : ((2 : Int) ^ 48 - 1) = 281474976710655 := by decide
        have e2 : ((2 : Int) ^ 48) = 281474976710656 := by decide
        rw [e1, e2] at this
        exact this
      rw [hm]
      unfold addr_Many.f addr_Good.f
      have g1 : a % 281474976710656 ≥ 0 := by omega
      have g2 : decide (a % 281474976710656 ≤ 281474976710655) = true := decide_eq_true (by omega)
      rw [if_pos g1, g2]
      simp only [Option.bind_some, if_true]
      have hb : Go.bits .and .i64 (a % 281474976710656 / 1099511627776) 1 = a % 281474976710656 / 1099511627776 % 2 := by
        have := bits_mask .i64 63 (by decide) wraps_i64 1 (by decide) (a % 281474976710656 / 1099511627776) (by omega) (by omega)
        exact this
      rw [hb]
      congr 1
      rw [Bool.eq_iff_iff]
      simp
      omega
    · rw [if_neg h1]
      congr 1
      symm
      exact decide_eq_false (by omega)
  · rw [if_neg h0]
    congr 1
    symm
    exact decide_eq_false (by omega)

theorem bridge_ref {a : Int} (ha : Fit a) : kissgateref08_Bridge.f a = some (brid a) := by
  unfold Fit at ha
  unfold kissgateref08_Bridge.f brid
  by_cases h0 : a ≤ 0
  · rw [if_pos h0]
    congr 1
    symm
    exact decide_eq_false (by omega)
  · rw [if_neg h0]
    have hd : Int.tdiv a 281474976710656 = a / 281474976710656 := Int.tdiv_eq_ediv_of_nonneg (by omega)
    have hm : Int.tmod a 281474976710656 = a % 281474976710656 := Int.tmod_eq_emod_of_nonneg (by omega)
    have hw : wrap64 (a / 281474976710656) = a / 281474976710656 := by unfold wrap64; omega
    rw [hd, hm, hw]
    by_cases h1 : a / 281474976710656 > 15
    · rw [if_pos h1]
      congr 1
      symm
      exact decide_eq_false (by omega)
    · rw [if_neg h1]
      unfold kissgateref02_Many.f kissgateref02_Good.f
      have g1 : a % 281474976710656 ≥ 0 := by omega
      have g2 : decide (a % 281474976710656 < 281474976710656) = true := decide_eq_true (by omega)
      rw [if_pos g1, g2]
      simp only [Option.bind_some, if_true]
      have hd2 : Int.tdiv (a % 281474976710656) 1099511627776 = a % 281474976710656 / 1099511627776 := Int.tdiv_eq_ediv_of_nonneg (by omega)
      have hw2 : wrap64 (a % 281474976710656 / 1099511627776) = a % 281474976710656 / 1099511627776 := by unfold wrap64; omega
      have hm2 : Int.tmod (a % 281474976710656 / 1099511627776) 2 = a % 281474976710656 / 1099511627776 % 2 := Int.tmod_eq_emod_of_nonneg (by omega)
      rw [hd2, hw2, hm2]
      congr 1
      rw [Bool.eq_iff_iff]
      simp
      omega

/-- Is what was heard of use? -/
def takes (h : S45) (id : Int) : Bool := decide (h.f3 = false ∧ 0 ≤ h.f1 ∧ h.f1 < 10 ∧ brid h.f0.f0 = true ∧ h.f0.f2 ≠ id)

theorem takes_prog (h : S45) (id : Int) (hr : Fit h.f0.f0) : prio_takes.f h.f0.f0 h.f0.f1 h.f0.f2 h.f0.f3 h.f1 h.f2 h.f3 id = some (takes h id) := by
  unfold prio_takes.f takes
  rw [bridge_prog hr]
  cases h.f3 with
  | true => simp
  | false =>
    simp only [Bool.false_eq_true, if_false, Option.bind_some]
    by_cases h1 : h.f1 ≥ 0
    · rw [if_pos h1]
      by_cases h2 : h.f1 < 10
      · rw [if_pos h2]
        cases brid h.f0.f0 with
        | false => simp
        | true => simp only [if_true]; congr 1; rw [Bool.eq_iff_iff]; simp; omega
      · rw [if_neg h2]; congr 1; symm; exact decide_eq_false (by omega)
    · rw [if_neg h1]; congr 1; symm; exact decide_eq_false (by omega)

/-- The same for the document's. -/
def conv (h : S45) : S73 := ⟨⟨h.f0.f0, h.f0.f1, h.f0.f2, h.f0.f3⟩, h.f1, h.f2, h.f3⟩

theorem takes_ref (h : S45) (id : Int) (hr : Fit h.f0.f0) : kissgateref10_Use.f h.f0.f0 h.f0.f1 h.f0.f2 h.f0.f3 h.f1 h.f2 h.f3 id = some (takes h id) := by
  unfold kissgateref10_Use.f takes
  rw [bridge_ref hr]
  cases h.f3 with
  | true => simp
  | false =>
    simp only [Bool.false_eq_true, if_false, Option.bind_some]
    by_cases h1 : h.f1 ≥ 0
    · rw [if_pos h1]
      by_cases h2 : h.f1 ≤ 9
      · rw [if_pos h2]
        cases brid h.f0.f0 with
        | false => simp
        | true => simp only [if_true]; congr 1; rw [Bool.eq_iff_iff]; simp; omega
      · rw [if_neg h2]; congr 1; symm; exact decide_eq_false (by omega)
    · rw [if_neg h1]; congr 1; symm; exact decide_eq_false (by omega)

/-- What was heard, with the way through the port. -/
def thr (h : S45) : S23 := ⟨h.f0.f0, sumc h.f0.f1 h.f2, h.f0.f2, h.f0.f3⟩

/-- The numbers of what was heard are of their kinds. -/
def FitH (h : S45) : Prop := Fit h.f0.f0 ∧ Fit h.f0.f1 ∧ Fit h.f2

/-- One step of the search for the best. -/
def step (id : Int) (j : Nat) (h : S45) (acc : S23 × Int) : S23 × Int := if takes h id = true ∧ h.f0.f0 < id ∧ bet (thr h) acc.1 = true then (thr h, (j : Int)) else acc

def best (id : Int) : Nat → List S45 → S23 × Int → S23 × Int
  | _, [], acc => acc
  | j, h :: t, acc => best id (j + 1) t (step id j h acc)

/-- What a bridge says of itself. -/
def own (id : Int) : S23 := ⟨id, 0, id, 0⟩

def bestOf (id : Int) (l : List S45) : S23 × Int := best id 0 l (own id, -1)

/-- As the program's functions tell it. -/
def tup (a : S23 × Int) : Int × Int × Int × Int × Int := (a.1.f0, a.1.f1, a.1.f2, a.1.f3, a.2)

theorem wrap_up {i : Int} {n : Nat} (h0 : 0 ≤ i) (h : i < (n : Int)) (hn : n ≤ 9223372036854775000) : wrap64 (i + 1) = i + 1 := by
  unfold wrap64
  omega

theorem rd45 {l : List S45} {i : Nat} (h : i < l.length) : rd_T45 l i = l[i] := by
  unfold rd_T45
  rw [Int.toNat_natCast, List.getD_eq_getElem?_getD, List.getElem?_eq_getElem h]; rfl

theorem rd73 {l : List S45} {i : Nat} (h : i < l.length) : rd_T73 (l.map conv) i = conv l[i] := by
  unfold rd_T73
  rw [Int.toNat_natCast, List.getD_eq_getElem?_getD, List.getElem?_map, List.getElem?_eq_getElem h]; rfl

theorem best_loop (id : Int) (l : List S45) (hn : l.length ≤ 9223372036854775000) (hf : ∀ h ∈ l, FitH h) (d : Nat) : ∀ (i : Nat) (acc : S23 × Int), i + d = l.length →
    Ev (fun k => prio_Best.l0 k id acc.2 l l.length i acc.1.f0 acc.1.f1 acc.1.f2 acc.1.f3) (tup (best id i (l.drop i) acc)) := by
  induction d with
  | zero =>
    intro i acc hi
    rw [List.drop_of_length_le (by omega)]
    exact Ev.step (fun k => by rw [prio_Best.l0, if_neg (by omega)]; rfl) (Ev.now (tup acc))
  | succ d ih =>
    intro i acc hi
    have hlt : i < l.length := by omega
    obtain ⟨f0, f1, f2⟩ := hf l[i] (List.getElem_mem hlt)
    rw [List.drop_eq_getElem_cons hlt]
    simp only [best]
    have hs : ∀ k, prio_Best.l0 (k + 1) id acc.2 l l.length i acc.1.f0 acc.1.f1 acc.1.f2 acc.1.f3 =
        (if takes l[i] id = true then (if l[i].f0.f0 < id then ((prio_Better.f k (thr l[i]).f0 (thr l[i]).f1 (thr l[i]).f2 (thr l[i]).f3 acc.1.f0 acc.1.f1 acc.1.f2 acc.1.f3).bind fun t => if t = true then prio_Best.l0 k id i l l.length ((i + 1 : Nat) : Int) (thr l[i]).f0 (thr l[i]).f1 (thr l[i]).f2 (thr l[i]).f3 else prio_Best.l0 k id acc.2 l l.length ((i + 1 : Nat) : Int) acc.1.f0 acc.1.f1 acc.1.f2 acc.1.f3) else prio_Best.l0 k id acc.2 l l.length ((i + 1 : Nat) : Int) acc.1.f0 acc.1.f1 acc.1.f2 acc.1.f3) else prio_Best.l0 k id acc.2 l l.length ((i + 1 : Nat) : Int) acc.1.f0 acc.1.f1 acc.1.f2 acc.1.f3) := by
      intro k
      rw [prio_Best.l0, if_pos (by omega), if_pos (by omega), if_pos (by omega), rd45 hlt, wrap_up (n := l.length) (by omega) (by omega) hn, takes_prog _ _ f0]
      unfold prio_Through.f
      rw [sum_prog f1 f2]
      rfl
    refine Ev.step hs ?_
    unfold step
    by_cases h1 : takes l[i] id = true
    · rw [h1]
      simp only [if_true, true_and]
      by_cases h2 : l[i].f0.f0 < id
      · simp only [if_pos h2]
        refine Ev.bind (better_ev (thr l[i]) acc.1) ?_
        by_cases h3 : bet (thr l[i]) acc.1 = true
        · rw [h3]
          simp only [if_true]
          rw [if_pos ⟨h2, trivial⟩]
          exact ih (i + 1) (thr l[i], (i : Int)) (by omega)
        · rw [if_neg (by simp [h3])]
          simp only [h3, Bool.false_eq_true, if_false]
          exact ih (i + 1) acc (by omega)
      · simp only [if_neg h2]
        rw [if_neg (by simp [h2])]
        exact ih (i + 1) acc (by omega)
    · rw [if_neg (by simp [h1])]
      simp only [h1, Bool.false_eq_true, if_false]
      exact ih (i + 1) acc (by omega)

theorem best_prog (id : Int) (l : List S45) (hn : l.length ≤ 9223372036854775000) (hf : ∀ h ∈ l, FitH h) : Ev (fun k => prio_Best.f k id l) (tup (bestOf id l)) := by
  have := best_loop id l hn hf l.length 0 (own id, -1) (by omega)
  rw [List.drop_zero] at this
  exact this

theorem bref_loop (id : Int) (l : List S45) (hn : l.length ≤ 9223372036854775000) (hf : ∀ h ∈ l, FitH h) (d : Nat) : ∀ (i : Nat) (acc : S23 × Int), i + d = l.length →
    Ev (fun k => kissgateref10_Best.l0 k id acc.2 (l.map conv) l.length i acc.1.f0 acc.1.f1 acc.1.f2 acc.1.f3) (tup (best id i (l.drop i) acc)) := by
  induction d with
  | zero =>
    intro i acc hi
    rw [List.drop_of_length_le (by omega)]
    exact Ev.step (fun k => by rw [kissgateref10_Best.l0, if_neg (by omega)]; rfl) (Ev.now (tup acc))
  | succ d ih =>
    intro i acc hi
    have hlt : i < l.length := by omega
    have hlm : (l.map conv).length = l.length := List.length_map _
    obtain ⟨f0, f1, f2⟩ := hf l[i] (List.getElem_mem hlt)
    rw [List.drop_eq_getElem_cons hlt]
    simp only [best]
    have hs : ∀ k, kissgateref10_Best.l0 (k + 1) id acc.2 (l.map conv) l.length i acc.1.f0 acc.1.f1 acc.1.f2 acc.1.f3 =
        (if takes l[i] id = true then (if l[i].f0.f0 < id then (if bet (thr l[i]) acc.1 = true then kissgateref10_Best.l0 k id i (l.map conv) l.length ((i + 1 : Nat) : Int) (thr l[i]).f0 (thr l[i]).f1 (thr l[i]).f2 (thr l[i]).f3 else kissgateref10_Best.l0 k id acc.2 (l.map conv) l.length ((i + 1 : Nat) : Int) acc.1.f0 acc.1.f1 acc.1.f2 acc.1.f3) else kissgateref10_Best.l0 k id acc.2 (l.map conv) l.length ((i + 1 : Nat) : Int) acc.1.f0 acc.1.f1 acc.1.f2 acc.1.f3) else kissgateref10_Best.l0 k id acc.2 (l.map conv) l.length ((i + 1 : Nat) : Int) acc.1.f0 acc.1.f1 acc.1.f2 acc.1.f3) := by
      intro k
      rw [kissgateref10_Best.l0, if_pos (by omega), if_pos (by omega), if_pos (by omega), rd73 hlt, wrap_up (n := l.length) (by omega) (by omega) hn]
      have ht : kissgateref10_Use.f (conv l[i]).f0.f0 (conv l[i]).f0.f1 (conv l[i]).f0.f2 (conv l[i]).f0.f3 (conv l[i]).f1 (conv l[i]).f2 (conv l[i]).f3 id = some (takes l[i] id) := takes_ref l[i] id f0
      have hq : kissgateref10_Sum.f (conv l[i]).f0.f1 (conv l[i]).f2 = some (sumc l[i].f0.f1 l[i].f2) := sum_ref f1 f2
      rw [ht, hq]
      simp only [Option.bind_some]
      have hb : kissgateref10_Better.f (conv l[i]).f0.f0 (sumc l[i].f0.f1 l[i].f2) (conv l[i]).f0.f2 (conv l[i]).f0.f3 acc.1.f0 acc.1.f1 acc.1.f2 acc.1.f3 = some (bet (thr l[i]) acc.1) := better_ref (thr l[i]) acc.1
      rw [hb]
      rfl
    refine Ev.step hs ?_
    unfold step
    by_cases h1 : takes l[i] id = true
    · by_cases h2 : l[i].f0.f0 < id
      · by_cases h3 : bet (thr l[i]) acc.1 = true
        · simp only [h1, h2, h3, if_true, and_self]
          exact ih (i + 1) (thr l[i], (i : Int)) (by omega)
        · simp only [h1, h2, h3, if_true, and_false, Bool.false_eq_true, if_false]
          exact ih (i + 1) acc (by omega)
      · simp only [h1, h2, if_true, and_false, false_and, if_false]
        exact ih (i + 1) acc (by omega)
    · simp only [h1, Bool.false_eq_true, false_and, if_false]
      exact ih (i + 1) acc (by omega)

theorem best_ref (id : Int) (l : List S45) (hn : l.length ≤ 9223372036854775000) (hf : ∀ h ∈ l, FitH h) : Ev (fun k => kissgateref10_Best.f k id (l.map conv)) (tup (bestOf id l)) := by
  have := bref_loop id l hn hf l.length 0 (own id, -1) (by omega)
  rw [List.drop_zero] at this
  unfold kissgateref10_Best.f
  rw [List.length_map]
  exact this

theorem plain_loop (l : List S45) (hl : l.length * 56 ≤ 140737488351232) (d : Nat) : ∀ (i : Nat), i + d = l.length →
    Ev (fun k => kissgatelaw10_plain.l0 k ((l.take i).map conv) l l.length i) (l.map conv) := by
  induction d with
  | zero =>
    intro i hi
    rw [List.take_of_length_le (by omega)]
    exact Ev.step (fun k => by rw [kissgatelaw10_plain.l0, if_neg (by omega)]) (Ev.now _)
  | succ d ih =>
    intro i hi
    have hlt : i < l.length := by omega
    refine Ev.step (fun k => ?_) (ih (i + 1) (by omega))
    rw [kissgatelaw10_plain.l0, if_pos (by omega), if_pos (by omega), if_pos (by omega), rd45 hlt, if_pos (by simp; omega), wrap_up (n := l.length) (by omega) (by omega) (by omega), List.take_succ_eq_append_getElem hlt, List.map_append]
    rfl

theorem plain (l : List S45) (hl : l.length * 56 ≤ 140737488351232) : Ev (fun k => kissgatelaw10_plain.f k l) (l.map conv) := plain_loop l hl l.length 0 (by omega)

theorem alive : Ev (fun k => kissgatelaw10_alive.f k) true := Ev.of kissgatelaw10_alive.mono (k := 20) (by decide +kernel)

/-- What a bridge says at a port. -/
def offer (v : S23) (id port : Int) : S23 := ⟨v.f0, v.f1, id, port⟩

/-- A port's role. -/
def role (id : Int) (b : S23 × Int) (i : Nat) (h : S45) : Int := if (i : Int) = b.2 then 1 else if takes h id = true ∧ bet (offer b.1 id i) h.f0 = false then 3 else 2

def rolesFrom (id : Int) (b : S23 × Int) : Nat → List S45 → List Int
  | _, [] => []
  | i, h :: t => role id b i h :: rolesFrom id b (i + 1) t

theorem roles_loop (id : Int) (l : List S45) (b : S23 × Int) (hn : l.length * 56 ≤ 140737488351232) (hf : ∀ h ∈ l, FitH h) (d : Nat) : ∀ (i : Nat) (out : List Int), i + d = l.length → out.length = i →
    Ev (fun k => prio_Roles.l0 k id b.2 out l l.length i b.1.f0 b.1.f1 b.1.f2 b.1.f3) (out ++ rolesFrom id b i (l.drop i), b.1.f0, b.1.f1, b.1.f2, b.1.f3, b.2) := by
  induction d with
  | zero =>
    intro i out hi ho
    rw [List.drop_of_length_le (by omega)]
    simp only [rolesFrom, List.append_nil]
    exact Ev.step (fun k => by rw [prio_Roles.l0, if_neg (by omega)]) (Ev.now _)
  | succ d ih =>
    intro i out hi ho
    have hlt : i < l.length := by omega
    obtain ⟨f0, f1, f2⟩ := hf l[i] (List.getElem_mem hlt)
    rw [List.drop_eq_getElem_cons hlt]
    simp only [rolesFrom]
    have hi1 := ih (i + 1) (out ++ [role id b i l[i]]) (by omega) (by simp [ho])
    rw [List.append_assoc, List.singleton_append] at hi1
    have hcast : ((i + 1 : Nat) : Int) = (i : Int) + 1 := by omega
    by_cases h0 : (i : Int) = b.2
    · have hr : role id b i l[i] = 1 := by unfold role; rw [if_pos h0]
      rw [hr] at hi1 ⊢
      exact Ev.step (fun k => by rw [prio_Roles.l0, if_pos (by omega), if_pos (by omega), if_pos (by omega), if_pos h0, if_pos (by omega), wrap_up (i := (i : Int)) (n := l.length) (by omega) (by omega) (by omega), ← hcast]) hi1
    · by_cases h1 : takes l[i] id = true
      · have hs : ∀ k, prio_Roles.l0 (k + 1) id b.2 out l l.length i b.1.f0 b.1.f1 b.1.f2 b.1.f3 = (prio_Better.f k (offer b.1 id i).f0 (offer b.1 id i).f1 (offer b.1 id i).f2 (offer b.1 id i).f3 l[i].f0.f0 l[i].f0.f1 l[i].f0.f2 l[i].f0.f3).bind fun t => if t = true then prio_Roles.l0 k id b.2 (out ++ [2]) l l.length ((i + 1 : Nat) : Int) b.1.f0 b.1.f1 b.1.f2 b.1.f3 else prio_Roles.l0 k id b.2 (out ++ [3]) l l.length ((i + 1 : Nat) : Int) b.1.f0 b.1.f1 b.1.f2 b.1.f3 := by
          intro k
          rw [prio_Roles.l0, if_pos (by omega), if_pos (by omega), if_pos (by omega), if_neg h0, rd45 hlt, takes_prog _ _ f0, h1, Option.bind_some, if_pos rfl, wrap_up (i := (i : Int)) (n := l.length) (by omega) (by omega) (by omega), if_pos (show out.length < 17592186044416 by omega), if_pos (show out.length < 17592186044416 by omega)]
          rfl
        refine Ev.step hs ?_
        refine Ev.bind (better_ev (offer b.1 id i) l[i].f0) ?_
        cases h2 : bet (offer b.1 id i) l[i].f0 with
        | true =>
          have hr : role id b i l[i] = 2 := by unfold role; rw [if_neg h0, if_neg (by simp [h2])]
          rw [hr] at hi1 ⊢
          simp only [if_true]
          exact hi1
        | false =>
          have hr : role id b i l[i] = 3 := by unfold role; rw [if_neg h0, if_pos ⟨h1, h2⟩]
          rw [hr] at hi1 ⊢
          simp only [Bool.false_eq_true, if_false]
          exact hi1
      · have hr : role id b i l[i] = 2 := by unfold role; rw [if_neg h0, if_neg (by simp [h1])]
        rw [hr] at hi1 ⊢
        have h1' : takes l[i] id = false := by simpa using h1
        exact Ev.step (fun k => by rw [prio_Roles.l0, if_pos (by omega), if_pos (by omega), if_pos (by omega), if_neg h0, rd45 hlt, takes_prog _ _ f0, h1', Option.bind_some, if_neg (by decide), if_pos (by omega), wrap_up (i := (i : Int)) (n := l.length) (by omega) (by omega) (by omega), ← hcast]) hi1

/-- All ports' roles. -/
def roles (id : Int) (l : List S45) : List Int := rolesFrom id (bestOf id l) 0 l

theorem roles_prog (id : Int) (l : List S45) (hn : l.length * 56 ≤ 140737488351232) (hf : ∀ h ∈ l, FitH h) :
    Ev (fun k => prio_Roles.f k id l) (roles id l, (bestOf id l).1.f0, (bestOf id l).1.f1, (bestOf id l).1.f2, (bestOf id l).1.f3, (bestOf id l).2) := by
  unfold prio_Roles.f
  refine Ev.bind (best_prog id l (by omega) hf) ?_
  exact roles_loop id l (bestOf id l) hn hf l.length 0 [] (by omega) rfl

theorem rolesFrom_len (id : Int) (b : S23 × Int) (l : List S45) : ∀ i, (rolesFrom id b i l).length = l.length := by
  induction l with
  | nil => intro i; rfl
  | cons h t ih => intro i; simp [rolesFrom, ih]

theorem rolesFrom_get (id : Int) (b : S23 × Int) (l : List S45) : ∀ (i j : Nat) (hj : j < l.length), (rolesFrom id b i l)[j]? = some (role id b (i + j) l[j]) := by
  induction l with
  | nil => intro i j hj; simp at hj
  | cons h t ih =>
    intro i j hj
    cases j with
    | zero => simp [rolesFrom]
    | succ j => simp only [rolesFrom, List.getElem?_cons_succ, List.getElem_cons_succ]; rw [ih (i + 1) j (by simpa using hj)]; congr 2; omega

theorem roles_len (id : Int) (l : List S45) : (roles id l).length = l.length := rolesFrom_len _ _ _ _

theorem roles_get (id : Int) (l : List S45) (i : Nat) (hi : i < l.length) : rd (roles id l) i = role id (bestOf id l) i l[i] := by
  unfold rd roles
  rw [Int.toNat_natCast, List.getD_eq_getElem?_getD, rolesFrom_get _ _ _ _ _ hi]
  simp

theorem role_ref (id : Int) (l : List S45) (hn : l.length * 56 ≤ 140737488351232) (hf : ∀ h ∈ l, FitH h) (i : Nat) (hi : i < l.length) : Ev (fun k => kissgateref10_Role.f k id (l.map conv) i) (role id (bestOf id l) i l[i]) := by
  have hlm : (l.map conv).length = l.length := List.length_map _
  obtain ⟨f0, f1, f2⟩ := hf l[i] (List.getElem_mem hi)
  unfold kissgateref10_Role.f
  refine Ev.bind (best_ref id l (by omega) hf) ?_
  unfold role
  by_cases h0 : (i : Int) = (bestOf id l).2
  · rw [if_pos h0]
    exact Ev.congr (fun k => by rw [if_pos (by exact h0)]) (Ev.now _)
  · rw [if_neg h0]
    have ht : kissgateref10_Use.f (conv l[i]).f0.f0 (conv l[i]).f0.f1 (conv l[i]).f0.f2 (conv l[i]).f0.f3 (conv l[i]).f1 (conv l[i]).f2 (conv l[i]).f3 id = some (takes l[i] id) := takes_ref l[i] id f0
    have hb : kissgateref10_Better.f (bestOf id l).1.f0 (bestOf id l).1.f1 id i (conv l[i]).f0.f0 (conv l[i]).f0.f1 (conv l[i]).f0.f2 (conv l[i]).f0.f3 = some (bet (offer (bestOf id l).1 id i) l[i].f0) := better_ref (offer (bestOf id l).1 id i) l[i].f0
    refine Ev.congr (fun k => by rw [if_neg (by exact h0), if_pos (by omega), if_pos (by omega), rd73 hi, ht, Option.bind_some]) ?_
    cases takes l[i] id with
    | false => simp only [Bool.false_eq_true, if_false, false_and]; exact Ev.now _
    | true =>
      simp only [if_true, true_and]
      refine Ev.congr (fun k => by rw [show (tup (bestOf id l)).1 = (bestOf id l).1.f0 from rfl, show (tup (bestOf id l)).2.1 = (bestOf id l).1.f1 from rfl, hb, Option.bind_some]) ?_
      cases bet (offer (bestOf id l).1 id i) l[i].f0 with
      | false => simp only [Bool.false_eq_true, if_false, if_true]; exact Ev.now _
      | true => simp only [if_true, Bool.true_eq_false, if_false]; exact Ev.now _

end Go.Proofs.Ytjhkbmdblfdlnaa.Pri
