/- Layer 17 in plain lists: when an attribute was said first at a port, what Wants answers, what the document says. Conditions: at most 20 ports, where they are named. -/
import Derived.Test.YtbcngajkokjfjaaQSprx3
namespace Go.Proofs.Ytbcngajkokjfjaa.Spr
open Go.RowKit Go.Proofs.YtbcngajkokjfjaaW.PrintWords Go.Proofs.YtbcngajkokjfjaaW.PrintLast Go.Proofs.YtbcngajkokjfjaaW.PrintMore Go.Proofs.Ytbcngajkokjfjaa.QSpr

theorem wrap_up {i : Int} {n : Nat} (h0 : 0 ≤ i) (h : i < (n : Int)) (hn : n ≤ 9223372036854775000) : wrap64 (i + 1) = i + 1 := by
  unfold wrap64
  omega

/-- Where an attribute stands first in a list. -/
def find (xs : List S38) (a b : Int) : Option Nat := xs.findIdx? fun x => a == x.f0 && b == x.f1

theorem rd38 {xs : List S38} {i : Nat} (h : i < xs.length) : rd_T38 xs i = xs[i] := by
  unfold rd_T38
  rw [Int.toNat_natCast, List.getD_eq_getElem?_getD, List.getElem?_eq_getElem h]; rfl

/-- From a place on. -/
def findFrom (xs : List S38) (a b : Int) (i : Nat) : Option Nat := (find (xs.drop i) a b).map (· + i)

theorem findFrom_end (xs : List S38) (a b : Int) (i : Nat) (h : xs.length ≤ i) : findFrom xs a b i = none := by
  unfold findFrom find
  rw [List.drop_of_length_le h]
  rfl

theorem findFrom_step (xs : List S38) (a b : Int) (i : Nat) (h : i < xs.length) : findFrom xs a b i = if (a == xs[i].f0 && b == xs[i].f1) = true then some i else findFrom xs a b (i + 1) := by
  unfold findFrom find
  rw [List.drop_eq_getElem_cons h, List.findIdx?_cons]
  split
  · simp
  · cases List.findIdx? (fun x => a == x.f0 && b == x.f1) (List.drop (i + 1) xs) with
    | none => rfl
    | some j => simp; omega

theorem findFrom_zero (xs : List S38) (a b : Int) : findFrom xs a b 0 = find xs a b := by
  unfold findFrom
  rw [List.drop_zero]
  cases find xs a b <;> simp

theorem findFrom_lt (xs : List S38) (a b : Int) {i j : Nat} (h : findFrom xs a b i = some j) : j < xs.length := by
  unfold findFrom find at h
  obtain ⟨x, hx, he⟩ := Option.map_eq_some_iff.1 h
  have := (List.findIdx?_eq_some_iff_getElem.1 hx).1
  simp at this
  omega

theorem index_from (xs : List S38) (a b : Int) (hn : xs.length ≤ 9223372036854775000) (d : Nat) : ∀ i : Nat, i + d = xs.length →
    Ev (fun k => api_Attr.l0 k xs xs.length i a b) (match findFrom xs a b i with | some j => (j : Int) | none => -1) := by
  induction d with
  | zero =>
    intro i hi
    rw [findFrom_end xs a b i (by omega)]
    refine Ev.step (fun k => by rw [api_Attr.l0, if_neg (by omega)]) (Ev.now _)
  | succ d ih =>
    intro i hi
    rw [findFrom_step xs a b i (by omega)]
    have hlt : i < xs.length := by omega
    by_cases hc : (a == xs[i].f0 && b == xs[i].f1) = true
    · rw [if_pos hc]
      exact Ev.step (fun k => by rw [api_Attr.l0, if_pos (by omega), if_pos (by omega), if_pos (by omega), rd38 hlt, if_pos hc]) (Ev.now _)
    · rw [if_neg hc]
      refine Ev.step (fun k => by rw [api_Attr.l0, if_pos (by omega), if_pos (by omega), if_pos (by omega), rd38 hlt, if_neg hc, wrap_up (n := xs.length) (by omega) (by omega) hn]) ?_
      exact ih (i + 1) (by omega)

/-- When it was said first; -1: it isn't there, or the port doesn't forward. -/
def born (o : Bool) (xs : List S38) (bs : List Int) (a b : Int) : Int :=
  if o = true then (match find xs a b with | some j => if j < bs.length then bs.getD j 0 else -1 | none => -1) else -1

theorem born_prog (o : Bool) (xs : List S38) (bs : List Int) (a b : Int) (hn : xs.length ≤ 9223372036854775000) : Ev (fun k => spread_View_born.f k o xs bs a b) (born o xs bs a b) := by
  have h := index_from xs a b hn xs.length 0 (by omega)
  rw [findFrom_zero] at h
  unfold spread_View_born.f api_Attr.f
  refine Ev.bind h ?_
  unfold born
  cases o with
  | false => simp only [Bool.false_eq_true, if_false]; exact Ev.now _
  | true =>
    simp only [if_true]
    cases find xs a b with
    | none => simp only []; rw [if_pos (by omega)]; exact Ev.now _
    | some j =>
      simp only []
      rw [if_neg (by omega)]
      by_cases hj : j < bs.length
      · rw [if_neg (by omega), if_pos (by omega), if_pos (by omega), if_pos hj]
        unfold rd
        rw [Int.toNat_natCast]
        exact Ev.now _
      · rw [if_pos (by omega), if_neg hj]; exact Ev.now _

theorem born_ref_from (o : Bool) (xs : List S38) (bs : List Int) (a b : Int) (hn : xs.length ≤ 9223372036854775000) (d : Nat) : ∀ i : Nat, i + d = xs.length →
    Ev (fun k => kissgateref17_Born.l0 k xs xs.length i o xs bs a b) (match findFrom xs a b i with | some j => if j < bs.length then bs.getD j 0 else -1 | none => -1) := by
  induction d with
  | zero =>
    intro i hi
    rw [findFrom_end xs a b i (by omega)]
    exact Ev.step (fun k => by rw [kissgateref17_Born.l0, if_neg (by omega)]) (Ev.now _)
  | succ d ih =>
    intro i hi
    rw [findFrom_step xs a b i (by omega)]
    have hlt : i < xs.length := by omega
    have hsym : (xs[i].f0 == a && xs[i].f1 == b) = (a == xs[i].f0 && b == xs[i].f1) := by
      rw [show (xs[i].f0 == a) = (a == xs[i].f0) from by rw [Bool.eq_iff_iff, beq_iff_eq, beq_iff_eq]; exact eq_comm, show (xs[i].f1 == b) = (b == xs[i].f1) from by rw [Bool.eq_iff_iff, beq_iff_eq, beq_iff_eq]; exact eq_comm]
    by_cases hc : (a == xs[i].f0 && b == xs[i].f1) = true
    · rw [if_pos hc]
      by_cases hj : i < bs.length
      · refine Ev.step (fun k => by rw [kissgateref17_Born.l0, if_pos (by omega), if_pos (by omega), if_pos (by omega), rd38 hlt, hsym, if_pos hc, if_pos (by omega)]) ?_
        simp only [if_pos hj]
        unfold rd
        rw [Int.toNat_natCast]
        exact Ev.now _
      · refine Ev.step (fun k => by rw [kissgateref17_Born.l0, if_pos (by omega), if_pos (by omega), if_pos (by omega), rd38 hlt, hsym, if_pos hc, if_neg (by omega)]) ?_
        simp only [if_neg hj]
        exact Ev.now _
    · rw [if_neg hc]
      refine Ev.step (fun k => by rw [kissgateref17_Born.l0, if_pos (by omega), if_pos (by omega), if_pos (by omega), rd38 hlt, hsym, if_neg hc, wrap_up (n := xs.length) (by omega) (by omega) hn]) ?_
      exact ih (i + 1) (by omega)

theorem born_ref (o : Bool) (xs : List S38) (bs : List Int) (a b : Int) (hn : xs.length ≤ 9223372036854775000) : Ev (fun k => kissgateref17_Born.f k o xs bs a b) (born o xs bs a b) := by
  unfold kissgateref17_Born.f born
  cases o with
  | false => simp only [Bool.false_eq_true, if_false]; exact Ev.now _
  | true =>
    simp only [if_true]
    have h := born_ref_from true xs bs a b hn xs.length 0 (by omega)
    rw [findFrom_zero] at h
    exact h

/-- The latest of what was said at other ports. -/
def latest (a b : Int) (i : Nat) : Nat → List S49 → Int → Int
  | _, [], acc => acc
  | j, v :: vs, acc => latest a b i (j + 1) vs (if j = i then acc else mx acc (born v.f0 v.f1 v.f2 a b))

/-- What is to be said at a port. -/
def want (l : List S49) (a b own : Int) (i : Nat) : Int := if (rd_T49 l i).f0 = true then latest a b i 0 l (mx own (-1)) else -1

theorem rd49 {l : List S49} {i : Nat} (h : i < l.length) : rd_T49 l i = l[i] := by
  unfold rd_T49
  rw [Int.toNat_natCast, List.getD_eq_getElem?_getD, List.getElem?_eq_getElem h]; rfl

/-- Few ports, each of few attributes. -/
def Few (l : List S49) : Prop := l.length ≤ 20 ∧ ∀ v ∈ l, v.f1.length ≤ 40 ∧ v.f2.length ≤ 100

theorem inner (l : List S49) (a b own : Int) (hf : Few l) (r : List Int) (i : Nat) (hi : i < l.length) (d : Nat) : ∀ (j : Nat) (out : List Int), j + d = l.length → out.length = l.length →
    (∀ out' : List Int, out' = out.set i (latest a b i j (l.drop j) (out.getD i 0)) → Ev (fun k => spread_Wants.l0 k l own out' l l.length ((i : Int) + 1) a b) r) →
    Ev (fun k => spread_Wants.l1 k l own out i l l.length i l l.length j a b) r := by
  have h20 := hf.1
  induction d with
  | zero =>
    intro j out hj ho hk
    have hk := hk out (by rw [List.drop_of_length_le (by omega)]; simp only [latest]; rw [List.getD_eq_getElem?_getD, List.getElem?_eq_getElem (by omega), Option.getD_some, List.set_getElem_self])
    exact Ev.step (fun k => by rw [spread_Wants.l1, if_neg (by omega), wrap_up (n := l.length) (by omega) (by omega) (by omega)]) hk
  | succ d ih =>
    intro j out hj ho hk
    have hlt : j < l.length := by omega
    rw [List.drop_eq_getElem_cons hlt] at hk
    simp only [latest] at hk
    by_cases he : j = i
    · rw [if_pos he] at hk
      refine Ev.step (fun k => by rw [spread_Wants.l1, if_pos (by omega), if_pos (by omega), if_pos (by omega), if_pos (by omega), wrap_up (n := l.length) (by omega) (by omega) (by omega)]) ?_
      exact ih (j + 1) out (by omega) ho hk
    · rw [if_neg he] at hk
      refine Ev.step (fun k => by rw [spread_Wants.l1, if_pos (by omega), if_pos (by omega), if_pos (by omega), if_neg (by omega), if_pos (by omega), if_pos (by omega), wrap_up (n := l.length) (by omega) (by omega) (by omega), rd49 hlt]) ?_
      refine Ev.bind (born_prog _ _ _ a b (by have := (hf.2 l[j] (List.getElem_mem hlt)).1; omega)) ?_
      rw [Int.toNat_natCast]
      refine ih (j + 1) _ (by omega) (by simp [ho]) ?_
      intro out' ho'
      refine hk out' ?_
      rw [ho', List.set_set]
      congr 2
      rw [List.getD_eq_getElem?_getD, List.getElem?_set_self (by omega)]
      simp only [Option.getD_some]
      unfold rd
      rw [Int.toNat_natCast]

theorem outer (l : List S49) (a b own : Int) (hf : Few l) (d : Nat) : ∀ (i : Nat) (out : List Int), i + d = l.length → out.length = l.length →
    ∃ out' : List Int, Ev (fun k => spread_Wants.l0 k l own out l l.length i a b) out' ∧ out'.length = l.length ∧ ∀ j, j < l.length → out'.getD j 0 = if j < i then out.getD j 0 else want l a b own j := by
  have h20 := hf.1
  induction d with
  | zero =>
    intro i out hi ho
    refine ⟨out, Ev.step (fun k => by rw [spread_Wants.l0, if_neg (by omega)]) (Ev.now _), ho, fun j hj => ?_⟩
    rw [if_pos (by omega)]
  | succ d ih =>
    intro i out hi ho
    have hlt : i < l.length := by omega
    by_cases hop : (rd_T49 l i).f0 = true
    · obtain ⟨out', he, hl, hg⟩ := ih (i + 1) (out.set i (want l a b own i)) (by omega) (by simp [ho])
      refine ⟨out', ?_, hl, fun j hj => ?_⟩
      · refine Ev.step (fun k => by rw [spread_Wants.l0, if_pos (by omega), if_pos (by omega), if_pos (by omega), if_pos (by omega), Option.bind_some, if_pos hop]) ?_
        rw [Int.toNat_natCast, List.set_set]
        refine inner l a b own hf out' i hlt l.length 0 _ (by omega) (by simp [ho]) ?_
        intro o2 ho2
        rw [List.drop_zero, List.set_set, List.getD_eq_getElem?_getD, List.getElem?_set_self (by omega), Option.getD_some] at ho2
        rw [ho2]
        have : want l a b own i = latest a b i 0 l (mx own (-1)) := by unfold want; rw [if_pos hop]
        rw [← this]
        exact he
      · rw [hg j hj]
        by_cases h1 : j < i
        · rw [if_pos (by omega), if_pos h1, List.getD_eq_getElem?_getD, List.getElem?_set_ne (by omega), ← List.getD_eq_getElem?_getD]
        · by_cases h2 : j = i
          · subst h2
            rw [if_pos (by omega), if_neg (by omega), List.getD_eq_getElem?_getD, List.getElem?_set_self (by omega), Option.getD_some]
          · rw [if_neg (by omega), if_neg h1]
    · obtain ⟨out', he, hl, hg⟩ := ih (i + 1) (out.set i (-1)) (by omega) (by simp [ho])
      refine ⟨out', ?_, hl, fun j hj => ?_⟩
      · refine Ev.step (fun k => by rw [spread_Wants.l0, if_pos (by omega), if_pos (by omega), if_pos (by omega), if_pos (by omega), Option.bind_some, if_neg hop, wrap_up (n := l.length) (by omega) (by omega) (by omega), Int.toNat_natCast]) ?_
        exact he
      · have hw : want l a b own i = -1 := by unfold want; rw [if_neg hop]
        rw [hg j hj]
        by_cases h1 : j < i
        · rw [if_pos (by omega), if_pos h1, List.getD_eq_getElem?_getD, List.getElem?_set_ne (by omega), ← List.getD_eq_getElem?_getD]
        · by_cases h2 : j = i
          · subst h2
            rw [if_pos (by omega), if_neg (by omega), List.getD_eq_getElem?_getD, List.getElem?_set_self (by omega), Option.getD_some, hw]
          · rw [if_neg (by omega), if_neg h1]

/-- What Wants answers. -/
def wants (l : List S49) (a b own : Int) : List Int := (List.range l.length).map (want l a b own)

theorem wants_prog (l : List S49) (a b own : Int) (hf : Few l) : Ev (fun k => spread_Wants.f k l a b own) (wants l a b own) := by
  have h20 := hf.1
  obtain ⟨out', he, hl, hg⟩ := outer l a b own hf l.length 0 (List.replicate l.length 0) (by omega) (by simp)
  have hw : out' = wants l a b own := by
    apply List.ext_getElem?
    intro j
    unfold wants
    by_cases hj : j < l.length
    · have h1 := hg j hj
      rw [if_neg (by omega), List.getD_eq_getElem?_getD, List.getElem?_eq_getElem (by omega), Option.getD_some] at h1
      rw [List.getElem?_eq_getElem (by omega), h1]
      simp [hj]
    · rw [List.getElem?_eq_none (by omega), List.getElem?_eq_none (by simp; omega)]
  rw [← hw]
  unfold spread_Wants.f
  refine Ev.congr (fun k => by rw [if_pos (by omega), if_pos (by omega), Int.toNat_natCast]; rfl) he

/-- The document's view of a port. -/
def conv (v : S49) : S47 := ⟨v.f0, v.f1, v.f2⟩

theorem rd47 {l : List S49} {i : Nat} (h : i < l.length) : rd_T47 (l.map conv) i = conv l[i] := by
  unfold rd_T47
  rw [Int.toNat_natCast, List.getD_eq_getElem?_getD, List.getElem?_map, List.getElem?_eq_getElem h]; rfl

theorem ref_loop (l : List S49) (a b : Int) (hf : Few l) (i : Nat) (d : Nat) : ∀ (j : Nat) (best : Int), j + d = l.length →
    Ev (fun k => kissgateref17_Want.l0 k i best (l.map conv) l.length j a b) (latest a b i j (l.drop j) best) := by
  have h20 := hf.1
  induction d with
  | zero =>
    intro j best hj
    rw [List.drop_of_length_le (by omega)]
    exact Ev.step (fun k => by rw [kissgateref17_Want.l0, if_neg (by omega)]) (Ev.now best)
  | succ d ih =>
    intro j best hj
    have hlt : j < l.length := by omega
    have hlm : (l.map conv).length = l.length := List.length_map _
    rw [List.drop_eq_getElem_cons hlt]
    simp only [latest]
    by_cases he : j = i
    · rw [if_pos he]
      refine Ev.step (fun k => by rw [kissgateref17_Want.l0, if_pos (by omega), if_pos (by omega), if_pos (by omega), if_pos (by omega), wrap_up (n := l.length) (by omega) (by omega) (by omega)]) ?_
      exact ih (j + 1) best (by omega)
    · rw [if_neg he]
      refine Ev.step (fun k => by rw [kissgateref17_Want.l0, if_pos (by omega), if_pos (by omega), if_pos (by omega), if_neg (by omega), wrap_up (n := l.length) (by omega) (by omega) (by omega), rd47 hlt]) ?_
      have hb : l[j].f1.length ≤ 9223372036854775000 := by have := (hf.2 l[j] (List.getElem_mem hlt)).1; omega
      refine Ev.bind (born_ref _ _ _ a b hb) ?_
      show Ev _ (latest a b i (j + 1) (l.drop (j + 1)) (mx best (born l[j].f0 l[j].f1 l[j].f2 a b)))
      have hc : born (conv l[j]).f0 (conv l[j]).f1 (conv l[j]).f2 a b = born l[j].f0 l[j].f1 l[j].f2 a b := rfl
      by_cases hg : born l[j].f0 l[j].f1 l[j].f2 a b > best
      · have hm : mx best (born l[j].f0 l[j].f1 l[j].f2 a b) = born l[j].f0 l[j].f1 l[j].f2 a b := by unfold mx; rw [if_pos hg]
        rw [hm]
        refine Ev.congr (fun k => by rw [hc, if_pos hg]) ?_
        exact Ev.bind (born_ref _ _ _ a b hb) (ih (j + 1) _ (by omega))
      · have hm : mx best (born l[j].f0 l[j].f1 l[j].f2 a b) = best := by unfold mx; rw [if_neg hg]
        rw [hm]
        exact Ev.congr (fun k => by rw [hc, if_neg hg]; rfl) (ih (j + 1) _ (by omega))

theorem want_ref (l : List S49) (a b own : Int) (hf : Few l) (i : Nat) (hi : i < l.length) : Ev (fun k => kissgateref17_Want.f k (l.map conv) a b own i) (want l a b own i) := by
  have hlm : (l.map conv).length = l.length := List.length_map _
  unfold kissgateref17_Want.f want
  rw [rd47 hi, rd49 hi]
  by_cases hop : l[i].f0 = true
  · rw [if_pos hop]
    refine Ev.congr (fun k => by rw [if_pos (by omega), if_pos (by omega), if_pos (by exact hop), hlm]) ?_
    have := ref_loop l a b hf i l.length 0 (mx own (-1)) (by omega)
    rw [List.drop_zero] at this
    exact this
  · rw [if_neg hop]
    exact Ev.congr (fun k => by rw [if_pos (by omega), if_pos (by omega), if_neg (by exact hop)]) (Ev.now _)

theorem plain_loop (l : List S49) (hl : l.length * 56 ≤ 140737488351232) (d : Nat) : ∀ (i : Nat), i + d = l.length →
    (∃ r, Ev (fun k => kissgatelaw17_plain.l0 k l ((l.take i).map conv) l l.length i) (r, false)) ∨
    (Ev (fun k => kissgatelaw17_plain.l0 k l ((l.take i).map conv) l l.length i) (l.map conv, decide ((l.length : Int) ≤ 20)) ∧ ∀ v ∈ l.drop i, v.f1.length ≤ 40 ∧ v.f2.length ≤ 100) := by
  induction d with
  | zero =>
    intro i hi
    refine .inr ⟨?_, by rw [List.drop_of_length_le (by omega)]; simp⟩
    rw [List.take_of_length_le (by omega)]
    exact Ev.step (fun k => by rw [kissgatelaw17_plain.l0, if_neg (by omega)]) (Ev.now _)
  | succ d ih =>
    intro i hi
    have hlt : i < l.length := by omega
    by_cases h1 : (l[i].f1.length : Int) > 40
    · exact .inl ⟨_, Ev.step (fun k => by rw [kissgatelaw17_plain.l0, if_pos (by omega), if_pos (by omega), if_pos (by omega), rd49 hlt, if_pos h1]) (Ev.now _)⟩
    · by_cases h2 : (l[i].f2.length : Int) > 100
      · exact .inl ⟨_, Ev.step (fun k => by rw [kissgatelaw17_plain.l0, if_pos (by omega), if_pos (by omega), if_pos (by omega), rd49 hlt, if_neg h1, if_pos h2]) (Ev.now _)⟩
      · have hstep : ∀ k, kissgatelaw17_plain.l0 (k + 1) l ((l.take i).map conv) l l.length i = kissgatelaw17_plain.l0 k l ((l.take (i + 1)).map conv) l l.length ((i + 1 : Nat) : Int) := by
          intro k
          rw [kissgatelaw17_plain.l0, if_pos (by omega), if_pos (by omega), if_pos (by omega), rd49 hlt, if_neg h1, if_neg h2, if_pos (by simp; omega), wrap_up (n := l.length) (by omega) (by omega) (by omega), List.take_succ_eq_append_getElem hlt, List.map_append]
          rfl
        rcases ih (i + 1) (by omega) with ⟨r, hr⟩ | ⟨hr, hv⟩
        · exact .inl ⟨r, Ev.step hstep hr⟩
        · refine .inr ⟨Ev.step hstep hr, ?_⟩
          rw [List.drop_eq_getElem_cons hlt]
          intro v hv'
          rcases List.mem_cons.1 hv' with rfl | hv'
          · exact ⟨by omega, by omega⟩
          · exact hv v hv'

/-- plain: too much for what is played, or few. -/
theorem plain (l : List S49) (hl : l.length * 56 ≤ 140737488351232) : (∃ r, Ev (fun k => kissgatelaw17_plain.f k l) (r, false)) ∨ (Ev (fun k => kissgatelaw17_plain.f k l) (l.map conv, true) ∧ Few l) := by
  unfold kissgatelaw17_plain.f
  rcases plain_loop l hl l.length 0 (by omega) with ⟨r, h⟩ | ⟨h, hv⟩
  · exact .inl ⟨r, by simpa using h⟩
  · by_cases hn : l.length ≤ 20
    · refine .inr ⟨?_, hn, by simpa using hv⟩
      have : decide ((l.length : Int) ≤ 20) = true := decide_eq_true (by omega)
      rw [this] at h
      simpa using h
    · refine .inl ⟨l.map conv, ?_⟩
      have : decide ((l.length : Int) ≤ 20) = false := decide_eq_false (by omega)
      rw [this] at h
      simpa using h

theorem alive : Ev (fun k => kissgatelaw17_alive.f k) true := Ev.of kissgatelaw17_alive.mono (k := 60) (by decide +kernel)

end Go.Proofs.Ytbcngajkokjfjaa.Spr
