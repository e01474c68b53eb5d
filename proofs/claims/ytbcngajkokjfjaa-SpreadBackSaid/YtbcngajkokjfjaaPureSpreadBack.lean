/- The law SpreadBack holds of the printed functions: what is registered at one port alone isn't said there. Its conditions: the numbers are of their kinds, the slices and texts of a size that can be read. -/
import Derived.Test.YtbcngajkokjfjaaStmSpreadBack
import Derived.Test.YtbcngajkokjfjaaSprLem
namespace Go.Proofs.Ytbcngajkokjfjaa.spreadBack
open Go.RowKit Go.Proofs.YtbcngajkokjfjaaW.PrintWords Go.Proofs.YtbcngajkokjfjaaW.PrintLast Go.Proofs.YtbcngajkokjfjaaW.PrintMore Go.Proofs.Ytbcngajkokjfjaa.QSpr Go.Proofs.Ytbcngajkokjfjaa.Spr

theorem wants_len (l : List S49) (a b own : Int) : (wants l a b own).length = l.length := by simp [wants]

theorem wants_get (l : List S49) (a b own : Int) (i : Nat) (hi : i < l.length) : rd (wants l a b own) i = want l a b own i := by
  unfold rd wants
  rw [Int.toNat_natCast, List.getD_eq_getElem?_getD]
  simp [hi]

/-- It is registered at a port. -/
def At (l : List S49) (a b : Int) (t : Nat) : Prop := ∃ v, l[t]? = some v ∧ 0 ≤ born v.f0 v.f1 v.f2 a b

/-- What is counted of the first ports. -/
def Inv (l : List S49) (a b : Int) (j : Nat) (n at_ : Int) : Prop :=
  n ≤ j ∧ ((n = 0 ∧ ∀ t, t < j → ¬ At l a b t) ∨ (n = 1 ∧ ∃ s : Nat, s < j ∧ at_ = s ∧ At l a b s ∧ ∀ t, t < j → At l a b t → t = s) ∨ (2 ≤ n ∧ ∃ s t : Nat, s < t ∧ t < j ∧ At l a b s ∧ At l a b t))

theorem inv_yes {l : List S49} {a b : Int} {j : Nat} {n at_ : Int} (h : Inv l a b j n at_) (hj : At l a b j) : Inv l a b (j + 1) (n + 1) j := by
  obtain ⟨hn, h | h | h⟩ := h
  · refine ⟨by omega, .inr (.inl ⟨by omega, j, by omega, rfl, hj, fun t ht hat => ?_⟩)⟩
    apply Classical.byContradiction
    intro hne
    exact h.2 t (by omega) hat
  · obtain ⟨h1, s, hs, _, hat, _⟩ := h
    exact ⟨by omega, .inr (.inr ⟨by omega, s, j, hs, by omega, hat, hj⟩)⟩
  · obtain ⟨h1, s, t, hst, ht, hs, htt⟩ := h
    exact ⟨by omega, .inr (.inr ⟨by omega, s, t, hst, by omega, hs, htt⟩)⟩

theorem inv_no {l : List S49} {a b : Int} {j : Nat} {n at_ : Int} (h : Inv l a b j n at_) (hj : ¬ At l a b j) : Inv l a b (j + 1) n at_ := by
  have key : ∀ t, t < j + 1 → At l a b t → t < j := by
    intro t ht hat
    apply Classical.byContradiction
    intro hne
    have : t = j := by omega
    exact hj (this ▸ hat)
  obtain ⟨hn, h | h | h⟩ := h
  · exact ⟨by omega, .inl ⟨h.1, fun t ht hat => h.2 t (key t ht hat) hat⟩⟩
  · obtain ⟨h1, s, hs, he, hat, hu⟩ := h
    exact ⟨by omega, .inr (.inl ⟨h1, s, by omega, he, hat, fun t ht hat => hu t (key t ht hat) hat⟩)⟩
  · obtain ⟨h1, s, t, hst, ht, hs, htt⟩ := h
    exact ⟨by omega, .inr (.inr ⟨h1, s, t, hst, by omega, hs, htt⟩)⟩

theorem mx_pos (x y : Int) : 0 ≤ mx x y ↔ 0 ≤ x ∨ 0 ≤ y := by unfold mx; split <;> omega

theorem latest_pos (a b : Int) (i : Nat) (vs : List S49) : ∀ (j : Nat) (acc : Int), 0 ≤ latest a b i j vs acc ↔ 0 ≤ acc ∨ ∃ t v, vs[t]? = some v ∧ j + t ≠ i ∧ 0 ≤ born v.f0 v.f1 v.f2 a b := by
  induction vs with
  | nil => intro j acc; simp [latest]
  | cons v vs ih =>
    intro j acc
    simp only [latest]
    rw [ih]
    have hsplit : (∃ t u, (v :: vs)[t]? = some u ∧ j + t ≠ i ∧ 0 ≤ born u.f0 u.f1 u.f2 a b) ↔ (j ≠ i ∧ 0 ≤ born v.f0 v.f1 v.f2 a b) ∨ ∃ t u, vs[t]? = some u ∧ j + 1 + t ≠ i ∧ 0 ≤ born u.f0 u.f1 u.f2 a b := by
      constructor
      · rintro ⟨t, u, ht, hne, hb⟩
        cases t with
        | zero => simp only [List.getElem?_cons_zero, Option.some.injEq] at ht; subst ht; exact .inl ⟨by omega, hb⟩
        | succ t => simp only [List.getElem?_cons_succ] at ht; exact .inr ⟨t, u, ht, by omega, hb⟩
      · rintro (⟨hne, hb⟩ | ⟨t, u, ht, hne, hb⟩)
        · exact ⟨0, v, rfl, by omega, hb⟩
        · exact ⟨t + 1, u, by simpa using ht, by omega, hb⟩
    rw [hsplit]
    by_cases hj : j = i
    · rw [if_pos hj]
      constructor
      · rintro (h | h)
        · exact .inl h
        · exact .inr (.inr h)
      · rintro (h | ⟨h, _⟩ | h)
        · exact .inl h
        · exact absurd hj h
        · exact .inr h
    · rw [if_neg hj, mx_pos]
      constructor
      · rintro ((h | h) | h)
        · exact .inl h
        · exact .inr (.inl ⟨hj, h⟩)
        · exact .inr (.inr h)
      · rintro (h | ⟨_, h⟩ | h)
        · exact .inl (.inl h)
        · exact .inl (.inr h)
        · exact .inr h

theorem want_pos (l : List S49) (a b own : Int) (i : Nat) (h : (rd_T49 l i).f0 = true) : 0 ≤ want l a b own i ↔ 0 ≤ own ∨ ∃ t, t ≠ i ∧ At l a b t := by
  unfold want
  rw [if_pos h, latest_pos, mx_pos]
  constructor
  · rintro ((h | h) | ⟨t, v, ht, hne, hb⟩)
    · exact .inl h
    · omega
    · exact .inr ⟨t, by omega, v, ht, hb⟩
  · rintro (h | ⟨t, hne, v, ht, hb⟩)
    · exact .inl (.inl h)
    · exact .inr ⟨t, v, ht, by omega, hb⟩

theorem want_neg (l : List S49) (a b own : Int) (i : Nat) (h : ¬ (rd_T49 l i).f0 = true) : want l a b own i = -1 := by unfold want; rw [if_neg h]

theorem at_lt {l : List S49} {a b : Int} {t : Nat} (h : At l a b t) : t < l.length := by
  obtain ⟨v, hv, _⟩ := h
  exact (List.getElem?_eq_some_iff.1 hv).1

theorem others {l : List S49} {a b n at_ : Int} (h : Inv l a b l.length n at_) (i : Nat) : (∃ t, t ≠ i ∧ At l a b t) ↔ (2 ≤ n ∨ n = 1 ∧ (i : Int) ≠ at_) := by
  obtain ⟨hn, ⟨h0, h⟩ | ⟨h1, s, hs, he, hat, hu⟩ | ⟨h2, s, t, hst, ht, hs, htt⟩⟩ := h
  · constructor
    · rintro ⟨t, _, hat⟩
      exact absurd hat (h t (at_lt hat))
    · intro hh; omega
  · constructor
    · rintro ⟨t, hne, hat'⟩
      have := hu t (at_lt hat') hat'
      exact .inr ⟨h1, by omega⟩
    · rintro (hh | ⟨_, hh⟩)
      · omega
      · exact ⟨s, by omega, hat⟩
  · constructor
    · intro _; exact .inl h2
    · intro _
      by_cases hi : s = i
      · exact ⟨t, by omega, htt⟩
      · exact ⟨s, hi, hs⟩

theorem loop1 (l : List S49) (a b own n at_ : Int) (hf : Few l) (hI : Inv l a b l.length n at_) (d : Nat) : ∀ i : Nat, i + d = l.length → Ev (fun k => kissgatelaw17_SpreadBack.l1 k l own n at_ (wants l a b own) l.length i) true := by
  have h20 := hf.1
  have hw := wants_len l a b own
  induction d with
  | zero =>
    intro i hi
    exact Ev.step (fun k => by rw [kissgatelaw17_SpreadBack.l1, if_neg (by omega)]) (Ev.now _)
  | succ d ih =>
    intro i hi
    have hlt : i < l.length := by omega
    have ih' := ih (i + 1) (by omega)
    have hs : ∀ k, kissgatelaw17_SpreadBack.l1 (k + 1) l own n at_ (wants l a b own) l.length i = kissgatelaw17_SpreadBack.l1 k l own n at_ (wants l a b own) l.length ((i + 1 : Nat) : Int) := by
      intro k
      rw [kissgatelaw17_SpreadBack.l1, if_pos (by omega), if_pos (by omega), if_pos (by omega), if_pos (by omega), wants_get l a b own i hlt, wrap_up (i := (i : Int)) (n := l.length) (by omega) (by omega) (by omega)]
      have ho := others hI i
      by_cases hop : (rd_T49 l i).f0 = true
      · have hp := want_pos l a b own i hop
        rw [if_pos hop]
        by_cases c1 : own ≥ 0
        · have : want l a b own i ≥ 0 := hp.2 (.inl c1)
          rw [if_pos c1, decide_eq_true this]; rfl
        · rw [if_neg c1]
          by_cases c2 : n ≥ 2
          · have : want l a b own i ≥ 0 := hp.2 (.inr (ho.2 (.inl c2)))
            rw [if_pos c2, decide_eq_true this]; rfl
          · rw [if_neg c2]
            by_cases c3 : n = 1
            · rw [if_pos c3]
              by_cases c4 : (i : Int) = at_
              · have : ¬ want l a b own i ≥ 0 := by
                  intro hc
                  rcases hp.1 hc with h | h
                  · exact c1 h
                  · have := ho.1 h; omega
                rw [decide_eq_false this, show ((i : Int) != at_) = false from by simpa using c4]; rfl
              · have : want l a b own i ≥ 0 := hp.2 (.inr (ho.2 (.inr ⟨c3, c4⟩)))
                rw [decide_eq_true this]
                have : ((i : Int) != at_) = true := by simpa using c4
                rw [this]; rfl
            · rw [if_neg c3]
              have : ¬ want l a b own i ≥ 0 := by
                intro hc
                rcases hp.1 hc with h | h
                · exact c1 h
                · have := ho.1 h; omega
              rw [decide_eq_false this]; rfl
      · rw [if_neg hop, want_neg l a b own i hop]; rfl
    exact Ev.step hs ih'

theorem loop0 (l : List S49) (a b own : Int) (hf : Few l) (d : Nat) : ∀ (i : Nat) (n at_ : Int), i + d = l.length → Inv l a b i n at_ → 0 ≤ n →
    Ev (fun k => kissgatelaw17_SpreadBack.l0 k l own n at_ (l.map conv) l.length i a b) true := by
  have h20 := hf.1
  induction d with
  | zero =>
    intro i n at_ hi hI _
    have hil : i = l.length := by omega
    subst hil
    refine Ev.step (fun k => by rw [kissgatelaw17_SpreadBack.l0, if_neg (by omega)]) ?_
    refine Ev.bind (wants_prog l a b own hf) ?_
    rw [wants_len]
    exact loop1 l a b own n at_ hf hI l.length 0 (by omega)
  | succ d ih =>
    intro i n at_ hi hI h0
    have hlt : i < l.length := by omega
    have hlm : (l.map conv).length = l.length := List.length_map _
    have hn := hI.1
    refine Ev.step (fun k => by rw [kissgatelaw17_SpreadBack.l0, if_pos (by omega), if_pos (by omega), if_pos (by omega), rd47 hlt, show wrap64 (n + 1) = n + 1 from by unfold wrap64; omega, show wrap64 ((i : Int) + 1) = i + 1 from by unfold wrap64; omega]) ?_
    refine Ev.bind (born_ref _ _ _ a b (by have := (hf.2 l[i] (List.getElem_mem hlt)).1; show l[i].f1.length ≤ _; omega)) ?_
    by_cases hb : born l[i].f0 l[i].f1 l[i].f2 a b ≥ 0
    · refine Ev.congr (fun k => by rw [if_pos (by exact hb)]) ?_
      exact ih (i + 1) (n + 1) i (by omega) (inv_yes hI ⟨l[i], List.getElem?_eq_getElem hlt, hb⟩) (by omega)
    · refine Ev.congr (fun k => by rw [if_neg (by exact hb)]) ?_
      refine ih (i + 1) n at_ (by omega) (inv_no hI ?_) h0
      rintro ⟨v, hv, hb'⟩
      rw [List.getElem?_eq_getElem hlt] at hv
      cases hv
      exact hb hb'

theorem pure : Pure := by
  intro l x own hl hx ho
  obtain ⟨hm, hb, hg⟩ := hl
  refine Ev.rounds ?_
  unfold kissgatelaw17_SpreadBack.f
  refine Ev.bind alive ?_
  simp only [if_true]
  rcases plain l hb with ⟨r, h⟩ | ⟨h, hf⟩
  · refine Ev.bind h ?_
    simp only [Bool.false_eq_true, if_false]
    exact Ev.now _
  · refine Ev.bind h ?_
    simp only [if_true]
    have hlm : (l.map conv).length = l.length := List.length_map _
    rw [hlm]
    exact loop0 l x.f0 x.f1 own hf l.length 0 0 (-1) (by omega) ⟨by omega, .inl ⟨rfl, fun t ht => by omega⟩⟩ (by omega)

end Go.Proofs.Ytbcngajkokjfjaa.spreadBack
