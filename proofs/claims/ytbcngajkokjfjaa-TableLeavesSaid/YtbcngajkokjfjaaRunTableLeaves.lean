/- What Run answers, as a plain list function: the cells by which a machine comes, event by event. Its condition: at most 100 events. -/
import Derived.Test.YtbcngajkokjfjaaPTableLeavesx1
namespace Go.Proofs.Ytbcngajkokjfjaa.Leaves
open Go.RowKit Go.Proofs.Ytbcngajkokjfjaa.PTableLeaves Go.Proofs.YtbcngajkokjfjaaW.PrintWords Go.Proofs.YtbcngajkokjfjaaW.PrintLast

theorem wrap_up {i : Int} {n : Nat} (h0 : 0 ≤ i) (h : i < (n : Int)) (hn : n ≤ 100) : wrap64 (i + 1) = i + 1 := by
  unfold wrap64
  omega

/-- The cell of a state and an event, if there is one. -/
def cellAt (t : List (List S30)) (st e : Int) : Option S30 :=
  if 0 ≤ st ∧ st < t.length ∧ 0 ≤ e ∧ e < (rd_L2 t st).length then some (rd_T30 (rd_L2 t st) e) else none

theorem at_some {t : List (List S30)} {st e : Int} {c : S30} (h : cellAt t st e = some c) : table_At.f t st e = some (c.f0, c.f1, true) := by
  unfold cellAt at h
  split at h
  · rename_i hc
    obtain ⟨h1, h2, h3, h4⟩ := hc
    cases h
    unfold table_At.f
    rw [if_neg (by omega), if_neg (by omega), if_neg (by omega), if_pos h1, if_pos h2, if_neg (by omega), if_pos h3, if_pos h4]
  · cases h

theorem at_none {t : List (List S30)} {st e : Int} (h : cellAt t st e = none) : table_At.f t st e = some (st, 0, false) := by
  unfold cellAt at h
  split at h
  · cases h
  · rename_i hc
    unfold table_At.f
    by_cases a : st < 0
    · rw [if_pos a]
    · rw [if_neg a]
      by_cases b : st ≥ (t.length : Int)
      · rw [if_pos b]
      · rw [if_neg b]
        by_cases c : e < 0
        · rw [if_pos c]
        · rw [if_neg c, if_pos (by omega), if_pos (by omega)]
          rw [if_pos (by
            apply Classical.byContradiction
            intro d
            exact hc ⟨by omega, by omega, by omega, by omega⟩)]

/-- The cells by which a machine comes. -/
def runL (t : List (List S30)) (st : Int) : List Int → List S30
  | [] => []
  | e :: r => match cellAt t st e with
    | some c => c :: runL t c.f0 r
    | none => runL t st r

/-- The state behind. -/
def endL (t : List (List S30)) (st : Int) : List Int → Int
  | [] => st
  | e :: r => match cellAt t st e with
    | some c => endL t c.f0 r
    | none => endL t st r

theorem runL_append (t : List (List S30)) (l m : List Int) : ∀ st, runL t st (l ++ m) = runL t st l ++ runL t (endL t st l) m := by
  induction l with
  | nil => intro st; rfl
  | cons e r ih =>
    intro st
    simp only [List.cons_append, runL, endL]
    cases cellAt t st e with
    | none => exact ih st
    | some c => simp only [List.cons_append]; rw [ih]

theorem runL_length (t : List (List S30)) (l : List Int) : ∀ st, (runL t st l).length ≤ l.length := by
  induction l with
  | nil => intro st; exact Nat.le_refl _
  | cons e r ih =>
    intro st
    simp only [runL]
    cases cellAt t st e with
    | none => have := ih st; simp only [List.length_cons]; omega
    | some c => have := ih c.f0; simp only [List.length_cons]; omega

theorem run_loop (t : List (List S30)) (l : List Int) (hn : l.length ≤ 100) (d : Nat) : ∀ (k : Nat) (i st : Int) (out : List S30), 0 ≤ i → i ≤ l.length → (l.length : Int) - i = d → d < k → (out.length : Int) ≤ i →
    table_Run.l0 k t st out l l.length i = some (out ++ runL t st (l.drop i.toNat)) := by
  induction d with
  | zero =>
    intro k i st out h0 h1 hd hk ho
    obtain ⟨k, rfl⟩ : ∃ m, k = m + 1 := ⟨k - 1, by omega⟩
    rw [table_Run.l0, if_neg (by omega), List.drop_of_length_le (by omega)]
    simp [runL]
  | succ d ih =>
    intro k i st out h0 h1 hd hk ho
    obtain ⟨k, rfl⟩ : ∃ m, k = m + 1 := ⟨k - 1, by omega⟩
    have hlt : i < (l.length : Int) := by omega
    have hlt' : i.toNat < l.length := by omega
    have hrd : rd l i = l[i.toNat] := by unfold rd; rw [List.getD_eq_getElem?_getD, List.getElem?_eq_getElem hlt']; rfl
    rw [table_Run.l0, if_pos hlt, if_pos h0, if_pos hlt, wrap_up h0 hlt hn, List.drop_eq_getElem_cons hlt', ← hrd, show i.toNat + 1 = (i + 1).toNat from by omega]
    simp only [runL]
    cases hc : cellAt t st (rd l i) with
    | none =>
      rw [at_none hc]
      simp only [Option.bind_some]
      rw [if_neg (by decide)]
      exact ih k (i + 1) st out (by omega) (by omega) (by omega) (by omega) (by omega)
    | some c =>
      rw [at_some hc]
      simp only [Option.bind_some, if_true]
      rw [if_pos (by omega), ih k (i + 1) c.f0 (out ++ [(⟨c.f0, c.f1⟩ : S30)]) (by omega) (by omega) (by omega) (by omega) (by simp; omega)]
      simp

theorem run_f (t : List (List S30)) (l : List Int) (hn : l.length ≤ 100) (st : Int) (k : Nat) (hk : l.length < k) : table_Run.f k t st l = some (runL t st l) := by
  unfold table_Run.f
  rw [run_loop t l hn l.length k 0 st [] (by omega) (by omega) (by omega) hk (by simp)]
  simp
end Go.Proofs.Ytbcngajkokjfjaa.Leaves
