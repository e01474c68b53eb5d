/- The law TableEnds holds of the printed functions: of the registrar, behind RJoin it is IN, behind RFlush MT, and it enters and goes by turns. Its conditions: the row's own (a list of whole numbers that can be read). -/
import Derived.Test.YtbcngajkokjfjaaPTableEndsx2
namespace Go.Proofs.Ytbcngajkokjfjaa.Ends
open Go.RowKit Go.Proofs.Ytbcngajkokjfjaa.PTableEnds Go.Proofs.YtbcngajkokjfjaaW.PrintWords Go.Proofs.YtbcngajkokjfjaaW.PrintLast

theorem ends_wrap {i : Int} {n : Nat} (h0 : 0 ≤ i) (h : i < (n : Int)) (hn : n ≤ 60) : wrap64 (i + 1) = i + 1 := by
  unfold wrap64
  omega

def endsReg : List (List S30) := [[⟨2, 3⟩, ⟨0, 0⟩, ⟨0, 0⟩, ⟨0, 0⟩, ⟨0, 0⟩], [⟨2, 2⟩, ⟨1, 0⟩, ⟨1, 0⟩, ⟨0, 4⟩, ⟨0, 4⟩], [⟨2, 0⟩, ⟨1, 1⟩, ⟨1, 1⟩, ⟨2, 0⟩, ⟨0, 4⟩]]
theorem ends_reg : table_Registrar.f = some endsReg := rfl

theorem ends_out {st e : Int} (hs : st = 0 ∨ st = 1 ∨ st = 2) (he : e < 0 ∨ 5 ≤ e) : table_At.f endsReg st e = some (st, 0, false) := by
  rcases hs with rfl | rfl | rfl <;> rcases he with he | he <;> simp [table_At.f, endsReg, rd_L2, he] <;> omega

theorem ends_alive : ∃ k, kissgatelaw13_alive.f k = some true := ⟨4, by decide +kernel⟩

theorem ends_loop (l : List Int) (hn : l.length ≤ 60) (d : Nat) : ∀ (k : Nat) (i st : Int), 0 ≤ i → i ≤ l.length → (l.length : Int) - i = d → 2 * d < k → (st = 0 ∨ st = 1 ∨ st = 2) →
    kissgatelaw13_TableEnds.l0 k (st != 0) st l l.length i = some true := by
  induction d with
  | zero =>
    intro k i st h0 h1 hd hk hs
    obtain ⟨k, rfl⟩ : ∃ m, k = m + 1 := ⟨k - 1, by omega⟩
    simp only [kissgatelaw13_TableEnds.l0]
    rw [if_neg (by omega)]
  | succ d ih =>
    intro k i st h0 h1 hd hk hs
    obtain ⟨k, rfl⟩ : ∃ m, k = m + 1 := ⟨k - 1, by omega⟩
    obtain ⟨k, rfl⟩ : ∃ m, k = m + 1 := ⟨k - 1, by omega⟩
    have hlt : i < (l.length : Int) := by omega
    have hw := ends_wrap h0 hlt hn
    have ih2 : ∀ st' : Int, (st' = 0 ∨ st' = 1 ∨ st' = 2) → ∀ k', 2 * d < k' → kissgatelaw13_TableEnds.l0 k' (st' != 0) st' l l.length (i + 1) = some true :=
      fun st' h' k' hk' => ih k' (i + 1) st' (by omega) (by omega) (by omega) hk' h'
    have i0 : ∀ k', 2 * d < k' → kissgatelaw13_TableEnds.l0 k' false 0 l l.length (i + 1) = some true := fun k' hk' => ih2 0 (.inl rfl) k' hk'
    have i1 : ∀ k', 2 * d < k' → kissgatelaw13_TableEnds.l0 k' true 1 l l.length (i + 1) = some true := fun k' hk' => ih2 1 (.inr (.inl rfl)) k' hk'
    have i2 : ∀ k', 2 * d < k' → kissgatelaw13_TableEnds.l0 k' true 2 l l.length (i + 1) = some true := fun k' hk' => ih2 2 (.inr (.inr rfl)) k' hk'
    rw [kissgatelaw13_TableEnds.l0]
    rw [if_pos hlt, if_pos h0, if_pos hlt, ends_reg, hw]
    simp only [Option.bind_some]
    generalize rd l i = e
    by_cases he : e < 0 ∨ 5 ≤ e
    · rw [ends_out hs he]
      simp only [Option.bind_some]
      rw [if_neg (by decide)]
      exact ih2 st hs _ (by omega)
    · have he' : e = 0 ∨ e = 1 ∨ e = 2 ∨ e = 3 ∨ e = 4 := by omega
      rcases hs with rfl | rfl | rfl <;> rcases he' with rfl | rfl | rfl | rfl | rfl <;>
        simp [table_At.f, endsReg, rd_L2, rd_T30, kissgatelaw13_TableEnds.j1, hw] <;>
        first | exact i0 _ (by omega) | exact i1 _ (by omega) | exact i2 _ (by omega)

theorem TableEnds : kissgatelaw13_TableEnds.Pure := by
  intro l hm hb hw
  obtain ⟨ka, ha⟩ := ends_alive
  by_cases hn : l.length ≤ 60
  · refine ⟨ka + (2 * l.length + 1), ?_⟩
    have ha' : kissgatelaw13_alive.f (ka + (2 * l.length + 1)) = some true := at_rounds kissgatelaw13_alive.mono (by omega) ha
    unfold kissgatelaw13_TableEnds.f
    rw [ha']
    simp only [Option.bind_some, if_true]
    rw [if_neg (by omega)]
    exact ends_loop l hn l.length _ 0 0 (by omega) (by omega) (by omega) (by omega) (.inl rfl)
  · refine ⟨ka, ?_⟩
    unfold kissgatelaw13_TableEnds.f
    rw [ha]
    simp only [Option.bind_some, if_true]
    rw [if_pos (by omega)]

end Go.Proofs.Ytbcngajkokjfjaa.Ends
