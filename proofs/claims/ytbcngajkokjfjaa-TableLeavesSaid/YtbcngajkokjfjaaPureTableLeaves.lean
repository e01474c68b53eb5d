/- The law TableLeaves holds of the printed functions: what the applicant says last is that it leaves. Its conditions: the numbers are of their kinds, the slices and texts of a size that can be read. -/
import Derived.Test.YtbcngajkokjfjaaStmTableLeaves
import Derived.Test.YtbcngajkokjfjaaRunTableLeaves
namespace Go.Proofs.Ytbcngajkokjfjaa.tableLeaves
open Go.RowKit Go.Proofs.YtbcngajkokjfjaaW.PrintWords Go.Proofs.YtbcngajkokjfjaaW.PrintLast Go.Proofs.YtbcngajkokjfjaaW.PrintMore Go.Proofs.Ytbcngajkokjfjaa.PTableLeaves Go.Proofs.Ytbcngajkokjfjaa.Leaves

def app : List (List S30) := [[⟨1, 0⟩, ⟨0, 0⟩, ⟨0, 0⟩, ⟨0, 0⟩, ⟨0, 0⟩, ⟨1, 0⟩], [⟨1, 0⟩, ⟨4, 0⟩, ⟨1, 0⟩, ⟨1, 0⟩, ⟨2, 1⟩, ⟨1, 0⟩], [⟨2, 0⟩, ⟨4, 0⟩, ⟨2, 0⟩, ⟨2, 0⟩, ⟨3, 2⟩, ⟨1, 0⟩], [⟨3, 0⟩, ⟨4, 0⟩, ⟨2, 0⟩, ⟨2, 0⟩, ⟨3, 0⟩, ⟨1, 0⟩], [⟨2, 0⟩, ⟨4, 0⟩, ⟨4, 0⟩, ⟨4, 0⟩, ⟨0, 3⟩, ⟨1, 0⟩]]
theorem app_eq : table_Applicant.f = some app := rfl

theorem alive : ∃ k, kissgatelaw13_alive.f k = some true := ⟨4, by decide +kernel⟩

/-- The applicant stays among its five states. -/
def five (s : Int) : Prop := s = 0 ∨ s = 1 ∨ s = 2 ∨ s = 3 ∨ s = 4

theorem five_cell {s e : Int} {c : S30} (hs : five s) (h : cellAt app s e = some c) : five c.f0 := by
  unfold cellAt at h
  split at h
  · rename_i hc
    obtain ⟨h1, h2, h3, h4⟩ := hc
    cases h
    have he : (rd_L2 app s).length = 6 := by rcases hs with rfl | rfl | rfl | rfl | rfl <;> rfl
    rw [he] at h4
    have he' : e = 0 ∨ e = 1 ∨ e = 2 ∨ e = 3 ∨ e = 4 ∨ e = 5 := by omega
    rcases hs with rfl | rfl | rfl | rfl | rfl <;> rcases he' with rfl | rfl | rfl | rfl | rfl | rfl <;> simp [five, app, rd_L2, rd_T30]
  · cases h

theorem five_end (l : List Int) : ∀ s, five s → five (endL app s l) := by
  induction l with
  | nil => intro s h; exact h
  | cons e r ih =>
    intro s h
    simp only [endL]
    cases hc : cellAt app s e with
    | none => exact ih s h
    | some c => exact ih c.f0 (five_cell h hc)

/-- What comes behind: told to leave, then something may be said, twice, told again, and once more. -/
theorem tail_five {s : Int} (h : five s) : ∃ c1 c2 c3 c4 c5, runL app s [1, 4, 4, 3, 4] = [c1, c2, c3, c4, c5] ∧ runL app s [1] = [c1] ∧ c5.f0 = 0 ∧ c5.f1 = 0 ∧ c3.f1 = 0 ∧ (c1.f0 = 0 ∨ c2.f1 = 3) := by
  rcases h with rfl | rfl | rfl | rfl | rfl
  · exact ⟨⟨0, 0⟩, ⟨0, 0⟩, ⟨0, 0⟩, ⟨0, 0⟩, ⟨0, 0⟩, rfl, rfl, rfl, rfl, rfl, .inl rfl⟩
  all_goals exact ⟨⟨4, 0⟩, ⟨0, 3⟩, ⟨0, 0⟩, ⟨0, 0⟩, ⟨0, 0⟩, rfl, rfl, rfl, rfl, rfl, .inr rfl⟩

theorem rd_last (pre : List S30) (c1 c2 c3 c4 c5 : S30) : rd_T30 (pre ++ [c1, c2, c3, c4, c5]) ((pre.length : Int) + 4) = c5 ∧ rd_T30 (pre ++ [c1, c2, c3, c4, c5]) ((pre.length : Int) + 2) = c3 ∧ rd_T30 (pre ++ [c1, c2, c3, c4, c5]) ((pre.length : Int) + 1) = c2 := by
  unfold rd_T30
  refine ⟨?_, ?_, ?_⟩ <;> simp only [List.getD_eq_getElem?_getD]
  · rw [show ((pre.length : Int) + 4).toNat = pre.length + 4 from by omega, List.getElem?_append_right (by omega)]; simp
  · rw [show ((pre.length : Int) + 2).toNat = pre.length + 2 from by omega, List.getElem?_append_right (by omega)]; simp
  · rw [show ((pre.length : Int) + 1).toNat = pre.length + 1 from by omega, List.getElem?_append_right (by omega)]; simp

/-- The loop's end. -/
theorem at_end (l : List Int) (hn : l.length ≤ 60) (cells : List S30) (said : Bool) (hs : said = true → (runL app (endL app 0 l) [1]).head?.map (·.f0) ≠ some 0) (k : Nat) (hk : 66 < k) :
    kissgatelaw13_TableLeaves.l0 k l said cells cells.length cells.length = some true := by
  obtain ⟨k, rfl⟩ : ∃ m, k = m + 1 := ⟨k - 1, by omega⟩
  rw [kissgatelaw13_TableLeaves.l0, if_neg (by omega), app_eq]
  simp only [Option.bind_some, List.nil_append, List.length_nil]
  rw [if_pos (by omega), if_pos (by simp; omega), run_f app _ (by simp; omega) 0 k (by simp; omega)]
  simp only [Option.bind_some]
  rw [runL_append]
  obtain ⟨c1, c2, c3, c4, c5, e5, e1, h50, h51, h31, h2⟩ := tail_five (five_end l 0 (.inl rfl))
  rw [e5]
  have hpl := runL_length app l 0
  generalize runL app 0 l = pre at *
  obtain ⟨r5, r3, r2⟩ := rd_last pre c1 c2 c3 c4 c5
  have hl : ((pre ++ [c1, c2, c3, c4, c5]).length : Int) = pre.length + 5 := by simp
  have w1 : wrap64 ((pre.length : Int) + 5 - 1) = pre.length + 4 := by unfold wrap64; omega
  have w3 : wrap64 ((pre.length : Int) + 5 - 3) = pre.length + 2 := by unfold wrap64; omega
  have w4 : wrap64 ((pre.length : Int) + 5 - 4) = pre.length + 1 := by unfold wrap64; omega
  rw [hl, w1, w3, w4, r5, r3, r2, h50, h51, h31]
  rw [if_pos (by omega), if_pos (by omega), if_pos rfl, if_pos rfl, if_pos (by omega), if_pos (by omega), if_pos rfl]
  cases said with
  | false => simp
  | true =>
    rw [if_pos rfl, if_pos (by omega), if_pos (by omega)]
    have := hs rfl
    rw [e1] at this
    rcases h2 with h2 | h2
    · exact absurd (by simp [h2]) this
    · simp [h2]

theorem said_loop (l : List Int) (hn : l.length ≤ 60) (cells : List S30) (hc : cells.length ≤ 61) (hlast : cells.getLast? = (runL app (endL app 0 l) [1]).head?) (d : Nat) : ∀ (k : Nat) (i : Int) (said : Bool), 0 ≤ i → i < cells.length → (cells.length : Int) - i = d → d + 70 < k →
    kissgatelaw13_TableLeaves.l0 k l said cells cells.length i = some true := by
  induction d with
  | zero => intro k i said h0 h1 hd; omega
  | succ d ih =>
    intro k i said h0 h1 hd hk
    obtain ⟨k, rfl⟩ : ∃ m, k = m + 1 := ⟨k - 1, by omega⟩
    have next : ∀ said' : Bool, (said' = true → (rd_T30 cells i).f0 ≠ 0) → kissgatelaw13_TableLeaves.l0 k l said' cells cells.length (i + 1) = some true := by
      intro said' hs'
      by_cases he : i + 1 = (cells.length : Int)
      · rw [he]
        refine at_end l hn cells said' (fun h => ?_) k (by omega)
        rw [← hlast, List.getLast?_eq_getElem?]
        have hi : cells.length - 1 = i.toNat := by omega
        rw [hi]
        intro hq
        refine hs' h ?_
        unfold rd_T30
        rw [List.getD_eq_getElem?_getD]
        cases hx : cells[i.toNat]? with
        | none => rw [hx] at hq; simp at hq
        | some c => rw [hx] at hq; simpa using hq
      · exact ih k (i + 1) said' (by omega) (by omega) (by omega) (by omega)
    rw [kissgatelaw13_TableLeaves.l0, if_pos h1, if_pos h0, if_pos h1, wrap_up h0 h1 (by omega)]
    have a := next false (by simp)
    have b := next ((rd_T30 cells i).f0 != 0) (by simp)
    rw [a, b]
    simp

theorem pure : Pure := by
  intro l _
  obtain ⟨ka, ha⟩ := alive
  by_cases hn : l.length ≤ 60
  · refine ⟨ka + 140, ?_⟩
    have ha' : kissgatelaw13_alive.f (ka + 140) = some true := at_rounds kissgatelaw13_alive.mono (by omega) ha
    unfold kissgatelaw13_TableLeaves.f
    rw [ha']
    simp only [Option.bind_some, if_true, List.nil_append, List.length_nil]
    rw [if_neg (by omega), app_eq]
    simp only [Option.bind_some]
    rw [if_pos (by omega), if_pos (by omega), run_f app _ (by simp; omega) 0 _ (by simp; omega)]
    simp only [Option.bind_some]
    rw [runL_append]
    obtain ⟨c1, c2, c3, c4, c5, e5, e1, _⟩ := tail_five (five_end l 0 (.inl rfl))
    have hpl := runL_length app l 0
    rw [e1]
    refine said_loop l hn _ (by simp; omega) (by rw [e1]; simp) _ _ 0 false (by omega) (by simp) (Int.sub_zero _) (by simp; omega)
  · refine ⟨ka, ?_⟩
    unfold kissgatelaw13_TableLeaves.f
    rw [ha]
    simp only [Option.bind_some, if_true]
    rw [if_pos (by omega)]

end Go.Proofs.Ytbcngajkokjfjaa.tableLeaves
