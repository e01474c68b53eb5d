/- The pure statement of the law SpreadBack: what is left of it without memory. Its conditions: the numbers are of their kinds, the slices and texts of a size that can be read. -/
import Derived.Test.YtbcngajkokjfjaaQSprx5
import Derived.Test.YtbcngajkokjfjaaOpen
namespace Go.Proofs.Ytbcngajkokjfjaa.spreadBack
open Go.RowKit Go.Proofs.YtbcngajkokjfjaaW.PrintWords Go.Proofs.YtbcngajkokjfjaaW.PrintLast Go.Proofs.YtbcngajkokjfjaaW.PrintMore Go.Proofs.Ytbcngajkokjfjaa.QSpr
set_option linter.unusedVariables false
/-- What holds of each struct: its numbers are of their kinds, its slices of a size. -/
def G38 (x : S38) : Prop := (Lit.int .i64 x.f0).wf = true ∧ (Lit.int .i64 x.f1).wf = true
/-- What holds of each struct: its numbers are of their kinds, its slices of a size. -/
def G49 (x : S49) : Prop := True ∧ (x.f1.length ≤ maxLen ∧ x.f1.length * 16 ≤ 140737488351232 ∧ ∀ a ∈ x.f1, G38 a) ∧ (x.f2.length ≤ maxLen ∧ x.f2.length * 8 ≤ 140737488351232 ∧ ∀ a ∈ x.f2, (Lit.int .i64 a).wf = true)
def Pure : Prop := ∀ (x0 : (List S49)) (x1 : S38) (x2 : Int), (x0.length ≤ maxLen ∧ x0.length * 56 ≤ 140737488351232 ∧ ∀ a ∈ x0, G49 a) → G38 x1 → (Lit.int .i64 x2).wf = true → ∃ k, kissgatelaw17_SpreadBack.f k x0 x1.f0 x1.f1 x2 = some true
end Go.Proofs.Ytbcngajkokjfjaa.spreadBack
