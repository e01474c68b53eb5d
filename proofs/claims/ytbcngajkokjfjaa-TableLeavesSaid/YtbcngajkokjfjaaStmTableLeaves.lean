/- The pure statement of the law TableLeaves: what is left of it without memory. Its conditions: the numbers are of their kinds, the slices and texts of a size that can be read. -/
import Derived.Test.YtbcngajkokjfjaaPTableLeavesx1
import Derived.Test.YtbcngajkokjfjaaOpen
namespace Go.Proofs.Ytbcngajkokjfjaa.tableLeaves
open Go.RowKit Go.Proofs.YtbcngajkokjfjaaW.PrintWords Go.Proofs.YtbcngajkokjfjaaW.PrintLast Go.Proofs.YtbcngajkokjfjaaW.PrintMore Go.Proofs.Ytbcngajkokjfjaa.PTableLeaves
set_option linter.unusedVariables false
def Pure : Prop := ∀ (x0 : (List Int)), (x0.length ≤ maxLen ∧ x0.length * 8 ≤ 140737488351232 ∧ ∀ a ∈ x0, (Lit.int .i64 a).wf = true) → ∃ k, kissgatelaw13_TableLeaves.f k x0 = some true
end Go.Proofs.Ytbcngajkokjfjaa.tableLeaves
