/- The pure statement of the law PrioBest: what is left of it without memory. Its conditions: the numbers are of their kinds, the slices and texts of a size that can be read. -/
import Derived.Test.YtjhkbmdblfdlnaaQPriox5
import Derived.Test.YtjhkbmdblfdlnaaOpen
namespace Go.Proofs.Ytjhkbmdblfdlnaa.prioBest
open Go.RowKit Go.Proofs.YtjhkbmdblfdlnaaW.PrintWords Go.Proofs.YtjhkbmdblfdlnaaW.PrintLast Go.Proofs.YtjhkbmdblfdlnaaW.PrintMore Go.Proofs.Ytjhkbmdblfdlnaa.QPrio
set_option linter.unusedVariables false
/-- What holds of each struct: its numbers are of their kinds, its slices of a size. -/
def G23 (x : S23) : Prop := (Lit.int .i64 x.f0).wf = true ∧ (Lit.int .i64 x.f1).wf = true ∧ (Lit.int .i64 x.f2).wf = true ∧ (Lit.int .i64 x.f3).wf = true
/-- What holds of each struct: its numbers are of their kinds, its slices of a size. -/
def G45 (x : S45) : Prop := G23 x.f0 ∧ (Lit.int .i64 x.f1).wf = true ∧ (Lit.int .i64 x.f2).wf = true ∧ True
def Pure : Prop := ∀ (x0 : Int) (x1 : (List S45)), (Lit.int .i64 x0).wf = true → (x1.length ≤ maxLen ∧ x1.length * 56 ≤ 140737488351232 ∧ ∀ a ∈ x1, G45 a) → ∃ k, kissgatelaw10_PrioBest.f k x0 x1 = some true
end Go.Proofs.Ytjhkbmdblfdlnaa.prioBest
