/- The law PrioBest holds of the printed functions: Best answers what the document says. Its conditions: the numbers are of their kinds, the slices and texts of a size that can be read. -/
import Derived.Test.YtjhkbmdblfdlnaaStmPrioBest
import Derived.Test.YtjhkbmdblfdlnaaPriLem
namespace Go.Proofs.Ytjhkbmdblfdlnaa.prioBest
open Go.RowKit Go.Proofs.YtjhkbmdblfdlnaaW.PrintWords Go.Proofs.YtjhkbmdblfdlnaaW.PrintLast Go.Proofs.YtjhkbmdblfdlnaaW.PrintMore Go.Proofs.Ytjhkbmdblfdlnaa.QPrio Go.Proofs.Ytjhkbmdblfdlnaa.Pri

theorem fits {l : List S45} (h : ∀ a ∈ l, G45 a) : ∀ a ∈ l, FitH a := fun a ha => ⟨fit_of (h a ha).1.1, fit_of (h a ha).1.2.1, fit_of (h a ha).2.2.1⟩

theorem pure : Pure := by
  intro id l hid hl
  obtain ⟨hm, hb, hg⟩ := hl
  refine Ev.rounds ?_
  unfold kissgatelaw10_PrioBest.f
  refine Ev.bind alive ?_
  simp only [if_true]
  by_cases h20 : (l.length : Int) > 20
  · simp only [if_pos h20]
    exact Ev.now _
  · simp only [if_neg h20]
    refine Ev.bind (best_prog id l (by omega) (fits hg)) ?_
    refine Ev.bind (plain l hb) ?_
    refine Ev.bind (best_ref id l (by omega) (fits hg)) ?_
    simp only [beq_self_eq_true, Bool.and_self, if_true]
    exact Ev.now _

end Go.Proofs.Ytjhkbmdblfdlnaa.prioBest
