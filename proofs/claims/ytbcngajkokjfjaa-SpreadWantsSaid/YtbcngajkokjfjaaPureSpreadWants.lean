/- The law SpreadWants holds of the printed functions: Wants answers what the document says. Its conditions: the numbers are of their kinds, the slices and texts of a size that can be read. -/
import Derived.Test.YtbcngajkokjfjaaStmSpreadWants
import Derived.Test.YtbcngajkokjfjaaSprLem
namespace Go.Proofs.Ytbcngajkokjfjaa.spreadWants
open Go.RowKit Go.Proofs.YtbcngajkokjfjaaW.PrintWords Go.Proofs.YtbcngajkokjfjaaW.PrintLast Go.Proofs.YtbcngajkokjfjaaW.PrintMore Go.Proofs.Ytbcngajkokjfjaa.QSpr Go.Proofs.Ytbcngajkokjfjaa.Spr

theorem wants_len (l : List S49) (a b own : Int) : (wants l a b own).length = l.length := by simp [wants]

theorem wants_get (l : List S49) (a b own : Int) (i : Nat) (hi : i < l.length) : rd (wants l a b own) i = want l a b own i := by
  unfold rd wants
  rw [Int.toNat_natCast, List.getD_eq_getElem?_getD]
  simp [hi]

theorem loop (l : List S49) (a b own : Int) (hf : Few l) (d : Nat) : ∀ i : Nat, i + d = l.length → Ev (fun k => kissgatelaw17_SpreadWants.l0 k l own (l.map conv) (wants l a b own) l.length i a b) true := by
  have h20 := hf.1
  have hw := wants_len l a b own
  induction d with
  | zero =>
    intro i hi
    exact Ev.step (fun k => by rw [kissgatelaw17_SpreadWants.l0, if_neg (by omega), hw, beq_self_eq_true]) (Ev.now _)
  | succ d ih =>
    intro i hi
    have hlt : i < l.length := by omega
    refine Ev.step (fun k => by rw [kissgatelaw17_SpreadWants.l0, if_pos (by omega), if_neg (by omega), if_pos (by omega), if_pos (by omega), wants_get l a b own i hlt, wrap_up (n := l.length) (by omega) (by omega) (by omega)]) ?_
    refine Ev.bind (want_ref l a b own hf i hlt) ?_
    simp only [if_true]
    exact ih (i + 1) (by omega)

theorem pure : Pure := by
  intro l x own hl hx ho
  obtain ⟨hm, hb, hg⟩ := hl
  refine Ev.rounds ?_
  unfold kissgatelaw17_SpreadWants.f
  refine Ev.bind alive ?_
  simp only [if_true]
  rcases plain l hb with ⟨r, h⟩ | ⟨h, hf⟩
  · refine Ev.bind h ?_
    simp only [Bool.false_eq_true, if_false]
    exact Ev.now _
  · refine Ev.bind h ?_
    simp only [if_true]
    refine Ev.bind (wants_prog l x.f0 x.f1 own hf) ?_
    exact loop l x.f0 x.f1 own hf l.length 0 (by omega)

end Go.Proofs.Ytbcngajkokjfjaa.spreadWants
