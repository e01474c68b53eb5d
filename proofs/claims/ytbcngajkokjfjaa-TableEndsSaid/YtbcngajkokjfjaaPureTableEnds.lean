/- The law TableEnds holds of the printed functions. Its conditions: the numbers are of their kinds, the slices and texts of a size that can be read. -/
import Derived.Test.YtbcngajkokjfjaaStmTableEnds
import Derived.Test.YtbcngajkokjfjaaEndsTableEnds
namespace Go.Proofs.Ytbcngajkokjfjaa.tableEnds

theorem pure : Pure := fun l h => Ends.TableEnds l h.1 h.2.1 h.2.2

end Go.Proofs.Ytbcngajkokjfjaa.tableEnds
