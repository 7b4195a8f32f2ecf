/- How much a list of texts holds. -/
import Derived.Test.YtmifllopcbjliaaDoorStr
namespace Go.Proofs.YtmifllopcbjliaaDoor.V
open Go Go.RowKit
/-- how much a list of texts holds -/
def bulkL (ps : List (List UInt8)) : Nat := (ps.map (·.length + 1)).sum
theorem bulkL_cons (p : List UInt8) (ps : List (List UInt8)) : bulkL (p :: ps) = p.length + 1 + bulkL ps := rfl
end Go.Proofs.YtmifllopcbjliaaDoor.V
