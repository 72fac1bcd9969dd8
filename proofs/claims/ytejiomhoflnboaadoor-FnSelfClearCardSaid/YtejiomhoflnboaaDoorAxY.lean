/- The shelf's contracts on rows of points. -/
import Derived.Test.YtejiomhoflnboaaDoorAxL
namespace Go.Proofs.YtejiomhoflnboaaDoor
open Go.RowKit
set_option maxRecDepth 100000
end Go.Proofs.YtejiomhoflnboaaDoor
