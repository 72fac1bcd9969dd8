/- A table that is drawn, walked by hand: its first row may be grown in place. -/
import Derived.Test.YtejiomhoflnboaaDoorTab
set_option maxRecDepth 100000
namespace Go.Proofs.YtejiomhoflnboaaDoor
open Go.RowKit
end Go.Proofs.YtejiomhoflnboaaDoor
