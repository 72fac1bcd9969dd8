/- The shelf's contracts on rows of points. -/
import Derived.Test.YtiddodphfbohmaaAxL
namespace Go.Proofs.Ytiddodphfbohmaa
open Go.RowKit
set_option maxRecDepth 100000
end Go.Proofs.Ytiddodphfbohmaa
