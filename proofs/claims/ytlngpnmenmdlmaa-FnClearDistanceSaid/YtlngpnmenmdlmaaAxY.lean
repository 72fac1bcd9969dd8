/- The shelf's contracts on rows of points. -/
import Derived.Test.YtlngpnmenmdlmaaAxL
namespace Go.Proofs.Ytlngpnmenmdlmaa
open Go.RowKit
set_option maxRecDepth 100000
end Go.Proofs.Ytlngpnmenmdlmaa
