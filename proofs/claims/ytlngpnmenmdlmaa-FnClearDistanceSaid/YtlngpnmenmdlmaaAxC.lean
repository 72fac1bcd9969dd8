/- Code that only reckons and reads, carried out on concrete values. -/
import Derived.Test.YtlngpnmenmdlmaaAx2
namespace Go.Proofs.Ytlngpnmenmdlmaa
open Go.RowKit
set_option maxRecDepth 10000
end Go.Proofs.Ytlngpnmenmdlmaa
