/- Code that only reckons and reads, carried out on concrete values. -/
import Derived.Test.YtnhgojcleepdiaaAx2
namespace Go.Proofs.Ytnhgojcleepdiaa
open Go.RowKit
set_option maxRecDepth 10000
end Go.Proofs.Ytnhgojcleepdiaa
