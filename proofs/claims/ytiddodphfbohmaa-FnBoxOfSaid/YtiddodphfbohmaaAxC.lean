/- Code that only reckons and reads, carried out on concrete values. -/
import Derived.Test.YtiddodphfbohmaaAx2
namespace Go.Proofs.Ytiddodphfbohmaa
open Go.RowKit
set_option maxRecDepth 10000
end Go.Proofs.Ytiddodphfbohmaa
