/- Code that only reckons and reads, carried out on concrete values. -/
import Derived.Test.YtdpokkegkedlfaaAx2
namespace Go.Proofs.Ytdpokkegkedlfaa
open Go.RowKit
set_option maxRecDepth 10000
end Go.Proofs.Ytdpokkegkedlfaa
