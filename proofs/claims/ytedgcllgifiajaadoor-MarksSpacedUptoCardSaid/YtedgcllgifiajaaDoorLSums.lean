/- The walk of GaussSums: whatever the arguments, true. -/
import Derived.Test.YtedgcllgifiajaaDoorLMakes
import Derived.Test.YtedgcllgifiajaaDoorKeep
namespace Go.Proofs.YtedgcllgifiajaaDoor
open Go.RowKit Flo
end Go.Proofs.YtedgcllgifiajaaDoor

