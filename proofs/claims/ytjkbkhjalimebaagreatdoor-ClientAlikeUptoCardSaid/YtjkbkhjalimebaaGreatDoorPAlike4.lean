import Derived.Test.YtjkbkhjalimebaaGreatDoorPAlike3
import Derived.Maps.AppendAt
import Derived.BigFrame
namespace Go.Proofs.YtjkbkhjalimebaaGreatDoor
open Go.RowKit
end Go.Proofs.YtjkbkhjalimebaaGreatDoor

