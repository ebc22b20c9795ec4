import Derived.Test.YtjkbkhjalimebaaGreatDoorPAlike2
namespace Go.Proofs.YtjkbkhjalimebaaGreatDoor
open Go.ChangeShapes Go.WideShapes Go.ChangeAt Go.RowKit
section
variable {H:Type} {enc:TypeId×Value→H} {P:Program} {w:World} {base:Nat} {spare:Nat→Bool} {held:Bool}
theorem reach_le' {k:Nat} (h:k≤reachBytes):k≤140737488351232:=by
  unfold reachBytes at h
  omega
end
end Go.Proofs.YtjkbkhjalimebaaGreatDoor

