import Derived.Test.YtjkbkhjalimebaaGreatDoorPAlike1
import Derived.ProofKit
import Derived.OpenShut
import Derived.ShutString
import Derived.ChangeOld
import Derived.Below
import Derived.SizedLaws
import Derived.Deep.Slices
import Derived.Lib.SmallJoins
namespace Go.Proofs.YtjkbkhjalimebaaGreatDoor
open Go.ChangeShapes Go.WideShapes Go.ChangeAt Go.RowKit
section
variable {H:Type} {enc:TypeId×Value→H} {P:Program} {w:World} {base:Nat} {spare:Nat→Bool} {held:Bool}
theorem weights_all_mem {t:TypeId}:∀ {ds:List (DataW H)} {d:DataW H},d∈ds→∀ k∈d.weights P t,k∈DataW.weightsAll P t ds
  | d0 :: ds, d, hd, k, hk => by
    rw [DataW.weightsAll,List.mem_append]
    rcases List.mem_cons.1 hd with rfl | hd
    · exact .inl hk
    · exact .inr (weights_all_mem hd k hk)
end
end Go.Proofs.YtjkbkhjalimebaaGreatDoor

