/-
  The closed facts of the row of 'roomNil', part by part: the maps.
-/
import Derived.Test.YtainnmkcbmiboaaGreatDoorCards
import Derived.JoinedCond
import Derived.JoinedOf
import Derived.KernelRfl
namespace Go.Proofs.YtainnmkcbmiboaaGreatDoor.roomNil
open Go
theorem k3 : mapsRowed Tryz.prog = true := by kernel_rfl
end Go.Proofs.YtainnmkcbmiboaaGreatDoor.roomNil
