/-
  The closed facts of the row of 'roomNil', part by part: recursion.
-/
import Derived.Test.YtainnmkcbmiboaaGreatDoorCards
import Derived.JoinedCond
import Derived.JoinedOf
import Derived.KernelRfl
namespace Go.Proofs.YtainnmkcbmiboaaGreatDoor.roomNil
open Go
theorem k12 : (Rows.roomNilRow.recurses == Tryz.prog.recurses 3) = true := by kernel_rfl
end Go.Proofs.YtainnmkcbmiboaaGreatDoor.roomNil
