/-
  The closed facts of the row of 'roomNil', part by part: what is not followed.
-/
import Derived.Test.YtainnmkcbmiboaaGreatDoorCards
import Derived.JoinedCond
import Derived.JoinedOf
import Derived.KernelRfl
namespace Go.Proofs.YtainnmkcbmiboaaGreatDoor.roomNil
open Go
theorem k11 : (Rows.roomNilRow.unfollowed == Tryz.prog.unfollowed 3) = true := by kernel_rfl
end Go.Proofs.YtainnmkcbmiboaaGreatDoor.roomNil
