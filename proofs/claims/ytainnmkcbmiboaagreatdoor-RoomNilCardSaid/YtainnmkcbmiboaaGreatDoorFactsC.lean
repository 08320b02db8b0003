/-
  The closed facts of the row of 'roomNil', part by part: what is walked in place.
-/
import Derived.Test.YtainnmkcbmiboaaGreatDoorCards
import Derived.JoinedCond
import Derived.JoinedOf
import Derived.KernelRfl
namespace Go.Proofs.YtainnmkcbmiboaaGreatDoor.roomNil
open Go
theorem k10 : (Rows.roomNilRow.inPlace == Tryz.prog.inPlace 3) = true := by kernel_rfl
end Go.Proofs.YtainnmkcbmiboaaGreatDoor.roomNil
