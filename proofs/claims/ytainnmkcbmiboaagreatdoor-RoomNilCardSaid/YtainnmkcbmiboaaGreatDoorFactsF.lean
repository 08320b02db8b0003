/-
  The closed facts of the row of 'roomNil', part by part: variables.
-/
import Derived.Test.YtainnmkcbmiboaaGreatDoorCards
import Derived.JoinedCond
import Derived.JoinedOf
import Derived.KernelRfl
namespace Go.Proofs.YtainnmkcbmiboaaGreatDoor.roomNil
open Go
theorem k13 : (Rows.roomNilRow.named == Tryz.prog.varsNamed 3) = true := by kernel_rfl
end Go.Proofs.YtainnmkcbmiboaaGreatDoor.roomNil
