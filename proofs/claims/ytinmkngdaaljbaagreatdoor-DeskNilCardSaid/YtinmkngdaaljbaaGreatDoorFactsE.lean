/-
  The closed facts of the row of 'deskNil', part by part: recursion.
-/
import Derived.Test.YtinmkngdaaljbaaGreatDoorCards
import Derived.JoinedCond
import Derived.JoinedOf
import Derived.KernelRfl
namespace Go.Proofs.YtinmkngdaaljbaaGreatDoor.deskNil
open Go
theorem k12 : (Rows.deskNilRow.recurses == Tryz.prog.recurses 3) = true := by kernel_rfl
end Go.Proofs.YtinmkngdaaljbaaGreatDoor.deskNil
