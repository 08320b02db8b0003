/-
  The closed facts of the row of 'deskNil', part by part: what is walked in place.
-/
import Derived.Test.YtinmkngdaaljbaaGreatDoorCards
import Derived.JoinedCond
import Derived.JoinedOf
import Derived.KernelRfl
namespace Go.Proofs.YtinmkngdaaljbaaGreatDoor.deskNil
open Go
theorem k10 : (Rows.deskNilRow.inPlace == Tryz.prog.inPlace 3) = true := by kernel_rfl
end Go.Proofs.YtinmkngdaaljbaaGreatDoor.deskNil
