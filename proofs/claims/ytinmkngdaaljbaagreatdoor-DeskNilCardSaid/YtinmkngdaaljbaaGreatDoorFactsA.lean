/-
  The closed facts of the row of 'deskNil', part by part: the layout of the types.
-/
import Derived.Test.YtinmkngdaaljbaaGreatDoorCards
import Derived.JoinedCond
import Derived.JoinedOf
import Derived.KernelRfl
namespace Go.Proofs.YtinmkngdaaljbaaGreatDoor.deskNil
open Go
theorem k2 : laidOutB Tryz.prog = true := by kernel_rfl
end Go.Proofs.YtinmkngdaaljbaaGreatDoor.deskNil
