/-
  The closed facts of the row of 'deskNil', part by part: what is not followed.
-/
import Derived.Test.YtinmkngdaaljbaaGreatDoorCards
import Derived.JoinedCond
import Derived.JoinedOf
import Derived.KernelRfl
namespace Go.Proofs.YtinmkngdaaljbaaGreatDoor.deskNil
open Go
theorem k11 : (Rows.deskNilRow.unfollowed == Tryz.prog.unfollowed 3) = true := by kernel_rfl
end Go.Proofs.YtinmkngdaaljbaaGreatDoor.deskNil
