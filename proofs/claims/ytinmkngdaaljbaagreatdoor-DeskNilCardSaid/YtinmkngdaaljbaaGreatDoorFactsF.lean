/-
  The closed facts of the row of 'deskNil', part by part: variables.
-/
import Derived.Test.YtinmkngdaaljbaaGreatDoorCards
import Derived.JoinedCond
import Derived.JoinedOf
import Derived.KernelRfl
namespace Go.Proofs.YtinmkngdaaljbaaGreatDoor.deskNil
open Go
theorem k13 : (Rows.deskNilRow.named == Tryz.prog.varsNamed 3) = true := by kernel_rfl
end Go.Proofs.YtinmkngdaaljbaaGreatDoor.deskNil
