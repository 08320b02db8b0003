/-
  The closed facts of the row of 'deskNil', part by part: all of them.
-/
import Derived.Test.YtinmkngdaaljbaaGreatDoorCards
import Derived.JoinedCond
import Derived.JoinedOf
import Derived.KernelRfl
import Derived.Test.YtinmkngdaaljbaaGreatDoorFactsA
import Derived.Test.YtinmkngdaaljbaaGreatDoorFactsB
import Derived.Test.YtinmkngdaaljbaaGreatDoorFactsC
import Derived.Test.YtinmkngdaaljbaaGreatDoorFactsD
import Derived.Test.YtinmkngdaaljbaaGreatDoorFactsE
import Derived.Test.YtinmkngdaaljbaaGreatDoorFactsF
namespace Go.Proofs.YtinmkngdaaljbaaGreatDoor.deskNil
open Go
theorem closed : joinedFacts Tryz.prog 3 Tryz.f3 (OpenSpec.ofChange Rows.deskNilSpec).bare Rows.deskNilRow = true := by
  unfold joinedFacts
  rw [k2, k3, k10, k11, k12, k13]
  kernel_rfl
end Go.Proofs.YtinmkngdaaljbaaGreatDoor.deskNil
