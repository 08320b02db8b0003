/-
  The closed facts of the row of 'roomNil', part by part: all of them.
-/
import Derived.Test.YtainnmkcbmiboaaGreatDoorCards
import Derived.JoinedCond
import Derived.JoinedOf
import Derived.KernelRfl
import Derived.Test.YtainnmkcbmiboaaGreatDoorFactsA
import Derived.Test.YtainnmkcbmiboaaGreatDoorFactsB
import Derived.Test.YtainnmkcbmiboaaGreatDoorFactsC
import Derived.Test.YtainnmkcbmiboaaGreatDoorFactsD
import Derived.Test.YtainnmkcbmiboaaGreatDoorFactsE
import Derived.Test.YtainnmkcbmiboaaGreatDoorFactsF
namespace Go.Proofs.YtainnmkcbmiboaaGreatDoor.roomNil
open Go
theorem closed : joinedFacts Tryz.prog 3 Tryz.f3 (OpenSpec.ofChange Rows.roomNilSpec).bare Rows.roomNilRow = true := by
  unfold joinedFacts
  rw [k2, k3, k10, k11, k12, k13]
  kernel_rfl
end Go.Proofs.YtainnmkcbmiboaaGreatDoor.roomNil
