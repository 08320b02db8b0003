/-
  DeskNil: what the card asks of the program: goroutines.
-/
import Derived.Test.YtinmkngdaaljbaaGreatDoorCards
import Derived.Test.YtinmkngdaaljbaaGreatDoorTie
import Derived.WalkKit
import Derived.ProofKit
import Derived.OpenShut
import Derived.Deep.DeepHandedRow
import Derived.ChangeMaps5
import Derived.Test.YtinmkngdaaljbaaGreatDoorEvFacts
namespace Go.Proofs.YtinmkngdaaljbaaGreatDoor.deskNil
open Go.ChangeShapes Go.WideShapes Go.ChangeAt Go.RowKit Go.ChangeMaps

theorem nogo : Tryz.prog.funcs.toList.all (fun f => !f.goes) = true := by kernel_rfl
theorem goes : false = Rows.deskNilRow.goesBy Tryz.pinned.checked.prog := (Ev.goes_false (P := Tryz.prog) nogo Rows.deskNilRow.start Rows.deskNilRow.func rfl).symm
end Go.Proofs.YtinmkngdaaljbaaGreatDoor.deskNil
