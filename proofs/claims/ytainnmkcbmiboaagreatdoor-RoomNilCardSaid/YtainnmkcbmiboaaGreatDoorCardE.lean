/-
  RoomNil: what the card asks of the program: goroutines.
-/
import Derived.Test.YtainnmkcbmiboaaGreatDoorCards
import Derived.Test.YtainnmkcbmiboaaGreatDoorTie
import Derived.WalkKit
import Derived.ProofKit
import Derived.OpenShut
import Derived.Deep.DeepHandedRow
import Derived.ChangeMaps5
import Derived.Test.YtainnmkcbmiboaaGreatDoorEvFacts
namespace Go.Proofs.YtainnmkcbmiboaaGreatDoor.roomNil
open Go.ChangeShapes Go.WideShapes Go.ChangeAt Go.RowKit Go.ChangeMaps

theorem nogo : Tryz.prog.funcs.toList.all (fun f => !f.goes) = true := by kernel_rfl
theorem goes : false = Rows.roomNilRow.goesBy Tryz.pinned.checked.prog := (Ev.goes_false (P := Tryz.prog) nogo Rows.roomNilRow.start Rows.roomNilRow.func rfl).symm
end Go.Proofs.YtainnmkcbmiboaaGreatDoor.roomNil
