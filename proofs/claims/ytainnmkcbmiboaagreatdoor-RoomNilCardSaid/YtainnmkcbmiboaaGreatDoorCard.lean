/-
  RoomNil: a nil desk, or store, does nothing: for every piece of whatever length. The row is proved for every input, with no condition of ours; its listed variables are tied to the text.
-/
import Derived.Test.YtainnmkcbmiboaaGreatDoorCards
import Derived.Test.YtainnmkcbmiboaaGreatDoorTie
import Derived.WalkKit
import Derived.ProofKit
import Derived.OpenShut
import Derived.Deep.DeepHandedRow
import Derived.ChangeMaps5
import Derived.Test.YtainnmkcbmiboaaGreatDoorCardC
import Derived.Test.YtainnmkcbmiboaaGreatDoorCardD
import Derived.Test.YtainnmkcbmiboaaGreatDoorCardE
namespace Go.Proofs.YtainnmkcbmiboaaGreatDoor.roomNil
open Go.ChangeShapes Go.WideShapes Go.ChangeAt Go.RowKit Go.ChangeMaps

theorem card : Rows.RoomNilCardSaid :=
  Claim7.holds_tied_plain_at .later [] _ _ _ _ said (fun _ h => by cases h) (by kernel_rfl) (fun _ h => by cases h) roomNil_row_tie rfl ⟨rfl, rfl⟩ (by kernel_rfl) rfl plain goes

end Go.Proofs.YtainnmkcbmiboaaGreatDoor.roomNil
