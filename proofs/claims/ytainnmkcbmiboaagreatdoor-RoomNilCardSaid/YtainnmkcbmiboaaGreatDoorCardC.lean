/-
  RoomNil: the row, for every piece.
-/
import Derived.Test.YtainnmkcbmiboaaGreatDoorCards
import Derived.Test.YtainnmkcbmiboaaGreatDoorTie
import Derived.Test.YtainnmkcbmiboaaGreatDoorFacts
import Derived.WalkKit
import Derived.ProofKit
import Derived.OpenShut
import Derived.Deep.DeepHandedRow
import Derived.ChangeMaps5
import Derived.Test.YtainnmkcbmiboaaGreatDoorCardB
namespace Go.Proofs.YtainnmkcbmiboaaGreatDoor.roomNil
open Go.ChangeShapes Go.WideShapes Go.ChangeAt Go.RowKit Go.ChangeMaps

theorem said : Rows.RoomNilSaid :=
  OpenClaim.holds_of_cond 3 Tryz.f3 rfl rfl rfl rfl rfl rfl rfl ⟨rfl, rfl, rfl, rfl, rfl⟩ rfl rfl rfl rfl rfl (by kernel_rfl) Tryz.func3 closed
    (of_decide_eq_true (by kernel_rfl)) (by unfold Func.isWrapper; first | (rw [if_pos (by decide +kernel)]; kernel_rfl) | (rw [if_neg (by decide +kernel)]; exact ⟨rfl, rfl⟩))
    (fun os started H enc _ F => by rw [OpenClaim.pre_eq_preRow]; exact lifted os started H enc F)

end Go.Proofs.YtainnmkcbmiboaaGreatDoor.roomNil
