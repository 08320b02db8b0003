/-
  DERIVED. GIVEN WITH THE SEED: THE CARDS: each row of YtainnmkcbmiboaaGreatDoorRows.lean that lists a variable, with what it lists TIED to the program's text (the seventh form; the later family's looks); each row that meets fmt, with fmt's text TOLD by the authors' own Lean function (tested against real Go, not proved from fmt's source: count such statements apart). THE CARD IS WHAT COUNTS. Prove the row's statement (the work); the ties are given (YtainnmkcbmiboaaGreatDoorTie.lean); close each card by the builder's one call (the guide's Derived/Test/ToyasCard.lean, 'card_holds'). Laid BY PROGRAM, IN A SANDBOX (cutbox-door.mjs). By AI agents, Wed Nov 11 2026. No macro, syntax, notation, axiom, sorry.
-/
import Derived.Test.YtainnmkcbmiboaaGreatDoorRows
import GoSem.ClaimSeven
namespace Go.Proofs.YtainnmkcbmiboaaGreatDoor
namespace Rows

/-- THE TIED CARD OF 'aquatintlaw26.RoomNil'. -/
def roomNilCard : Claim7 := { stood := { row := roomNilRow, standIns := [], harness := (true, "b42ada787f2ed8e88cb47180bb94beec4f3e4e5be504bb029b1ca65f2d60c5a7"), looks := true }, kinds := [], alts := [], laidByText := true, laidKinds := [.data, .data, .data, .pinned], laidTests := true, laidLooks := .later }
def RoomNilCardSaid : Prop := Claim7.holds Tryz.pinned (.plain (OpenSpec.ofChange roomNilSpec)) roomNilCard

/-- THE SECOND FORM's CARD OF 'aquatintlaw26.RoomNil'. -/
def roomNilUptoCard : Claim7 := { stood := { row := roomNilUptoRow, standIns := [], harness := (true, "b42ada787f2ed8e88cb47180bb94beec4f3e4e5be504bb029b1ca65f2d60c5a7"), looks := true }, kinds := [], alts := [], laidByText := true, laidKinds := [.data, .data, .data, .pinned], laidTests := true, laidLooks := .later }
def RoomNilUptoCardSaid : Prop := Claim7.holds Tryz.pinned (.plain (OpenSpec.upto roomNilSpec)) roomNilUptoCard
end Rows
end Go.Proofs.YtainnmkcbmiboaaGreatDoor
