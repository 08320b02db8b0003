/-
  RoomNil: a world in which the listed variables hold what they are listed with; the lifted statement.
-/
import Derived.Test.YtainnmkcbmiboaaGreatDoorCards
import Derived.Test.YtainnmkcbmiboaaGreatDoorTie
import Derived.WalkKit
import Derived.ProofKit
import Derived.OpenShut
import Derived.Deep.DeepHandedRow
import Derived.ChangeMaps5
import Derived.Test.YtainnmkcbmiboaaGreatDoorCardA
namespace Go.Proofs.YtainnmkcbmiboaaGreatDoor.roomNil
open Go.ChangeShapes Go.WideShapes Go.ChangeAt Go.RowKit Go.ChangeMaps

/-- What a listed variable's datum lays, cell by cell. -/
def litCell : Lit → Value
  | .int k n => .int k n
  | .bool b => .bool b
  | .string bs => .string ⟨bs.toArray⟩
  | _ => .nilIface
def dataCells : Nat → DataW Unit → List Value
  | 0, _ => []
  | _ + 1, .lit l => [litCell l]
  | n + 1, .agg ds => ds.flatMap (dataCells n)
  | _ + 1, _ => []
def lay (d : DataW Unit) : Obj → Obj
  | .cells _ t fr => .cells (dataCells 5 d).toArray t fr
  | o => o
noncomputable def laidWorld (os : Os) : World :=
  { World.holding Tryz.prog os ⟨#[], #[], []⟩ with heap := ((((World.holding Tryz.prog os ⟨#[], #[], []⟩).heap.modify 0 (lay Rows.laid_aquatint_turn_names)).modify 1 (lay Rows.laid_unicode_utf8_first)).modify 2 (lay Rows.laid_unicode_utf8_acceptRanges)).modify 3 (lay Rows.laid_aquatint_zig_order) }
theorem laid_met (os : Os) : laidMet Tryz.prog Rows.roomNilRow.laid ((laidWorld os).forCall (fun _ _ => 0) ⟨#[], #[.agg #[.int .i64 0, .int .i64 0, .string .empty]], []⟩).memory :=
  laidMet_of_run' 8 (by kernel_rfl) (by kernel_rfl)
theorem reads (os : Os) {H : Type} (enc : TypeId × Value → H) : ∃ places, DataW.whole enc Tryz.prog ((laidWorld os).forCall (fun _ _ => 0) ⟨#[], #[.agg #[.int .i64 0, .int .i64 0, .string .empty]], []⟩).memory Tryz.f3.params.toList Rows.roomNilSpec.vars false #[Value.agg #[.int .i64 0, .int .i64 0, .string .empty]].toList 8 = some ([.agg [.lit (.int .i64 0), .lit (.int .i64 0), .lit (.string [])]], [], places) :=
  ⟨[], by kernel_rfl⟩

set_option maxRecDepth 100000 in
theorem lifted (os : Os) (started : os.Started) (H : Type) (enc : TypeId × Value → H) (F : Stop.Interp) :
    ReturnsInHanded {} Tryz.checked os 3 .any ((OpenSpec.ofChange Rows.roomNilSpec).preRow enc Tryz.prog Tryz.f3 Rows.roomNilRow.domain false Rows.roomNilRow.laid) (((OpenSpec.ofChange Rows.roomNilSpec).at F).post enc Tryz.prog Tryz.f3 false true false false) := by
  obtain ⟨places, hx⟩ := reads os enc
  refine returnsInHanded_of_row (C := Tryz.checked) (s := OpenSpec.ofChange Rows.roomNilSpec) own started (by kernel_rfl) Tryz.func3
    (witness_row_at (enc := enc) (C := Tryz.checked) false (laidWorld os) #[.agg #[.int .i64 0, .int .i64 0, .string .empty]] rfl (by kernel_rfl) (by kernel_rfl) (by kernel_rfl)
      (OpenSpec.preRow_of_cond 8 hx (by kernel_rfl) (fun k hk => by cases hk) (by kernel_rfl) (laid_met os))) ?_
  intro W base args ds gs before hval hW _ _ _ hL _ _
  exact contract H enc W base args ds gs before hval hW

end Go.Proofs.YtainnmkcbmiboaaGreatDoor.roomNil
