/-
  NARROWER THAN 'FOR EVERY INPUT', by the rows' own cells (each row's printed sentence says how): RoomNil: laid.
  DERIVED. THE GIVEN ROWS OF THIS SEAT. 1 by the template 'for every input the law returns true; each argument reads behind the call as it read before'; 0 by the template 'total and deterministic' (their statements: YtainnmkcbmiboaaGreatDoorTotals.lean).
  GIVEN WITH THE SEED: the statements are not yours to turn. If you find one false, say at which input.
  Laid BY PROGRAM, IN A SANDBOX (cutbox-rows.mjs): the forced cells as the released guide's own fill.sh prints them over the translation 0401ca99e80a631b… (all of the seat's roots in one cut). By AI agents, Wed Nov 11 2026. No macro, syntax, notation, axiom, sorry.
-/
import Derived.Test.YtainnmkcbmiboaaGreatDoorChecked
import GoSem.PinnedTables
import GoSem.Claim
import GoSem.ClaimJoined
import GoSem.ClaimMapViews
import Derived.JoinedTies
import Derived.KernelRfl
namespace Go.Proofs.YtainnmkcbmiboaaGreatDoor
/- THE CELL 'sum', in the pinned program and in every row, IS THE sha256 OF THE DUMP (.gsa) THAT YtainnmkcbmiboaaGreatDoorProg.lean LOADS. Nothing in Lean hashes anything: it is a label: what it is worth is what the hold of that sum in a sandbox is worth. -/
noncomputable def Tryz.pinned : Pinned := { name := "ytainnmkcbmiboaagreatdoor", sum := "0401ca99e80a631b777176e0ca5e76495a9864e55f63bb6b578fbc2dc2d8ea7a", checked := Tryz.checked }
namespace Rows
def none {H : Type} : Left H := { results := [], args := [] }

/- WHAT THE LISTED PACKAGE-LEVEL VARIABLES READ AS WHEN THE CALL BEGINS. Each datum BY PROGRAM (the guide's laid-datum.mjs) off the statement by which the dump's own 'gosem.cut.vars' lays the variable. In a bare row this is a premise. The card (YtainnmkcbmiboaaGreatDoorCards.lean) ties it to the program's text. -/
def laid_aquatint_zig_order {H : Type} : DataW H := .agg [.lit (.int .i64 0), .lit (.int .i64 1), .lit (.int .i64 8), .lit (.int .i64 16), .lit (.int .i64 9), .lit (.int .i64 2), .lit (.int .i64 3), .lit (.int .i64 10), .lit (.int .i64 17), .lit (.int .i64 24), .lit (.int .i64 32), .lit (.int .i64 25), .lit (.int .i64 18), .lit (.int .i64 11), .lit (.int .i64 4), .lit (.int .i64 5), .lit (.int .i64 12), .lit (.int .i64 19), .lit (.int .i64 26), .lit (.int .i64 33), .lit (.int .i64 40), .lit (.int .i64 48), .lit (.int .i64 41), .lit (.int .i64 34), .lit (.int .i64 27), .lit (.int .i64 20), .lit (.int .i64 13), .lit (.int .i64 6), .lit (.int .i64 7), .lit (.int .i64 14), .lit (.int .i64 21), .lit (.int .i64 28), .lit (.int .i64 35), .lit (.int .i64 42), .lit (.int .i64 49), .lit (.int .i64 56), .lit (.int .i64 57), .lit (.int .i64 50), .lit (.int .i64 43), .lit (.int .i64 36), .lit (.int .i64 29), .lit (.int .i64 22), .lit (.int .i64 15), .lit (.int .i64 23), .lit (.int .i64 30), .lit (.int .i64 37), .lit (.int .i64 44), .lit (.int .i64 51), .lit (.int .i64 58), .lit (.int .i64 59), .lit (.int .i64 52), .lit (.int .i64 45), .lit (.int .i64 38), .lit (.int .i64 31), .lit (.int .i64 39), .lit (.int .i64 46), .lit (.int .i64 53), .lit (.int .i64 60), .lit (.int .i64 61), .lit (.int .i64 54), .lit (.int .i64 47), .lit (.int .i64 55), .lit (.int .i64 62), .lit (.int .i64 63)]
def laid_aquatint_turn_names {H : Type} : DataW H := .agg [.lit (.string [110, 111, 110, 101]), .lit (.string [109, 105, 114, 114, 111, 114]), .lit (.string [102, 108, 105, 112]), .lit (.string [104, 97, 108, 102]), .lit (.string [115, 119, 97, 112]), .lit (.string [114, 105, 103, 104, 116]), .lit (.string [108, 101, 102, 116]), .lit (.string [97, 110, 116, 105])]
def laid_unicode_utf8_acceptRanges {H : Type} : DataW H := .agg [.agg [.lit (.int .u8 128), .lit (.int .u8 191)], .agg [.lit (.int .u8 160), .lit (.int .u8 191)], .agg [.lit (.int .u8 128), .lit (.int .u8 159)], .agg [.lit (.int .u8 144), .lit (.int .u8 191)], .agg [.lit (.int .u8 128), .lit (.int .u8 143)], .agg [.lit (.int .u8 0), .lit (.int .u8 0)], .agg [.lit (.int .u8 0), .lit (.int .u8 0)], .agg [.lit (.int .u8 0), .lit (.int .u8 0)], .agg [.lit (.int .u8 0), .lit (.int .u8 0)], .agg [.lit (.int .u8 0), .lit (.int .u8 0)], .agg [.lit (.int .u8 0), .lit (.int .u8 0)], .agg [.lit (.int .u8 0), .lit (.int .u8 0)], .agg [.lit (.int .u8 0), .lit (.int .u8 0)], .agg [.lit (.int .u8 0), .lit (.int .u8 0)], .agg [.lit (.int .u8 0), .lit (.int .u8 0)], .agg [.lit (.int .u8 0), .lit (.int .u8 0)]]
/-- One of Go's own tables, pinned by name: the form's constant. -/
def laid_unicode_utf8_first : DataW Unit := Go.Pinned.utf8First

/-- 'aquatintlaw26.RoomNil': WHATEVER THE INPUT: true; the input reads as it did. -/
def roomNilSpec : ChangeSpec := { name := "roomNil", fn := fun _ => fun
  | [d] => { results := [.lit (.bool true)], args := [d] }
  | _ => none }
def roomNilRow : OpenClaim := { program := "ytainnmkcbmiboaagreatdoor", sum := "0401ca99e80a631b777176e0ca5e76495a9864e55f63bb6b578fbc2dc2d8ea7a", func := "aquatint/aquatintlaw26.RoomNil", spec := "roomNil", inPlace := ["internal/abi.NoEscape"], unfollowed := true, recurses := true, named := ["aquatint/turn.names", "unicode/utf8.first", "unicode/utf8.acceptRanges", "aquatint/zig.order"], apart := false, laid := [("aquatint/zig.order", laid_aquatint_zig_order), ("aquatint/turn.names", laid_aquatint_turn_names), ("unicode/utf8.acceptRanges", laid_unicode_utf8_acceptRanges), ("unicode/utf8.first", laid_unicode_utf8_first)] }
def RoomNilSaid : Prop := roomNilRow.holds Tryz.pinned (OpenSpec.ofChange roomNilSpec)

/-- ITS FALSE NEIGHBOUR: 'it returns false'. Refute it at one input. -/
def roomNilWrong : ChangeSpec := { name := "roomNil", fn := fun _ => fun
  | [d] => { results := [.lit (.bool false)], args := [d] }
  | _ => none }
def RoomNilWrongFalsely : Prop := roomNilRow.holds Tryz.pinned (OpenSpec.ofChange roomNilWrong)

/- THE SECOND FORM. 'bulk': how many values and letters a reading holds, each counted each time it is reached (what is shared counts as often as it is met; a slice's spare places count too). A statement '..UptoSaid' is the law's where the arguments, and the package variables that the reading takes, are together of bulk at most 1048576: NARROWER than '..Said'. Prove '..Said' where nothing that the law and all that it calls make is longer than what came in: it says more and counts as full. Else prove '..UptoSaid'. A law counts once. -/
mutual
def uptoBulk {H : Type} : DataW H → Nat
  | .lit (.string bytes) => bytes.length + 1
  | .lit _ => 1
  | .nil => 1
  | .ptr d => uptoBulk d + 1
  | .slice elems spare => uptoBulkAll elems + uptoBulkAll spare + 1
  | .agg parts => uptoBulkAll parts + 1
  | .iface _ d => uptoBulk d + 1
  | .map entries => uptoBulkEntries entries + 1
  | .held _ => 1
def uptoBulkAll {H : Type} : List (DataW H) → Nat
  | [] => 0
  | d :: r => uptoBulk d + uptoBulkAll r
def uptoBulkEntries {H : Type} : List (Lit × DataW H) → Nat
  | [] => 0
  | x :: r => uptoBulkEntry x + uptoBulkEntries r
def uptoBulkEntry {H : Type} : Lit × DataW H → Nat
  | (.string bytes, d) => bytes.length + uptoBulk d + 1
  | (_, d) => uptoBulk d + 1
 end
def uptoSmall : (H : Type) → List (DataW H) → Bool := fun _ ds => decide (uptoBulkAll ds ≤ 1048576)
def OpenSpec.upto (s : _root_.Go.ChangeSpec) : _root_.Go.OpenSpec := { _root_.Go.OpenSpec.ofChange s with cond := some uptoSmall }

/-- 'aquatintlaw26.RoomNil', WHERE WHAT IT READS IS OF BULK AT MOST 1048576: true; the input reads as it did. -/
def roomNilUptoRow : OpenClaim := { program := "ytainnmkcbmiboaagreatdoor", sum := "0401ca99e80a631b777176e0ca5e76495a9864e55f63bb6b578fbc2dc2d8ea7a", func := "aquatint/aquatintlaw26.RoomNil", spec := "roomNil", inPlace := ["internal/abi.NoEscape"], unfollowed := true, recurses := true, named := ["aquatint/turn.names", "unicode/utf8.first", "unicode/utf8.acceptRanges", "aquatint/zig.order"], apart := false, laid := [("aquatint/zig.order", laid_aquatint_zig_order), ("aquatint/turn.names", laid_aquatint_turn_names), ("unicode/utf8.acceptRanges", laid_unicode_utf8_acceptRanges), ("unicode/utf8.first", laid_unicode_utf8_first)], narrowed := true }
def RoomNilUptoSaid : Prop := roomNilUptoRow.holds Tryz.pinned (OpenSpec.upto roomNilSpec)

end Rows
end Go.Proofs.YtainnmkcbmiboaaGreatDoor
