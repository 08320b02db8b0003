/-
  W0: part of the proof.
-/
import Derived.Test.YtinmkngdaaljbaaGreatDoorProg
import Derived.Lib.Builder
import Derived.Lib.UnsafeStr
import Derived.WalkKit
import Derived.ProofKit
import Derived.Lib.Walk
import Derived.Lib.Hide
import Derived.Laws.Externs
import Derived.Shelf.RegionOpenPlain
import Derived.Lib.AppendStr
import Derived.Lib.Strings
namespace Go.Proofs
open Go.RowKit
theorem info164 : ∃ j, Tryz.prog.info? 164 = some j ∧ j.size = 2 := Option.map_eq_some_iff.1 (show (Tryz.prog.info? 164).map (·.size) = some 2 by kernel_rfl)
set_option maxHeartbeats 1000000 in
set_option maxRecDepth 100000 in
theorem cc_used (b off : Nat) (w : World) (h0 : w.cell? ⟨b, off, none⟩ = some (.pointer (some ⟨b, off, none⟩))) :
    Calls Tryz.prog 98 #[.pointer (some ⟨b, off, none⟩)] w fun e w' => e = .returned (.tuple #[]) ∧ w' = w := by
  obtain ⟨j, hj, _⟩ := info164
  go_enter Tryz.func98, Tryz.ntmps98
  go_wp2
  rw [Lib.run_neq_ptr_same w _ Tryz.underlying161 hj]
  go_wp2
  go_end0
  exact ⟨rfl, rfl⟩
set_option maxHeartbeats 1000000 in
set_option maxRecDepth 100000 in
theorem cc_fresh (b off ty cells : Nat) (w : World) (h0 : w.cell? ⟨b, off, none⟩ = some (.pointer none)) (hsh : w.shape? b = some (ty, cells)) (hoff : off < cells)
    (hl : liesAt Tryz.prog Tryz.prog.depth ty (cells / Tryz.prog.cellsOf ty) off 164 1 = true) (hfz : w.frozen? ⟨b, off, none⟩ = false) :
    Calls Tryz.prog 98 #[.pointer (some ⟨b, off, none⟩)] w fun e w' => e = .returned (.tuple #[]) ∧ w' = w.setCell ⟨b, off, none⟩ (.pointer (some ⟨b, off, none⟩)) := by
  obtain ⟨j, hj, hjs⟩ := info164
  have hl' := Lib.hid hl
  clear hl
  have hoff' := Lib.hid hoff
  clear hoff
  go_enter Tryz.func98, Tryz.ntmps98
  go_wp2
  rw [Lib.run_to_unsafe w ⟨b, off, none⟩ Tryz.underlying161 Tryz.underlying335 hj (by rw [hjs]; decide) hsh hoff'.out]
  simp only [Result.andThen]
  rw [Oper.upon_value]
  go_wp2
  rw [run_callFunc_extern Tryz.func144 (by kernel_rfl) (by kernel_rfl) (by kernel_rfl) (e := Extern.AbiNoEscape.same) (by kernel_rfl)]
  rw [Lib.run_noEscape]
  simp only [Result.andThen]
  rw [Oper.upon_value]
  go_wp2
  rw [Lib.run_from_unsafe w ⟨b, off, none⟩ Tryz.underlying335 Tryz.underlying161 hj hsh hl'.out]
  simp only [Result.andThen]
  rw [Oper.upon_value]
  go_wp2
  go_end0
  exact ⟨rfl, rfl⟩

theorem liesAt_bytes' {P : Program} {e : TypeId} (hc : P.cellsOf e = 1) (count a n : Nat) (hn : a + n ≤ count) : liesAt P P.depth e count a e n = true := by
  have hd : P.depth = (2 * (P.types.size + Made.depth) + 1) + 1 := rfl
  rw [hd]
  simp only [liesAt, Bool.or_eq_true]
  left
  rw [hd]
  simp [rowAt, hc, hn, sameLayout, Nat.mod_one]
theorem run_unsafeString_row' {P : Program} (w : World) (pt it ty e : TypeId) (hp : P.underlying pt = some (.pointer e)) (hc : P.cellsOf e = 1) (g a cells : Nat) (hsh : w.shape? g = some (e, cells)) (l : List UInt8) (h0 : l ≠ []) (hn : a + l.length ≤ cells) (h63 : l.length ≤ 9223372036854775807)
    (hcell : ∀ j x, l[j]? = some x → w.cell? ((⟨g, a, none⟩ : Addr).add j) = some (.int .u8 x.toNat)) :
    (Builtin.unsafeString_ #[pt, it] ty #[.pointer (some ⟨g, a, none⟩), .int .i64 l.length]).run P w = .ok (.string ⟨l.toArray⟩) (w.freeze ⟨g, a, none⟩ l.length) := by
  have hl : l.length ≠ 0 := by simpa using h0
  have hlb := Lib.run_loadBytes (P := P) w l ⟨g, a, none⟩ .empty hcell
  have hlies := liesAt_bytes' (P := P) hc (cells / P.cellsOf e) a l.length (by rw [hc]; simpa using hn)
  have h63' : ¬ (9223372036854775807 : Int) < (l.length : Int) := by omega
  obtain ⟨e1, e2, e3, hdef⟩ : ∃ e1 e2 e3, Builtin.unsafeString_ #[pt, it] ty #[.pointer (some ⟨g, a, none⟩), .int .i64 l.length] =
      (do
        let n ← asInt (.int .i64 l.length)
        if n < 0 then runtimePanic e1
        if n > IntKind.i64.max then unsupported e2
        if n = 0 then pure (.string .empty)
        else if ← variablesAt ⟨g, a, none⟩ (← elemOf pt) n.toNat then do
          let s ← loadBytes ⟨g, a, none⟩ .empty n.toNat
          freeze ⟨g, a, none⟩ n.toNat
          pure (.string s)
        else unsupported e3) := ⟨_, _, _, rfl⟩
  rw [hdef]
  have hmax : IntKind.i64.max = 9223372036854775807 := rfl
  have hneg : ¬ (l.length : Int) < 0 := by omega
  simp [asInt, asIntOf, hmax, h63', hneg, hl, variablesAt, hsh, elemOf, run_underlying hp, hlies, hlb]
theorem mixed : Tryz.prog.follows Departure.mixedOrders = true := by kernel_rfl
theorem cells5 : Tryz.prog.cellsOf 5 = 1 := by kernel_rfl
set_option maxHeartbeats 1000000 in
set_option maxRecDepth 100000 in
theorem str_row (b off g a cap cells : Nat) (l : List UInt8) (w : World) (h1 : w.cell? ⟨b, off + 1, none⟩ = some (.slice (some ⟨g, a, none⟩) l.length cap)) (h0 : l ≠ []) (hcap : l.length ≤ cap) (hsh : w.shape? g = some (5, cells)) (hn : a + l.length ≤ cells) (h63 : l.length ≤ 9223372036854775807)
    (hcell : ∀ j x, l[j]? = some x → w.cell? ((⟨g, a, none⟩ : Addr).add j) = some (.int .u8 x.toNat)) :
    Calls Tryz.prog 97 #[.pointer (some ⟨b, off, none⟩)] w fun e w' => e = .returned (.string ⟨l.toArray⟩) ∧ w' = w.drew.freeze ⟨g, a, none⟩ l.length := by
  have hl0 : l.length ≠ 0 := by simpa using h0
  have c1 : w.drew.cell? ⟨b, off + 1, none⟩ = some (.slice (some ⟨g, a, none⟩) l.length cap) := h1
  have hSD : (Builtin.unsafeSliceData_ #[162] 334 #[.slice (some ⟨g, a, none⟩) l.length cap]).run Tryz.prog w.drew = .ok (.pointer (some ⟨g, a, none⟩)) w.drew :=
    Lib.run_unsafeSliceData_row _ _ _ _ _ _ (by omega)
  have hUS : (Builtin.unsafeString_ #[334, 3] 9 #[.pointer (some ⟨g, a, none⟩), .int .i64 l.length]).run Tryz.prog w.drew = .ok (.string ⟨l.toArray⟩) (w.drew.freeze ⟨g, a, none⟩ l.length) :=
    run_unsafeString_row' w.drew 334 3 9 5 Tryz.underlying334 cells5 g a cells hsh l h0 hn h63 hcell
  clear h0 hcap hsh hn h63 hcell hl0 h1
  have mx := mixed
  go_enter Tryz.func97, Tryz.ntmps97
  go_wp2
  go_region_o
  all_goals (go_wp2; go_ret; exact ⟨rfl, rfl⟩)
set_option maxHeartbeats 1000000 in
set_option maxRecDepth 100000 in
theorem str_nil (b off : Nat) (w : World) (h1 : w.cell? ⟨b, off + 1, none⟩ = some (.slice none 0 0)) :
    Calls Tryz.prog 97 #[.pointer (some ⟨b, off, none⟩)] w fun e w' => e = .returned (.string ⟨#[]⟩) ∧ w' = w.drew := by
  have c1 : w.drew.cell? ⟨b, off + 1, none⟩ = some (.slice none 0 0) := h1
  have hSD : (Builtin.unsafeSliceData_ #[162] 334 #[.slice none 0 0]).run Tryz.prog w.drew = .ok (.pointer none) w.drew := rfl
  have hUS : (Builtin.unsafeString_ #[334, 3] 9 #[.pointer none, .int .i64 0]).run Tryz.prog w.drew = .ok (.string .empty) w.drew := Lib.run_unsafeString_none _ _ _ _ _
  clear h1
  have mx := mixed
  go_enter Tryz.func97, Tryz.ntmps97
  go_wp2
  go_region_o
  all_goals (go_wp2; go_ret; exact ⟨rfl, rfl⟩)
end Go.Proofs
