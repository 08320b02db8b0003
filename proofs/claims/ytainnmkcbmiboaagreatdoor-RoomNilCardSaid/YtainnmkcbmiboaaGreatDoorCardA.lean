/-
  RoomNil: the contract, for every piece.
-/
import Derived.Test.YtainnmkcbmiboaaGreatDoorCards
import Derived.Test.YtainnmkcbmiboaaGreatDoorTie
import Derived.Test.YtainnmkcbmiboaaGreatDoorDN
import Derived.Test.YtainnmkcbmiboaaGreatDoorEvTop
import Derived.WalkKit
import Derived.ProofKit
import Derived.OpenShut
import Derived.Deep.DeepHandedRow
import Derived.ChangeMaps5
import Derived.Lib.SmallJoins
namespace Go.Proofs.YtainnmkcbmiboaaGreatDoor.roomNil
open Go.ChangeShapes Go.WideShapes Go.ChangeAt Go.RowKit Go.ChangeMaps

theorem own : ownKnob Tryz.prog.godebug = none := by kernel_rfl
theorem walk (k p : Int) (s : ByteArray) (w : World) : Calls Tryz.prog 3 #[.agg #[.int .i64 k, .int .i64 p, .string s]] w fun e w' => e = .returned (.bool true) ∧ Ev.Kept w w' := by
  obtain ⟨σ, h⟩ := Inst.run k p s.data.toList
  refine (Ev.run_calls Inst.told Inst.mixed Inst.codes Inst.prims h (w := w) (frz := fun _ _ => none) (fun _ _ _ e => by cases e) (fun _ _ e => by cases e) (us := [.agg #[.int .i64 k, .int .i64 p, .string s]]) (.cons (.agg' (.cons (.int _ _) (.cons (.int _ _) (.cons (.str s) .nil)))) .nil)).mono ?_
  rintro e w' ⟨u, rfl, ⟨K', hv⟩, hk⟩
  cases hv
  exact ⟨rfl, hk⟩

set_option maxRecDepth 100000 in
theorem contract (H : Type) (enc : TypeId × Value → H) (W : World) (base : Nat) (args : Array Value) (ds gs : List (DataW H)) (before : List MemPlace)
    (hval : ∀ (j : Nat) t v, Tryz.f3.params[j]? = some t → args[j]? = some v → Value.okWide Tryz.prog W .any base t v)
    (hW : DataW.Whole enc Tryz.prog Tryz.f3.params.toList Rows.roomNilSpec.vars false W args.toList ds gs before) :
    Calls Tryz.prog 3 args W fun e W' => ∃ v, e = .returned v ∧ Rows.roomNilSpec.post enc Tryz.prog Tryz.f3 false true false false W args v W' := by
  have hW' := hW
  obtain ⟨p, q, hA0, hV, rfl, hfz, hnd⟩ := hW
  have hA : DataW.TrodAll enc Tryz.prog W 0 (fun _ => true) true Tryz.f3.params.toList args.toList ds p := hA0
  rw [Tryz.params3] at hA hval
  obtain ⟨v0, vs0, d0, ds0, p0, q0, hargs, rfl, rfl, h0, r0⟩ := trodAll_cons hA
  obtain ⟨rfl, rfl, rfl⟩ := trodAll_nil r0
  obtain rfl : args = #[v0] := by cases args; simp_all
  obtain ⟨rfl, rfl⟩ := trodVars_none hV
  obtain ⟨v0, v1, v2, y0, y1, y2, n, rfl, rfl, rfl, h0', h1', h2'⟩ := Joins.open_agg3 Tryz.underlying23 (by kernel_rfl) (by kernel_rfl) (hval 0 23 v0 rfl rfl) h0
  obtain ⟨k, e0, rfl, w0⟩ := DataW.trod_int Tryz.underlying3 h0'
  obtain ⟨q, e1, rfl, w1⟩ := DataW.trod_int Tryz.underlying3 h1'
  obtain ⟨s, e2, rfl, ws⟩ := DataW.trod_string Tryz.underlying9 h2'
  cases e0; cases e1; cases e2
  clear hA0
  simp only [List.append_nil] at hW'
  refine (walk k q s W).mono fun e W' ⟨he, hg⟩ => ?_
  subst he
  exact ⟨_, rfl, Ev.post_kept (pa := []) (pv := []) hW' (fun _ _ _ => trodAll_cons_mk (shut_bool Tryz.underlying4 _) trodAll_mk0) (fun _ _ => trodAll_cons_mk (Joins.shut_agg3 (y0 := (.lit (.int .i64 k), [])) (y1 := (.lit (.int .i64 q), [])) (y2 := (.lit (.string s.data.toList), [])) Tryz.underlying23 (by kernel_rfl) (by kernel_rfl) ⟨1, trod_int_mk 0 Tryz.underlying3 w0⟩ ⟨1, trod_int_mk 0 Tryz.underlying3 w1⟩ (shut_string Tryz.underlying9 ws)) trodAll_mk0) (fun _ _ => rfl) rfl
    hg (ok_one (by kernel_rfl) rfl (okWide_bool_mk Tryz.underlying4 _))⟩

end Go.Proofs.YtainnmkcbmiboaaGreatDoor.roomNil
