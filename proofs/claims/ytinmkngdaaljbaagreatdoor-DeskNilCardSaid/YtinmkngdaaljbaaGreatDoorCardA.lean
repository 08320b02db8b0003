/-
  DeskNil: the contract, for every piece.
-/
import Derived.Test.YtinmkngdaaljbaaGreatDoorCards
import Derived.Test.YtinmkngdaaljbaaGreatDoorTie
import Derived.Test.YtinmkngdaaljbaaGreatDoorDN
import Derived.Test.YtinmkngdaaljbaaGreatDoorW0
import Derived.Test.YtinmkngdaaljbaaGreatDoorEvTop
import Derived.WalkKit
import Derived.ProofKit
import Derived.OpenShut
import Derived.Deep.DeepHandedRow
import Derived.ChangeMaps5
namespace Go.Proofs.YtinmkngdaaljbaaGreatDoor.deskNil
open Go.ChangeShapes Go.WideShapes Go.ChangeAt Go.RowKit Go.ChangeMaps

theorem own : ownKnob Tryz.prog.godebug = none := by kernel_rfl
theorem enters97 : Ev.Enters Tryz.prog 97 := Ev.enters_of Tryz.func97 (by kernel_rfl) (by kernel_rfl)
theorem enters98 : Ev.Enters Tryz.prog 98 := Ev.enters_of Tryz.func98 (by kernel_rfl) (by kernel_rfl)
theorem builder : Ev.BuilderOk Tryz.prog 98 97 164 5 := ⟨enters98, enters97, cells5, cc_fresh, cc_used, str_row, str_nil⟩
theorem prims : Ev.PrimsOk Tryz.prog Inst.G := Ev.primOf_ok builder Inst.G_prim
theorem walk (s : ByteArray) (w : World) : Calls Tryz.prog 3 #[.string s] w fun e w' => e = .returned (.bool true) ∧ Ev.Kept w w' := by
  obtain ⟨σ, h⟩ := Inst.run s.data.toList
  refine (Ev.run_calls Inst.told Inst.mixed Inst.codes prims h (w := w) (frz := fun _ _ => none) (fun _ _ _ e => by cases e) (fun _ _ e => by cases e) (us := [.string s]) (.cons (.str s) .nil)).mono ?_
  rintro e w' ⟨u, rfl, ⟨K', hv⟩, hk⟩
  cases hv
  exact ⟨rfl, hk⟩

set_option maxRecDepth 100000 in
theorem contract (H : Type) (enc : TypeId × Value → H) (W : World) (base : Nat) (args : Array Value) (ds gs : List (DataW H)) (before : List MemPlace)
    (hval : ∀ (j : Nat) t v, Tryz.f3.params[j]? = some t → args[j]? = some v → Value.okWide Tryz.prog W .any base t v)
    (hW : DataW.Whole enc Tryz.prog Tryz.f3.params.toList Rows.deskNilSpec.vars false W args.toList ds gs before) :
    Calls Tryz.prog 3 args W fun e W' => ∃ v, e = .returned v ∧ Rows.deskNilSpec.post enc Tryz.prog Tryz.f3 false true false false W args v W' := by
  have hW' := hW
  obtain ⟨p, q, hA0, hV, rfl, hfz, hnd⟩ := hW
  have hA : DataW.TrodAll enc Tryz.prog W 0 (fun _ => true) true Tryz.f3.params.toList args.toList ds p := hA0
  rw [Tryz.params3] at hA hval
  obtain ⟨v0, vs0, d0, ds0, p0, q0, hargs, rfl, rfl, h0, r0⟩ := trodAll_cons hA
  obtain ⟨rfl, rfl, rfl⟩ := trodAll_nil r0
  obtain rfl : args = #[v0] := by cases args; simp_all
  obtain ⟨rfl, rfl⟩ := trodVars_none hV
  obtain ⟨s, rfl, rfl, rfl, ws⟩ := open_string Tryz.underlying9 (hval 0 9 v0 rfl rfl) h0
  clear hA0
  simp only [List.append_nil] at hW'
  refine (walk s W).mono fun e W' ⟨he, hg⟩ => ?_
  subst he
  exact ⟨_, rfl, Ev.post_kept (pa := []) (pv := []) hW' (fun _ _ _ => trodAll_cons_mk (shut_bool Tryz.underlying4 _) trodAll_mk0) (fun _ _ => trodAll_cons_mk (shut_string Tryz.underlying9 ws) trodAll_mk0) (fun _ _ => rfl) rfl
    hg (ok_one (by kernel_rfl) rfl (okWide_bool_mk Tryz.underlying4 _))⟩

end Go.Proofs.YtinmkngdaaljbaaGreatDoor.deskNil
