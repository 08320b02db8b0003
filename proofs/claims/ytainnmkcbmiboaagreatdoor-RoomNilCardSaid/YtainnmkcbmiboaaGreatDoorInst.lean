/-
  Inst: part of the proof.
-/
import Derived.Test.YtainnmkcbmiboaaGreatDoorProg
import Derived.Test.YtainnmkcbmiboaaGreatDoorEvPrim
import Derived.KernelRfl
namespace Go.Proofs.Inst
open Go Go.Ev

/-- The functions that the run comes to; which temporaries live across regions. -/
noncomputable def tab : List (Nat × Func × Nat) := [
  (3, Tryz.f3, 147551),
  (4, Tryz.f4, 991),
  (5, Tryz.f5, 7),
  (6, Tryz.f6, 1048627),
  (7, Tryz.f7, 17213555131),
  (8, Tryz.f8, 57437),
  (9, Tryz.f9, 21),
  (10, Tryz.f10, 21),
  (11, Tryz.f11, 4159),
  (12, Tryz.f12, 4339),
  (13, Tryz.f13, 16467),
  (14, Tryz.f14, 67116123),
  (15, Tryz.f15, 67240903),
  (16, Tryz.f16, 1152921504607375347),
  (19, Tryz.f19, 2147483663),
  (20, Tryz.f20, 19),
  (21, Tryz.f21, 1),
  (22, Tryz.f22, 2163),
  (28, Tryz.f28, 1)
 ]
/-- Reads that are tried ahead of what happens, and behind it. -/
noncomputable def frees : List (Nat × List (Nat × List (Nat × Nat))) := [
  (12, [(5, [(3, 5), (4, 5)])]),
  (16, [(11, [(4, 6)])])
 ]
noncomputable def free (f r : Nat) : List (Nat × Nat) := match Ev.look frees f with
  | some l => match Ev.look l r with
    | some x => x
    | none => []
  | none => []
noncomputable def fcOf (x : Func × Nat) : Option FC := match x.1.body with
  | some b => some { results := x.1.results.toList, body := b, drop := false, live := x.2, ntmps := x.1.ntmps }
  | none => none
noncomputable def code (f : FuncId) : Option FC := match Ev.look tab f with
  | some x => fcOf x
  | none => none
noncomputable def one (_ : TypeId) : Bool := false
noncomputable def G : Info where
  tt := tiOf Tryz.prog (flatFn Tryz.prog)
  code := code
  prim := fun _ => none
  meth := methOf Tryz.prog
  frz := fun _ _ _ => false
  free := free
  glob := fun _ => none
  one := one
theorem G_tt : G.tt = tiOf Tryz.prog (flatFn Tryz.prog) := by kernel_rfl
theorem G_meth : G.meth = methOf Tryz.prog := by kernel_rfl
theorem prims : PrimsOk Tryz.prog G := fun _ _ h => by cases h
theorem TT : TTOk Tryz.prog G.tt := by rw [G_tt]; exact tiOf_ok Tryz.prog (flatFn Tryz.prog)
theorem told : Ev.Told Tryz.prog G := ⟨TT, flatFn_ok Tryz.prog G_tt, methOf_ok TT G_meth (Nat.add_pos_right _ (by decide))⟩
theorem mixed : Tryz.prog.follows .mixedOrders = true := by kernel_rfl
/-- A function's part. -/
structure Part (f : Nat) (fn : Func) (live : Nat) : Prop where
  at_ : Tryz.prog.funcs[f]? = some fn
  name : (fn.name == "runtime.NumGoroutine") = false
  ok : (match fn.body with
    | some b => codeOk G f fn.ntmps b
    | none => true) = true
theorem Part.fnOk {f : Nat} {fn : Func} {l : Nat} (h : Part f fn l) {fc : FC} (e : fcOf (fn, l) = some fc) : FnOk Tryz.prog G f fc := by
  unfold fcOf at e
  have hok := h.ok
  split at e
  · rename_i b hb
    cases e
    have hb' : fn.body = some b := hb
    rw [hb'] at hok
    exact ⟨⟨fn, h.at_, hb, rfl, rfl⟩, enters_of h.at_ (by rw [hb']; rfl) h.name, hok⟩
  · cases e
def Parts : List (Nat × Func × Nat) → Prop
  | [] => True
  | (f, fn, l) :: r => Part f fn l ∧ Parts r
theorem look_part : ∀ {t : List (Nat × Func × Nat)}, Parts t → ∀ {f : Nat} {x : Func × Nat}, Ev.look t f = some x → Part f x.1 x.2
  | [], _, f, x, h => by cases h
  | (k, fn, l) :: r, hp, f, x, h => by
    rw [look_cons] at h
    split at h
    · rename_i e; subst e; cases h; exact hp.1
    · exact look_part hp.2 h
theorem part3 : Part 3 Tryz.f3 147551 := ⟨Tryz.func3, by kernel_rfl, by kernel_rfl⟩
theorem part4 : Part 4 Tryz.f4 991 := ⟨Tryz.func4, by kernel_rfl, by kernel_rfl⟩
theorem part5 : Part 5 Tryz.f5 7 := ⟨Tryz.func5, by kernel_rfl, by kernel_rfl⟩
theorem part6 : Part 6 Tryz.f6 1048627 := ⟨Tryz.func6, by kernel_rfl, by kernel_rfl⟩
theorem part7 : Part 7 Tryz.f7 17213555131 := ⟨Tryz.func7, by kernel_rfl, by kernel_rfl⟩
theorem part8 : Part 8 Tryz.f8 57437 := ⟨Tryz.func8, by kernel_rfl, by kernel_rfl⟩
theorem part9 : Part 9 Tryz.f9 21 := ⟨Tryz.func9, by kernel_rfl, by kernel_rfl⟩
theorem part10 : Part 10 Tryz.f10 21 := ⟨Tryz.func10, by kernel_rfl, by kernel_rfl⟩
theorem part11 : Part 11 Tryz.f11 4159 := ⟨Tryz.func11, by kernel_rfl, by kernel_rfl⟩
theorem part12 : Part 12 Tryz.f12 4339 := ⟨Tryz.func12, by kernel_rfl, by kernel_rfl⟩
theorem part13 : Part 13 Tryz.f13 16467 := ⟨Tryz.func13, by kernel_rfl, by kernel_rfl⟩
theorem part14 : Part 14 Tryz.f14 67116123 := ⟨Tryz.func14, by kernel_rfl, by kernel_rfl⟩
theorem part15 : Part 15 Tryz.f15 67240903 := ⟨Tryz.func15, by kernel_rfl, by kernel_rfl⟩
theorem part16 : Part 16 Tryz.f16 1152921504607375347 := ⟨Tryz.func16, by kernel_rfl, by kernel_rfl⟩
theorem part19 : Part 19 Tryz.f19 2147483663 := ⟨Tryz.func19, by kernel_rfl, by kernel_rfl⟩
theorem part20 : Part 20 Tryz.f20 19 := ⟨Tryz.func20, by kernel_rfl, by kernel_rfl⟩
theorem part21 : Part 21 Tryz.f21 1 := ⟨Tryz.func21, by kernel_rfl, by kernel_rfl⟩
theorem part22 : Part 22 Tryz.f22 2163 := ⟨Tryz.func22, by kernel_rfl, by kernel_rfl⟩
theorem part28 : Part 28 Tryz.f28 1 := ⟨Tryz.func28, by kernel_rfl, by kernel_rfl⟩
theorem parts : Parts tab := ⟨part3, part4, part5, part6, part7, part8, part9, part10, part11, part12, part13, part14, part15, part16, part19, part20, part21, part22, part28, trivial⟩
theorem codes : CodesOk Tryz.prog G := by
  intro f fc h
  have h' : code f = some fc := h
  unfold code at h'
  split at h'
  · rename_i x hx
    exact (look_part parts hx).fnOk h'
  · cases h'

end Go.Proofs.Inst
