/-
  Inst: part of the proof.
-/
import Derived.Test.YtinmkngdaaljbaaGreatDoorProg
import Derived.Test.YtinmkngdaaljbaaGreatDoorEvPrim
import Derived.KernelRfl
namespace Go.Proofs.Inst
open Go Go.Ev

/-- The functions that the run comes to; which temporaries live across regions. -/
noncomputable def tab : List (Nat × Func × Nat) := [
  (3, Tryz.f3, 2120349),
  (4, Tryz.f4, 32095),
  (5, Tryz.f5, 2147483663),
  (6, Tryz.f6, 2099),
  (7, Tryz.f7, 33570877),
  (8, Tryz.f8, 4109),
  (9, Tryz.f9, 1),
  (10, Tryz.f10, 83),
  (11, Tryz.f11, 21),
  (12, Tryz.f12, 349),
  (13, Tryz.f13, 1),
  (14, Tryz.f14, 2203318224115),
  (15, Tryz.f15, 65777),
  (16, Tryz.f16, 4194545),
  (17, Tryz.f17, 51),
  (18, Tryz.f18, 369),
  (19, Tryz.f19, 243),
  (20, Tryz.f20, 32861),
  (21, Tryz.f21, 1237940039285945426024859517),
  (22, Tryz.f22, 528447),
  (23, Tryz.f23, 9345865646579),
  (24, Tryz.f24, 1048703),
  (25, Tryz.f25, 285),
  (26, Tryz.f26, 5),
  (27, Tryz.f27, 1267),
  (28, Tryz.f28, 115),
  (32, Tryz.f32, 524415),
  (33, Tryz.f33, 66383),
  (35, Tryz.f35, 1099780080123),
  (37, Tryz.f37, 55),
  (38, Tryz.f38, 162259281668460724808155482032127),
  (39, Tryz.f39, 31),
  (40, Tryz.f40, 117445107),
  (41, Tryz.f41, 5),
  (42, Tryz.f42, 8307),
  (43, Tryz.f43, 477),
  (44, Tryz.f44, 21),
  (47, Tryz.f47, 40142420956197326686207),
  (48, Tryz.f48, 55),
  (53, Tryz.f53, 7853),
  (61, Tryz.f61, 199),
  (62, Tryz.f62, 29),
  (63, Tryz.f63, 51),
  (64, Tryz.f64, 995),
  (84, Tryz.f84, 5),
  (122, Tryz.f122, 13),
  (123, Tryz.f123, 7),
  (172, Tryz.f172, 5),
  (173, Tryz.f173, 5),
  (174, Tryz.f174, 8363),
  (228, Tryz.f228, 247),
  (229, Tryz.f229, 10384593871817177683247510831234831),
  (230, Tryz.f230, 5),
  (296, Tryz.f296, 1073746119),
  (306, Tryz.f306, 16661),
  (367, Tryz.f367, 7),
  (368, Tryz.f368, 5)
 ]
/-- Reads that are tried ahead of what happens, and behind it. -/
noncomputable def frees : List (Nat × List (Nat × List (Nat × Nat))) := [
  (23, [(12, [(3, 1)])]),
  (35, [(9, [(3, 5)]), (11, [(3, 7), (5, 7), (5, 9)])]),
  (38, [(20, [(3, 7), (5, 7), (5, 9)])]),
  (47, [(7, [(3, 5)]), (13, [(3, 5)])])
 ]
noncomputable def free (f r : Nat) : List (Nat × Nat) := match Ev.look frees f with
  | some l => match Ev.look l r with
    | some x => x
    | none => []
  | none => []
noncomputable def fcOf (x : Func × Nat) : Option FC := match x.1.body with
  | some b => some { results := x.1.results.toList, body := b, drop := false, live := x.2, ntmps := x.1.ntmps }
  | none => none
noncomputable def code (f : FuncId) : Option FC := match Ev.look tab f with
  | some x => fcOf x
  | none => none
noncomputable def one (t : TypeId) : Bool := Nat.beq t 164 || Nat.beq t 166 || Nat.beq t 417
noncomputable def G : Info where
  tt := tiOf Tryz.prog (flatFn Tryz.prog)
  code := code
  prim := primOf Tryz.prog 98 97 164 5 one
  meth := methOf Tryz.prog
  frz := fun _ _ _ => false
  free := free
  glob := fun _ => none
  one := one
theorem G_tt : G.tt = tiOf Tryz.prog (flatFn Tryz.prog) := by kernel_rfl
theorem G_meth : G.meth = methOf Tryz.prog := by kernel_rfl
theorem G_prim : G.prim = primOf Tryz.prog 98 97 164 5 G.one := by kernel_rfl
theorem TT : TTOk Tryz.prog G.tt := by rw [G_tt]; exact tiOf_ok Tryz.prog (flatFn Tryz.prog)
theorem told : Ev.Told Tryz.prog G := ⟨TT, flatFn_ok Tryz.prog G_tt, methOf_ok TT G_meth (Nat.add_pos_right _ (by decide))⟩
theorem mixed : Tryz.prog.follows .mixedOrders = true := by kernel_rfl
/-- A function's part. -/
structure Part (f : Nat) (fn : Func) (live : Nat) : Prop where
  at_ : Tryz.prog.funcs[f]? = some fn
  name : (fn.name == "runtime.NumGoroutine") = false
  ok : (match fn.body with
    | some b => codeOk G f fn.ntmps b
    | none => true) = true
theorem Part.fnOk {f : Nat} {fn : Func} {l : Nat} (h : Part f fn l) {fc : FC} (e : fcOf (fn, l) = some fc) : FnOk Tryz.prog G f fc := by
  unfold fcOf at e
  have hok := h.ok
  split at e
  · rename_i b hb
    cases e
    have hb' : fn.body = some b := hb
    rw [hb'] at hok
    exact ⟨⟨fn, h.at_, hb, rfl, rfl⟩, enters_of h.at_ (by rw [hb']; rfl) h.name, hok⟩
  · cases e
def Parts : List (Nat × Func × Nat) → Prop
  | [] => True
  | (f, fn, l) :: r => Part f fn l ∧ Parts r
theorem look_part : ∀ {t : List (Nat × Func × Nat)}, Parts t → ∀ {f : Nat} {x : Func × Nat}, Ev.look t f = some x → Part f x.1 x.2
  | [], _, f, x, h => by cases h
  | (k, fn, l) :: r, hp, f, x, h => by
    rw [look_cons] at h
    split at h
    · rename_i e; subst e; cases h; exact hp.1
    · exact look_part hp.2 h
theorem part3 : Part 3 Tryz.f3 2120349 := ⟨Tryz.func3, by kernel_rfl, by kernel_rfl⟩
theorem part4 : Part 4 Tryz.f4 32095 := ⟨Tryz.func4, by kernel_rfl, by kernel_rfl⟩
theorem part5 : Part 5 Tryz.f5 2147483663 := ⟨Tryz.func5, by kernel_rfl, by kernel_rfl⟩
theorem part6 : Part 6 Tryz.f6 2099 := ⟨Tryz.func6, by kernel_rfl, by kernel_rfl⟩
theorem part7 : Part 7 Tryz.f7 33570877 := ⟨Tryz.func7, by kernel_rfl, by kernel_rfl⟩
theorem part8 : Part 8 Tryz.f8 4109 := ⟨Tryz.func8, by kernel_rfl, by kernel_rfl⟩
theorem part9 : Part 9 Tryz.f9 1 := ⟨Tryz.func9, by kernel_rfl, by kernel_rfl⟩
theorem part10 : Part 10 Tryz.f10 83 := ⟨Tryz.func10, by kernel_rfl, by kernel_rfl⟩
theorem part11 : Part 11 Tryz.f11 21 := ⟨Tryz.func11, by kernel_rfl, by kernel_rfl⟩
theorem part12 : Part 12 Tryz.f12 349 := ⟨Tryz.func12, by kernel_rfl, by kernel_rfl⟩
theorem part13 : Part 13 Tryz.f13 1 := ⟨Tryz.func13, by kernel_rfl, by kernel_rfl⟩
theorem part14 : Part 14 Tryz.f14 2203318224115 := ⟨Tryz.func14, by kernel_rfl, by kernel_rfl⟩
theorem part15 : Part 15 Tryz.f15 65777 := ⟨Tryz.func15, by kernel_rfl, by kernel_rfl⟩
theorem part16 : Part 16 Tryz.f16 4194545 := ⟨Tryz.func16, by kernel_rfl, by kernel_rfl⟩
theorem part17 : Part 17 Tryz.f17 51 := ⟨Tryz.func17, by kernel_rfl, by kernel_rfl⟩
theorem part18 : Part 18 Tryz.f18 369 := ⟨Tryz.func18, by kernel_rfl, by kernel_rfl⟩
theorem part19 : Part 19 Tryz.f19 243 := ⟨Tryz.func19, by kernel_rfl, by kernel_rfl⟩
theorem part20 : Part 20 Tryz.f20 32861 := ⟨Tryz.func20, by kernel_rfl, by kernel_rfl⟩
theorem part21 : Part 21 Tryz.f21 1237940039285945426024859517 := ⟨Tryz.func21, by kernel_rfl, by kernel_rfl⟩
theorem part22 : Part 22 Tryz.f22 528447 := ⟨Tryz.func22, by kernel_rfl, by kernel_rfl⟩
theorem part23 : Part 23 Tryz.f23 9345865646579 := ⟨Tryz.func23, by kernel_rfl, by kernel_rfl⟩
theorem part24 : Part 24 Tryz.f24 1048703 := ⟨Tryz.func24, by kernel_rfl, by kernel_rfl⟩
theorem part25 : Part 25 Tryz.f25 285 := ⟨Tryz.func25, by kernel_rfl, by kernel_rfl⟩
theorem part26 : Part 26 Tryz.f26 5 := ⟨Tryz.func26, by kernel_rfl, by kernel_rfl⟩
theorem part27 : Part 27 Tryz.f27 1267 := ⟨Tryz.func27, by kernel_rfl, by kernel_rfl⟩
theorem part28 : Part 28 Tryz.f28 115 := ⟨Tryz.func28, by kernel_rfl, by kernel_rfl⟩
theorem part32 : Part 32 Tryz.f32 524415 := ⟨Tryz.func32, by kernel_rfl, by kernel_rfl⟩
theorem part33 : Part 33 Tryz.f33 66383 := ⟨Tryz.func33, by kernel_rfl, by kernel_rfl⟩
theorem part35 : Part 35 Tryz.f35 1099780080123 := ⟨Tryz.func35, by kernel_rfl, by kernel_rfl⟩
theorem part37 : Part 37 Tryz.f37 55 := ⟨Tryz.func37, by kernel_rfl, by kernel_rfl⟩
theorem part38 : Part 38 Tryz.f38 162259281668460724808155482032127 := ⟨Tryz.func38, by kernel_rfl, by kernel_rfl⟩
theorem part39 : Part 39 Tryz.f39 31 := ⟨Tryz.func39, by kernel_rfl, by kernel_rfl⟩
theorem part40 : Part 40 Tryz.f40 117445107 := ⟨Tryz.func40, by kernel_rfl, by kernel_rfl⟩
theorem part41 : Part 41 Tryz.f41 5 := ⟨Tryz.func41, by kernel_rfl, by kernel_rfl⟩
theorem part42 : Part 42 Tryz.f42 8307 := ⟨Tryz.func42, by kernel_rfl, by kernel_rfl⟩
theorem part43 : Part 43 Tryz.f43 477 := ⟨Tryz.func43, by kernel_rfl, by kernel_rfl⟩
theorem part44 : Part 44 Tryz.f44 21 := ⟨Tryz.func44, by kernel_rfl, by kernel_rfl⟩
theorem part47 : Part 47 Tryz.f47 40142420956197326686207 := ⟨Tryz.func47, by kernel_rfl, by kernel_rfl⟩
theorem part48 : Part 48 Tryz.f48 55 := ⟨Tryz.func48, by kernel_rfl, by kernel_rfl⟩
theorem part53 : Part 53 Tryz.f53 7853 := ⟨Tryz.func53, by kernel_rfl, by kernel_rfl⟩
theorem part61 : Part 61 Tryz.f61 199 := ⟨Tryz.func61, by kernel_rfl, by kernel_rfl⟩
theorem part62 : Part 62 Tryz.f62 29 := ⟨Tryz.func62, by kernel_rfl, by kernel_rfl⟩
theorem part63 : Part 63 Tryz.f63 51 := ⟨Tryz.func63, by kernel_rfl, by kernel_rfl⟩
theorem part64 : Part 64 Tryz.f64 995 := ⟨Tryz.func64, by kernel_rfl, by kernel_rfl⟩
theorem part84 : Part 84 Tryz.f84 5 := ⟨Tryz.func84, by kernel_rfl, by kernel_rfl⟩
theorem part122 : Part 122 Tryz.f122 13 := ⟨Tryz.func122, by kernel_rfl, by kernel_rfl⟩
theorem part123 : Part 123 Tryz.f123 7 := ⟨Tryz.func123, by kernel_rfl, by kernel_rfl⟩
theorem part172 : Part 172 Tryz.f172 5 := ⟨Tryz.func172, by kernel_rfl, by kernel_rfl⟩
theorem part173 : Part 173 Tryz.f173 5 := ⟨Tryz.func173, by kernel_rfl, by kernel_rfl⟩
theorem part174 : Part 174 Tryz.f174 8363 := ⟨Tryz.func174, by kernel_rfl, by kernel_rfl⟩
theorem part228 : Part 228 Tryz.f228 247 := ⟨Tryz.func228, by kernel_rfl, by kernel_rfl⟩
theorem part229 : Part 229 Tryz.f229 10384593871817177683247510831234831 := ⟨Tryz.func229, by kernel_rfl, by kernel_rfl⟩
theorem part230 : Part 230 Tryz.f230 5 := ⟨Tryz.func230, by kernel_rfl, by kernel_rfl⟩
theorem part296 : Part 296 Tryz.f296 1073746119 := ⟨Tryz.func296, by kernel_rfl, by kernel_rfl⟩
theorem part306 : Part 306 Tryz.f306 16661 := ⟨Tryz.func306, by kernel_rfl, by kernel_rfl⟩
theorem part367 : Part 367 Tryz.f367 7 := ⟨Tryz.func367, by kernel_rfl, by kernel_rfl⟩
theorem part368 : Part 368 Tryz.f368 5 := ⟨Tryz.func368, by kernel_rfl, by kernel_rfl⟩
theorem parts : Parts tab := ⟨part3, part4, part5, part6, part7, part8, part9, part10, part11, part12, part13, part14, part15, part16, part17, part18, part19, part20, part21, part22, part23, part24, part25, part26, part27, part28, part32, part33, part35, part37, part38, part39, part40, part41, part42, part43, part44, part47, part48, part53, part61, part62, part63, part64, part84, part122, part123, part172, part173, part174, part228, part229, part230, part296, part306, part367, part368, trivial⟩
theorem codes : CodesOk Tryz.prog G := by
  intro f fc h
  have h' : code f = some fc := h
  unfold code at h'
  split at h'
  · rename_i x hx
    exact (look_part parts hx).fnOk h'
  · cases h'

end Go.Proofs.Inst
