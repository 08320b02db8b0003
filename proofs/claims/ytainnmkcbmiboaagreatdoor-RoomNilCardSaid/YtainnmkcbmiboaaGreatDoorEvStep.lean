/-
  Ev: one operation, whatever it is.
-/
import Derived.Test.YtainnmkcbmiboaaGreatDoorEvIter
namespace Go.Ev
open Go
variable {P : Program} {K : Kr} {G : Info} {σ σ' : Store} {w : World}

/-- No fence, but for the loop whose round runs. -/
def fence (ro : Option Nat) : Fence := { fn := fun _ => True, depth := none, alive := false, round := ro }
theorem fence_none : fence none = Fence.wide := rfl

/-- How a call ends. -/
def Ends (P : Program) (K : Kr) (σ : Store) (w : World) (r : OR) (σ' : Store) (e : Ending) (w' : World) : Prop :=
  ∃ K' u, Stp P (fun _ => False) K σ w K' σ' w' ∧ match r with
    | .val v => e = .returned u ∧ VR K' v u
    | .pan v => e = .panicked [{ v := u, recovered := false }] ∧ VR K' v u
/-- The function is entered when it is called. -/
def Enters (P : Program) (f : FuncId) : Prop := ∀ us w, (callFunc f us).run P w = .ok (.enter f us) w
/-- What the oracle says of a call, the machine does. -/
def OracleOk (P : Program) (G : Info) (C : Oracle) : Prop := ∀ f args σ r σ', C f args σ = some (r, σ') → Enters P f ∧ ∀ (ro : Option Nat) n K w us, StoreRel P K σ w → GlobRel G K → VRL K args us → CallsIn (fence ro) n P f ⟨us⟩ w (Ends P K σ w r σ')
def YielderOk (P : Program) (G : Info) (Y : Yielder) : Prop := ∀ l args σ r σ', Y l args σ = some (r, σ') → ∀ (ro : Option Nat) n K w us L, StoreRel P K σ w → GlobRel G K → VRL K args us → K.loc l = some L →
  ∃ f tmps assign body, (Instr.yield L.blk ⟨us⟩).run P w = .ok (.round L.blk f tmps assign body) w ∧ RoundIn (fence ro) n P L.blk f tmps assign body w (Ends P K σ w r σ')
def MethOk (P : Program) (G : Info) : Prop := ∀ t v name f r, methodOf G t v name = some (f, r) → ∀ (K : Kr) w u, VR K v u → ∃ ur, (method (P.types.size + Made.depth) t u name).run P w = .ok (f, ur) w ∧ VR K r ur

/-- What is known of the program. -/
structure Told (P : Program) (G : Info) : Prop where
  tt : TTOk P G.tt
  flat : FlatOk P G
  meth : MethOk P G

section
variable {C : Oracle} {Y : Yielder} {ro : Option Nat} {n : Nat} {o : Oper} {a : Act} {next : Act → World → Prop} {Q : Exit → Act → World → Prop}

theorem about_any (o : Oper) (ρ : Operand → Value) : ∀ f, o.about P w ρ = some f → (fence ro).fn f := fun _ _ => trivial
theorem wpIn_value {u : Value} {w' : World} (hd : ∀ c, o.op ≠ .defer c) (he : (execOp a.eval o).run P w = .ok (.value u) w') (h : next (a.put o.dst u) w') : o.wpIn (fence ro) n P a w next Q :=
  ⟨about_any o _, by rw [Oper.semAt_eq _ _ _ hd, he]; exact h⟩
theorem wpIn_skip {w' : World} (hd : ∀ c, o.op ≠ .defer c) (he : (execOp a.eval o).run P w = .ok .skip w') (h : next (a.put o.dst undef) w') : o.wpIn (fence ro) n P a w next Q :=
  ⟨about_any o _, by rw [Oper.semAt_eq _ _ _ hd, he]; exact h⟩
theorem wpIn_does {ex : Nat → Prop} {s : Sem Value} {v : AV} (hd : ∀ c, o.op ≠ .defer c) (he : execOp a.eval o = (do pure (.value (← s)))) (hs : Does P ex K σ w s v σ')
    (h : ∀ K' w' u, Stp P ex K σ w K' σ' w' → VR K' v u → next (a.put o.dst u) w') : o.wpIn (fence ro) n P a w next Q := by
  obtain ⟨u, w', K', h1, h2, h3⟩ := hs
  exact wpIn_value (u := u) (w' := w') hd (by rw [he]; simp [h1]) (h K' w' u h3 h2)
theorem wpIn_doesU {ex : Nat → Prop} {s : Sem Unit} (hd : ∀ c, o.op ≠ .defer c) (he : execOp a.eval o = (do s; pure .skip)) (hs : ∃ w', s.run P w = .ok () w' ∧ Stp P ex K σ w K σ' w')
    (h : ∀ K' w' u, Stp P ex K σ w K' σ' w' → VR K' noRes u → next (a.put o.dst u) w') : o.wpIn (fence ro) n P a w next Q := by
  obtain ⟨w', h1, h3⟩ := hs
  exact wpIn_skip hd (by rw [he]; simp [h1]) (h K w' undef h3 (VR.tup' .nil))
theorem Does.weaken {ex ex' : Nat → Prop} {s : Sem Value} {v : AV} (h : Does P ex K σ w s v σ') (hx : ∀ o, ex o → ex' o) : Does P ex' K σ w s v σ' :=
  let ⟨u, w', K', a, b, c⟩ := h; ⟨u, w', K', a, b, c.weaken fun o _ e => hx o e⟩

theorem Ends.mono_post {r : OR} {ex : Nat → Prop} (hex : ∀ o, False → ex o) (hval : ∀ v, r = .val v → ∀ K' w' u, Stp P ex K σ w K' σ' w' → VR K' v u → next (a.put o.dst u) w')
    (hpan : ∀ v, r = .pan v → ∀ K' w' u, Stp P ex K σ w K' σ' w' → VR K' v u → Q (.panic [{ v := u, recovered := false }]) a w') (e : Ending) (w' : World) (h : Ends P K σ w r σ' e w') :
    (match e with
      | .returned v => fun w'' => next (a.put o.dst v) w''
      | .panicked chain => fun w'' => Q (.panic chain) a w''
      | .outgrown => fun _ => LetsOut Q) w' := by
  obtain ⟨K', u, h1, h2⟩ := h
  have h1' := h1.weaken (ex' := ex) fun o _ h => hex o h
  cases r with
  | val v => obtain ⟨rfl, h2⟩ := h2; exact hval v rfl K' w' u h1' h2
  | pan v => obtain ⟨rfl, h2⟩ := h2; exact hpan v rfl K' w' u h1' h2

/-- A call of a function that the oracle knows. -/
theorem wpIn_call {ex : Nat → Prop} {f : FuncId} {args : List AV} {us : List Value} {r : OR} (hC : OracleOk P G C) (hS : StoreRel P K σ w) (hG : GlobRel G K) (hd : ∀ c, o.op ≠ .defer c)
    (hc : C f args σ = some (r, σ')) (hr : VRL K args us) (he : (execOp a.eval o).run P w = (callFunc f ⟨us⟩).run P w)
    (hval : ∀ v, r = .val v → ∀ K' w' u, Stp P ex K σ w K' σ' w' → VR K' v u → next (a.put o.dst u) w')
    (hpan : ∀ v, r = .pan v → ∀ K' w' u, Stp P ex K σ w K' σ' w' → VR K' v u → Q (.panic [{ v := u, recovered := false }]) a w') : o.wpIn (fence ro) n P a w next Q := by
  obtain ⟨h1, h2⟩ := hC f args σ r σ' hc
  refine ⟨about_any o _, ?_⟩
  rw [Oper.semAt_eq _ _ _ hd, he, h1 ⟨us⟩ w, Oper.uponIn_enter]
  refine ⟨fun h => by simp [fence] at h, CallsIn.mono (h2 ro (n - 1) K w us hS hG hr) fun e w' he => ?_⟩
  have := Ends.mono_post (next := next) (Q := Q) (a := a) (o := o) (ex := ex) (fun _ h => h.elim) hval hpan e w' he
  cases e <;> exact this
theorem wpIn_yield {ex : Nat → Prop} {l : Nat} {L : Loc} {args : List AV} {us : List Value} {r : OR} (hY : YielderOk P G Y) (hS : StoreRel P K σ w) (hG : GlobRel G K) (hd : ∀ c, o.op ≠ .defer c)
    (hc : Y l args σ = some (r, σ')) (hL : K.loc l = some L) (hr : VRL K args us) (he : (execOp a.eval o).run P w = (Instr.yield L.blk ⟨us⟩).run P w)
    (hval : ∀ v, r = .val v → ∀ K' w' u, Stp P ex K σ w K' σ' w' → VR K' v u → next (a.put o.dst u) w')
    (hpan : ∀ v, r = .pan v → ∀ K' w' u, Stp P ex K σ w K' σ' w' → VR K' v u → Q (.panic [{ v := u, recovered := false }]) a w') : o.wpIn (fence ro) n P a w next Q := by
  obtain ⟨f, tmps, assign, body, h1, h2⟩ := hY l args σ r σ' hc ro (n - 1) K w us L hS hG hr hL
  refine ⟨about_any o _, ?_⟩
  rw [Oper.semAt_eq _ _ _ hd, he, h1, Oper.uponIn_round]
  refine ⟨fun h => by simp [fence] at h, RoundIn.mono h2 fun e w' he => ?_⟩
  have := Ends.mono_post (next := next) (Q := Q) (a := a) (o := o) (ex := ex) (fun _ h => h.elim) hval hpan e w' he
  cases e <;> exact this
end

/-- operands that may lack -/
theorem BV.of {env : Env} {a : Act} {x : Option Operand} {l : List AV} (hx : ∀ y, x = some y → ∀ v, opd G env y = some v → VR K v (a.eval y)) (h : opds G env x.toList = some l) : BV K l.head? (x.map a.eval) := by
  cases x with
  | none => simp [opds] at h; subst h; exact .non
  | some y =>
    simp only [Option.toList, opds] at h
    split at h
    · rename_i v l' h1 h2
      cases h
      exact .som (hx y rfl v h1)
    · cases h
end Go.Ev
