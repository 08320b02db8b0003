/-
  Ev: code.
-/
import Derived.Test.YtainnmkcbmiboaaGreatDoorEvDraw3
namespace Go.Ev
open Go
variable {P : Program} {G : Info}

/-! ### A loop, round by round -/
def LoopIn (F : Fence) (n : Nat) (P : Program) (c : Code) (Q : Exit → Act → World → Prop) (a : Act) (w : World) : Prop :=
  ∀ (b : Frame) (k : List Item) (cs : List Frame), b.roundOf = F.round → F.fn b.fn → F.room (cs.length + 1 + n) →
    ∃ e a' w', Q e a' w' ∧ ArrivesIn (Machine.fenced P F) P (lone (b.atR a (.code c :: .inLoop c :: k)) cs w) b k cs e a' w'
theorem loopIn_of {F : Fence} {n : Nat} {c : Code} {Q : Exit → Act → World → Prop} {a : Act} {w : World} (h : c.wpIn F n P (Exit.then (LoopIn F n P c Q) Q) a w) : LoopIn F n P c Q a w := by
  intro b k cs hro hb hr
  obtain ⟨e, a₁, w₁, hq, harr⟩ := h b (.inLoop c :: k) cs hro hb hr
  cases e with
  | normal =>
    obtain ⟨e₂, a₂, w₂, hq₂, harr₂⟩ := hq b k cs hro hb hr
    exact ⟨e₂, a₂, w₂, hq₂, .of_steps (StepsIn.trans harr (.one (fenced_calm hb hr rfl) stepR_inLoop)) harr₂⟩
  | exit id => exact ⟨_, a₁, w₁, hq, .pass (x := .inLoop c) rfl (fun _ _ => .inl (by simp)) harr⟩
  | goto l => exact ⟨_, a₁, w₁, hq, .pass (x := .inLoop c) rfl (fun _ _ => .inl (by simp)) harr⟩
  | ret => exact ⟨_, a₁, w₁, hq, .pass (x := .inLoop c) rfl (fun _ _ => .inl (by simp)) harr⟩
  | panic ch => exact ⟨_, a₁, w₁, hq, .pass (x := .inLoop c) rfl (fun _ _ => .inl (by simp)) harr⟩
  | outgrown => exact ⟨_, a₁, w₁, hq, .pass (x := .inLoop c) rfl (fun _ _ => .inl (by simp)) harr⟩
theorem wpIn_loop_of {F : Fence} {n : Nat} {c : Code} {Q : Exit → Act → World → Prop} {a : Act} {w : World} (h : LoopIn F n P c Q a w) : (Code.loop c).wpIn F n P Q a w := by
  intro b k cs hro hb hr
  obtain ⟨e, a', w', hq, harr⟩ := h b k cs hro hb hr
  exact ⟨e, a', w', hq, .of_steps (.one (fenced_calm hb hr rfl) stepR_loop) harr⟩

/-! ### Marks -/
def MarksRel (K : Kr) : List Nat → List Deferred → Prop
  | [], [] => True
  | m :: ms, d :: ds => (∃ L, K.loc m = some L ∧ d = { target := .collected L.blk, args := #[] }) ∧ MarksRel K ms ds
  | _, _ => False
theorem MarksRel.mono {K K' : Kr} (hk : K.Le K') : ∀ {ms : List Nat} {ds : List Deferred}, MarksRel K ms ds → MarksRel K' ms ds
  | [], [], _ => trivial
  | [], _ :: _, h => h.elim
  | _ :: _, [], h => h.elim
  | _ :: _, _ :: _, ⟨⟨L, h1, h2⟩, h3⟩ => ⟨⟨L, hk.loc _ _ h1, h2⟩, MarksRel.mono hk h3⟩

/-- What code comes to. -/
def Post (P : Program) (T : Nat) (K : Kr) (σ : Store) (w : World) (ex : Ex) (fr' : Fr) (σ' : Store) (Q : Exit → Act → World → Prop) : Prop :=
  ∀ K' w' (a' : Act), Stp P (fun _ => False) K σ w K' σ' w' → MarksRel K' fr'.marks a'.defers → match ex with
    | .pan v => ∀ u, VR K' v u → Q (.panic [{ v := u, recovered := false }]) a' w'
    | .norm => EnvRel K' fr'.env a'.tmps → a'.tmps.size = T → Q .normal a' w'
    | .exit i => EnvRel K' fr'.env a'.tmps → a'.tmps.size = T → Q (.exit i) a' w'
    | .ret => EnvRel K' fr'.env a'.tmps → a'.tmps.size = T → Q .ret a' w'
theorem Post.later {T : Nat} {K K1 : Kr} {σ σ1 σ' : Store} {w w1 : World} {ex : Ex} {fr' : Fr} {Q : Exit → Act → World → Prop} (h : Post P T K σ w ex fr' σ' Q) (hs : Stp P (fun _ => False) K σ w K1 σ1 w1) : Post P T K1 σ1 w1 ex fr' σ' Q :=
  fun K' w' a' hs' hm => h K' w' a' ((hs.trans hs').weaken fun _ _ e => e.elim False.elim False.elim) hm

/-- What holds where code begins. -/
structure At (P : Program) (G : Info) (T : Nat) (K : Kr) (σ : Store) (w : World) (a : Act) (fr : Fr) : Prop where
  rel : StoreRel P K σ w
  glob : GlobRel G K
  env : EnvRel K fr.env a.tmps
  size : a.tmps.size = T
  marks : MarksRel K fr.marks a.defers

/-- the round whose frame it is, here and there -/
def RoRel (K : Kr) : Option Nat → Option Nat → Prop
  | none, none => True
  | some l, some b => ∃ L, K.loc l = some L ∧ L.blk = b
  | _, _ => False
theorem RoRel.mono {K K' : Kr} (hk : K.Le K') {ro ro' : Option Nat} (h : RoRel K ro ro') : RoRel K' ro ro' := by
  cases ro <;> cases ro' <;> simp only [RoRel] at h ⊢
  obtain ⟨L, h1, h2⟩ := h; exact ⟨L, hk.loc _ _ h1, h2⟩

/-- Walked, a loop round by round. -/
def Walks (F : Fence) (m : Nat) (P : Program) (c : Code) (Q : Exit → Act → World → Prop) (a : Act) (w : World) : Prop :=
  match c with
  | .loop b => LoopIn F m P b Q a w
  | c => c.wpIn F m P Q a w
theorem Walks.wpIn {F : Fence} {m : Nat} {c : Code} {Q : Exit → Act → World → Prop} {a : Act} {w : World} (h : Walks F m P c Q a w) : c.wpIn F m P Q a w := by
  cases c <;> first | exact h | exact wpIn_loop_of h

/-- The claim on code at a depth. -/
def CodeSound (P : Program) (G : Info) (n : Nat) : Prop := ∀ fid live T ro c fr σ ex fr' σ', evCode G n fid live ro c fr σ = some (ex, fr', σ') → codeOk G fid T c = true → (∀ fc, G.code fid = some fc → fc.ntmps = T) →
  ∀ ro' m K w a, At P G T K σ w a fr → RoRel K ro ro' → ∀ Q, Post P T K σ w ex fr' σ' Q → Walks (fence ro') m P c Q a w
end Go.Ev
