/-
  Ev: from a run on an empty store to a contract.
-/
import Derived.Test.YtainnmkcbmiboaaGreatDoorEvPrim
import Derived.ChangeSame
namespace Go.Ev
open Go Go.ChangeShapes Go.WideShapes Go.RowKit
variable {P : Program} {G : Info}

/-- Nothing that was there has changed. -/
structure Kept (w w' : World) : Prop where
  os : w'.os = w.os
  tape : w'.tape = w.tape
  output : w'.output = w.output
  size : w.heap.size ≤ w'.heap.size
  same : ∀ b, b < w.heap.size → w'.heap[b]? = w.heap[b]?
theorem Kept.frame {w w' : World} (h : Kept w w') (may : MemPlace → Prop) : w.keptBut w' may := by
  refine ⟨h.os, h.output, fun i hi => ?_⟩
  rw [h.same i hi]
  split
  · rename_i e1 e2
    rw [e1] at e2; cases e2
    exact ⟨rfl, rfl, rfl, fun _ _ => rfl⟩
  · rename_i e1 e2
    rw [e1] at e2; cases e2
    exact .inr ⟨rfl, rfl⟩
  · rfl
theorem Kept.cell {w w' : World} (h : Kept w w') {a : Addr} (ha : a.block < w.heap.size) : w'.cell? a = w.cell? a := by
  unfold World.cell?; rw [h.same _ ha]
theorem Kept.frozen {w w' : World} (h : Kept w w') {a : Addr} (ha : a.block < w.heap.size) : w'.frozen? a = w.frozen? a := by
  unfold World.frozen?; rw [h.same _ ha]

/-- At the beginning: no object; some blocks' cells are taken as they are. -/
def K0 (G : Info) (frz : Nat → Nat → Option Value) : Kr := ⟨fun _ => none, frz, fun f n c => codeOk G f n c = true, fun t => G.one t = true⟩
def σ0 : Store := ⟨0, []⟩
theorem rel0 {w : World} {frz : Nat → Nat → Option Value} (h : ∀ b j v, frz b j = some v → ∃ c t fr, w.heap[b]? = some (.cells c t fr) ∧ c[j]? = some v) : StoreRel P (K0 G frz) σ0 w where
  objs := fun o x L h _ => by cases h
  sep := fun o o' x x' L L' h => by cases h
  fresh := fun _ _ => rfl
  got := fun o x h => by cases h
  frz := h
  apart := fun b j v _ ⟨_, _, _, h, _⟩ => by cases h
  blk := fun o L h => by cases h

theorem run_calls (hT : Told P G) (hm : P.follows .mixedOrders = true) (hcodes : CodesOk P G) (hprims : PrimsOk P G) {n : Nat} {f : FuncId} {args : List AV} {v : AV} {σ' : Store}
    (hrun : evCall G n f args σ0 = some (.val v, σ')) {w : World} {frz : Nat → Nat → Option Value} (hfrz : ∀ b j v, frz b j = some v → ∃ c t fr, w.heap[b]? = some (.cells c t fr) ∧ c[j]? = some v)
    (hglob : ∀ g cs, G.glob g = some cs → FR (K0 G frz) g 0 cs) {us : List Value} (hargs : VRL (K0 G frz) args us) :
    Calls P f ⟨us⟩ w fun e w' => ∃ u, e = .returned u ∧ (∃ K', VR K' v u) ∧ Kept w w' := by
  have h := ((ev_sound hT hm hcodes hprims n).2.1 f args σ0 (.val v) σ' hrun).2 none 0 (K0 G frz) w us (rel0 hfrz) ⟨hglob, rfl, rfl⟩ hargs
  have h2 := callsIn_wide.1 h
  refine h2.mono fun e w' ⟨K', u, hs, he, hv⟩ => ⟨u, he, ⟨K', hv⟩, hs.os, hs.tape, hs.output, hs.size, fun b hb => hs.same b hb fun ⟨_, _, _, h, _⟩ => by cases h⟩

/-- What a law's row asks behind the call. -/
theorem post_kept {H : Type} {enc : TypeId × Value → H} {f : Func} {s : ChangeSpec} {apart fresh handsOn again : Bool} {W W' : World} {args : Array Value} {v : Value} {ds gs : List (DataW H)} {before pa pv : List MemPlace}
    (hW : DataW.Whole enc P f.params.toList s.vars apart W args.toList ds gs before)
    (hres : ∀ (b : Nat) (sp : Nat → Bool) (hd : Bool), DataW.TrodAll enc P W' b sp hd f.resultTypes.toList (v.resultList f.resultTypes.size) (s.fn H (ds ++ gs)).results [])
    (hargs : ∀ sp : Nat → Bool, (∀ p ∈ before, sp p.block = true) → DataW.TrodAll enc P W' 0 sp true f.params.toList args.toList (s.fn H (ds ++ gs)).args pa)
    (hvars : ∀ sp : Nat → Bool, (∀ p ∈ before, sp p.block = true) → DataW.TrodVars enc P W' sp s.vars (s.fn H (ds ++ gs)).vars pv)
    (hps : before = pa ++ pv) (hk : Kept W W')
    (hok : ∀ (j : Nat) (t : TypeId) (r : Value), f.resultTypes[j]? = some t → (v.resultList f.resultTypes.size)[j]? = some r → Value.okWide P W' .any 0 t r) :
    s.post enc P f apart fresh handsOn again W args v W' := by
  have hold : ∀ p ∈ before, (fun b => decide (b < W.heap.size)) p.block = true := fun p hp => by simpa using hW.lt p hp
  have hlt := hW.lt
  refine ⟨ds, gs, before, [], pa, pv, hW, hres _ _ _, hargs _ hold, hvars _ hold, World.keptBut_mono (fun p hp => ⟨hp, ?_⟩) (hk.frame (· ∈ before)), fun _ => ?_⟩
  · rw [hps, List.mem_append] at hp
    exact Or.inr hp
  · obtain ⟨_, _, _, _, _, hz, hn⟩ := hW
    refine ⟨hok, _, _, ([] ++ pa) ++ pv, ⟨[] ++ pa, pv, trodAll_append (hargs _ (fun _ _ => rfl)) (hres _ _ _), hvars _ (fun _ _ => rfl), rfl, ?_, ?_⟩, ?_⟩
    · intro b off hp
      have hp' : MemPlace.cell b off ∈ before := by rw [hps]; simpa using hp
      rw [hk.frozen (hlt _ hp')]
      exact hz b off hp'
    · intro ha
      have := hn ha
      rw [hps] at this
      simpa using this
    · intro p hp _
      rw [hps]
      simpa using hp
end Go.Ev
