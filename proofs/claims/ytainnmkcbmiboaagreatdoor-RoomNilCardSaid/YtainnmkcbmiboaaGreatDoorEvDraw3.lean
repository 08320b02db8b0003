/-
  Ev: a region, drawn or not.
-/
import Derived.Test.YtainnmkcbmiboaaGreatDoorEvDraw2
namespace Go.Ev
open Go
variable {P : Program} {G : Info}

section
variable {C : Oracle} {Y : Yielder} {fz : Nat → Bool} {fr : List (Nat × Nat)} {base : Nat} {ops : Array Oper} {ms : List Nat} {T : Nat} {E : Nat → Env} {S : Nat → Store} {V : Nat → AV} {W : Nat → Bool}
variable {K0 : Kr} {w0 : World} {dfs : List Deferred}

/-- what is done, by the machine's list -/
def Done (listed : Array Bool) (j : Nat) : Prop := listed.getD j false = true
theorem done_set {listed : Array Bool} {i : Nat} (hi : i < listed.size) : Done (listed.setIfInBounds i true) = fun j => Done listed j ∨ j = i := by
  funext j
  apply propext
  unfold Done
  by_cases h : i = j
  · subst h; simp [hi]
  · simp only [Array.getD_eq_getD_getElem?, Array.getElem?_setIfInBounds_ne h]
    constructor
    · exact .inl
    · rintro (h' | h')
      · exact h'
      · exact absurd h'.symm h
theorem undone {listed : Array Bool} {j : Nat} (hj : j < listed.size) : listed.getD j true = false ↔ ¬ Done listed j := by
  unfold Done
  simp [hj]
/-- what is left to do -/
def left (N : Nat) (listed : Array Bool) : List Nat := (List.range N).filter fun j => !listed.getD j true

theorem left_set {listed : Array Bool} {i : Nat} (hi : i < listed.size) (h : listed.getD i true = false) : (left listed.size (listed.setIfInBounds i true)).length < (left listed.size listed).length := by
  have : left listed.size (listed.setIfInBounds i true) = (left listed.size listed).filter fun j => !(j == i) := by
    unfold left
    rw [List.filter_filter]
    apply List.filter_congr
    intro j _
    by_cases hji : i = j
    · subst hji; simp [hi]
    · have hji' : ¬ j = i := fun e => hji e.symm
      simp only [Array.getD_eq_getD_getElem?, Array.getElem?_setIfInBounds_ne hji]
      simp [hji']
  rw [this, List.length_filter_lt_length_iff_exists]
  refine ⟨i, ?_, by simp⟩
  unfold left
  rw [List.mem_filter]
  exact ⟨by simpa using hi, by rw [h]; rfl⟩

theorem Inv.all (R : Reg G C Y fz fr base ops ms T E S V W) (hT : Told P G) (hC : OracleOk P G C) (hY : YielderOk P G Y) {ro : Option Nat} {n : Nat} {Q : Exit → Act → World → Prop}
    (hdone : ∀ K' w' (a' : Act), Stp P (base ≤ ·) K0 (S 0) w0 K' (S ops.size) w' → EnvRel K' (E ops.size) a'.tmps → a'.defers = dfs → a'.tmps.size = T → Q .normal a' w') :
    ∀ (fuel : Nat) (listed : Array Bool) (f : Nat) (pe : Nat → Option AObj) (σp : Store) (K : Kr) (w : World) (a : Act), listed.size = ops.size → Inv P G base ops T E S V W K0 w0 dfs (Done listed) f pe σp K w a → (left ops.size listed).length ≤ fuel →
      wpAnyIn (fence ro) n P .any ops Q fuel listed a w := by
  have fin : ∀ (listed : Array Bool) (f : Nat) (pe : Nat → Option AObj) (σp : Store) (K : Kr) (w : World) (a : Act), listed.size = ops.size → Inv P G base ops T E S V W K0 w0 dfs (Done listed) f pe σp K w a → (∀ j, j < ops.size → Done listed j) → Q .normal a w := by
    intro listed f pe σp K w a hsz I hall
    obtain ⟨f', pe', I', hfr⟩ := I.front R (ops.size - f) f pe rfl
    have hf' : f' = ops.size := by
      rcases Nat.lt_or_ge f' ops.size with h | h
      · exact absurd (hall f' h) (hfr _ (Array.getElem?_eq_getElem h)).2
      · have := I'.hf; omega
    subst hf'
    have hpe : ∀ o, pe' o = none := fun o => by
      cases hp : pe' o with
      | none => rfl
      | some x =>
        obtain ⟨i, q, h1, h2, _⟩ := I'.pe1 o x hp
        have := (Array.getElem?_eq_some_iff.1 h2).1
        omega
    refine hdone K w a (I'.rel.congr I'.next.symm fun o => by rw [I'.get, hpe]) (fun t v hv => ?_) I'.defers I'.size
    rcases R.look ops.size (Nat.le_refl _) t v hv with ⟨j, o, hj, ho, hd, rfl⟩ | ⟨h1, h2⟩
    · exact I'.tmps.made j o t ho (hall j hj) hd
    · exact I'.tmps.kept t v h1 fun j o ho hd => absurd hd (h2 j o (Array.getElem?_eq_some_iff.1 ho).1 ho)
  have none_ready : ∀ (listed : Array Bool), listed.size = ops.size → Region.ready .any ops listed = [] → ∀ j, j < ops.size → Done listed j := by
    intro listed hsz hrd j
    induction j using Nat.strongRecOn with
    | _ j ih =>
      intro hj
      refine Classical.byContradiction fun hn => ?_
      have hp : ops[j]? = some ops[j] := Array.getElem?_eq_getElem hj
      have : j ∈ Region.ready .any ops listed := mem_ready.2 ⟨(undone (by omega)).2 hn, ops[j], hp, fun e he hb => ih e.on (R.ok.masks.below j _ hp e he hb) (by
        have := R.ok.masks.below j _ hp e he hb; omega)⟩
      rw [hrd] at this; cases this
  intro fuel
  induction fuel with
  | zero =>
    intro listed f pe σp K w a hsz I hl
    have hall : ∀ j, j < ops.size → Done listed j := fun j hj => Classical.byContradiction fun hn => by
      have : j ∈ left ops.size listed := by
        unfold left
        rw [List.mem_filter]
        exact ⟨by simpa using hj, by rw [(undone (by omega)).2 hn]; rfl⟩
      rw [List.eq_nil_of_length_eq_zero (Nat.le_zero.1 hl)] at this
      cases this
    refine ⟨?_, fin listed f pe σp K w a hsz I hall⟩
    cases hr : Region.ready .any ops listed with
    | nil => rfl
    | cons i r =>
      have : i ∈ Region.ready .any ops listed := by rw [hr]; simp
      obtain ⟨h1, o, ho, _⟩ := mem_ready.1 this
      have hi := (Array.getElem?_eq_some_iff.1 ho).1
      exact absurd (hall i hi) ((undone (by omega)).1 h1)
  | succ fuel ih =>
    intro listed f pe σp K w a hsz I hl
    refine ⟨fun hr => fin listed f pe σp K w a hsz I (none_ready listed hsz hr), fun i hi => ?_⟩
    obtain ⟨h1, o, ho, hr⟩ := mem_ready.1 hi
    have hin := (Array.getElem?_eq_some_iff.1 ho).1
    obtain ⟨f', pe', I', hfr⟩ := I.front R (ops.size - f) f pe rfl
    unfold wpOpIn
    rw [ho]
    refine I'.step R hT hC hY hfr ho ((undone (by omega)).1 h1) hr fun f2 pe2 σ2 K2 w2 a2 I2 => ?_
    rw [← done_set (by omega)] at I2
    exact ih (listed.setIfInBounds i true) f2 pe2 σ2 K2 w2 a2 (by simpa using hsz) I2 (by
      have := left_set (listed := listed) (i := i) (by omega) h1
      rw [hsz] at this
      omega)
end

theorem StoreRel.drawn {K : Kr} {σ : Store} {w : World} (h : StoreRel P K σ w) (k : Nat) : Stp P (fun _ => False) K σ w K σ { w with drawn := k } :=
  ⟨.refl K, ⟨fun o x L a b => ObjRel.keep (w := w) (.refl K) rfl (h.objs o x L a b), h.sep, h.fresh, h.got, h.frz, h.apart, h.blk⟩, Nat.le_refl _, fun _ _ _ => rfl, Nat.le_refl _, fun _ _ _ h => h, fun _ _ _ => rfl, fun _ _ h => h, fun _ _ h => h, fun _ _ _ _ h => .inl h, rfl, rfl, rfl⟩

theorem evRegion_sound {C : Oracle} {Y : Yielder} (hT : Told P G) (hm : P.follows .mixedOrders = true) (hC : OracleOk P G C) (hY : YielderOk P G Y) {ro : Option Nat} {n : Nat} {Q : Exit → Act → World → Prop} {fid rid live T id : Nat} {ops : Array Oper} {draw : Bool} {env : Env} {σ : Store} {res : RR}
    (hok : regionOk G fid rid T ops draw = true) (h : evRegion G C Y fid rid live ops draw env σ = some res) {K : Kr} {w : World} {a : Act} (hS : StoreRel P K σ w) (hG : GlobRel G K) (hE : EnvRel K env a.tmps) (hsz : a.tmps.size = T)
    (hdone : ∀ env' σ' sn', res = .done env' σ' sn' → ∀ K' w' (a' : Act), Stp P (fun _ => False) K σ w K' σ' w' → EnvRel K' env' a'.tmps → a'.defers = a.defers → a'.tmps.size = T → Q .normal a' w')
    (hpan : ∀ v σ', res = .pan v σ' → ∀ K' w' (a' : Act) u, Stp P (fun _ => False) K σ w K' σ' w' → VR K' v u → a'.defers = a.defers → Q (.panic [{ v := u, recovered := false }]) a' w') :
    (Code.region id ops draw).wpIn (fence ro) n P Q a w := by
  simp only [regionOk, Bool.and_eq_true] at hok
  obtain ⟨hdst, hdraw⟩ := hok
  have hdst : ∀ o ∈ ops.toList, ∀ d, o.dst = some d → d < T := fun o ho d hd => by
    have := List.all_eq_true.1 hdst o ho
    rw [hd] at this
    simpa using this
  unfold evRegion at h
  simp only at h
  -- what is laid aside is above all numbers that were there
  have low : ∀ {K' : Kr} {σ' : Store} {w' : World}, Stp P (σ.next ≤ ·) K { σ with next := σ.next + ops.size } w K' σ' w' → Stp P (fun _ => False) K σ w K' σ' w' := fun hs =>
    ((Stp.reserve hS ops.size).trans hs).weaken fun o ho e => e.elim (fun e => e) fun e => by omega
  have hres := (Stp.reserve hS ops.size).rel
  have hfresh : ∀ j, K.loc (σ.next + j) = none ∧ σ.get (σ.next + j) = none := fun j => ⟨hS.fresh _ (by omega), by
    cases e : σ.get (σ.next + j) with
    | none => rfl
    | some x => have := hS.got _ x e; omega⟩
  cases draw with
  | false =>
    simp only [cond_false] at h
    refine wpIn_region ?_
    have hrange : List.range ops.size = List.range' 0 ops.toList.length := by rw [List.range_eq_range']; simp
    rw [hrange]
    split at h
    · rename_i env1 σ1 sn hev
      cases hfo : freeOk G C Y ops sn [] with
      | false => rw [hfo] at h; cases h
      | true =>
        rw [hfo, cond_true] at h
        cases h
        refine evOps_sound hT hC hY ops.toList 0 env _ [] _ K w a rfl hev hres hG hE hsz hdst (fun j _ _ => hfresh j) (Nat.le_refl _) ?_ ?_
        · intro env' σ' sn' e K' w' a' hs he hde hsz'
          cases e
          exact hdone _ _ _ rfl K' w' a' (low hs) (fun t v hv => he t v (look_prune hv)) hde hsz'
        · intro v σ' e; cases e
    · rename_i v σ1 hev
      cases h
      refine evOps_sound hT hC hY ops.toList 0 env _ [] _ K w a rfl hev hres hG hE hsz hdst (fun j _ _ => hfresh j) (Nat.le_refl _) ?_ ?_
      · intro env' σ' sn' e; cases e
      · intro v' σ' e K' w' a' u hs hv hde
        cases e
        exact hpan _ _ rfl K' w' a' u (low hs) hv hde
    · cases h
  | true =>
    simp only [cond_true] at h hdraw
    split at h
    · rename_i env1 σ1 sn hev
      cases hfo : freeOk G C Y ops sn (G.free fid rid) with
      | false => rw [hfo] at h; cases h
      | true =>
        rw [hfo, cond_true] at h
        cases h
        obtain ⟨ms, hD⟩ := drawOk_spec hdraw
        obtain ⟨E, S, V, W, e1, e2, e3, e4, hlog, hsnap⟩ := evOps_log ops.toList 0 env _ [] env1 σ1 sn rfl hev
        simp only [Nat.zero_add, Array.length_toList, Nat.zero_le, true_implies] at e3 e4 hlog hsnap
        have R : Reg G C Y (G.frz fid rid) (G.free fid rid) σ.next ops ms T E S V W := by
          refine ⟨fun j o ho => hlog j o (Array.getElem?_eq_some_iff.1 ho).1 ho, hD, ?_, fun j o d ho hd => hdst o (by
            have := Array.mem_of_getElem? ho
            simpa using this) d hd⟩
          intro r e o hmem ho hWr he hWe
          have hr := (Array.getElem?_eq_some_iff.1 ho).1
          have hk : (!noList (G.free fid rid)) = true := by
            cases hl : G.free fid rid with
            | nil => rw [hl] at hmem; cases hmem
            | cons _ _ => rfl
          obtain ⟨s1, _⟩ := hsnap hk
          obtain ⟨f1, f2⟩ := freeOk_spec hfo r e _ _ hmem (s1 r hr hWr) (s1 e he hWe)
          have one : ∀ τ, sameRead G C Y ops ⟨r, E r, S r, V r, S (r + 1)⟩ τ = true → ∃ τ', evOp G C Y 0 o (E r) τ = some (.val (V r), τ') := by
            intro τ hs
            unfold sameRead at hs
            simp only [ho] at hs
            split at hs
            · rename_i v τ' hev
              rw [beq_sound _ _ hs] at hev
              exact ⟨τ', hev⟩
            · cases hs
          exact ⟨one _ f1, one _ f2⟩
        refine wpIn_region_any hm ?_
        have hw1 := (hres.drawn (w.drawn + 1))
        have hlist : Done (Array.replicate ops.size false) = fun _ => False := by
          funext j
          apply propext
          unfold Done
          by_cases hj : j < ops.size <;> simp [hj]
        refine Inv.all (K0 := K) (w0 := { w with drawn := w.drawn + 1 }) (dfs := a.defers) R hT hC hY ?_ ops.size (Array.replicate ops.size false) 0 (fun _ => none) (S 0) K { w with drawn := w.drawn + 1 } a (by simp) ?_ ?_
        · intro K' w' a' hs he hde hsz'
          rw [e2, e4] at hs
          rw [e3] at he
          have hs' : Stp P (σ.next ≤ ·) K { σ with next := σ.next + ops.size } w K' σ1 w' := (hw1.trans hs).weaken fun _ _ e => e.elim False.elim fun e => e
          exact hdone _ _ _ rfl K' w' a' (low hs') (fun t v hv => he t v (look_prune hv)) hde hsz'
        · rw [hlist]
          refine ⟨fun _ _ _ h => False.elim h, Nat.zero_le _, (fun j p h => by omega), ?_, fun o => rfl, rfl, (fun o x h => by cases h), fun _ _ _ _ h => False.elim h, ?_, ?_, hG, ⟨fun _ _ _ _ h => False.elim h, fun t v hv _ => ?_⟩, hsz, rfl⟩
          · rw [e2]; exact .refl hw1.rel
          · intro j hj _
            rw [e2]; exact hfresh j
          · rw [e2]; exact Nat.le_refl _
          · rw [e1] at hv; exact hE t v hv
        · unfold left
          exact Nat.le_trans (List.length_filter_le _ _) (by simp)
    · cases h
    · cases h
end Go.Ev
