/-
  Ev: a call; all together.
-/
import Derived.Test.YtainnmkcbmiboaaGreatDoorEvRound
namespace Go.Ev
open Go
variable {P : Program} {G : Info}

/-- What is asked of a function's code. -/
structure FnOk (P : Program) (G : Info) (f : FuncId) (fc : FC) : Prop where
  fn : ∃ fn : Func, P.funcs[f]? = some fn ∧ fn.body = some fc.body ∧ fn.results.toList = fc.results ∧ fn.ntmps = fc.ntmps
  enters : Enters P f
  ok : codeOk G f fc.ntmps fc.body = true
def CodesOk (P : Program) (G : Info) : Prop := ∀ f fc, G.code f = some fc → FnOk P G f fc
/-- Functions told of otherwise. -/
def PrimsOk (P : Program) (G : Info) : Prop := ∀ f p, G.prim f = some p → Enters P f ∧ ∀ args σ v σ', p args σ = some (v, σ') → ∀ n K w us, StoreRel P K σ w → GlobRel G K → VRL K args us → CallsIn (fence none) n P f ⟨us⟩ w (Ends P K σ w (.val v) σ')

theorem callsIn_fence {ro : Option Nat} {n : Nat} {f : FuncId} {us : Array Value} {w : World} {R : Ending → World → Prop} (h : CallsIn (fence none) n P f us w R) : CallsIn (fence ro) n P f us w R := h

theorem argEnv_look : ∀ {args : List AV} {i t : Nat} {v : AV}, look (argEnv i args) t = some v → i ≤ t ∧ args[t - i]? = some v
  | [], i, t, v, h => by simp [argEnv, look] at h
  | x :: r, i, t, v, h => by
    simp only [argEnv, look_cons] at h
    split at h
    · rename_i e; subst e; cases h; simp
    · obtain ⟨h1, h2⟩ := argEnv_look h
      refine ⟨by omega, ?_⟩
      rw [show t - i = (t - (i + 1)) + 1 by omega]
      simpa using h2

def resRun (tmps : Array Value) : ResultVar → Sem Value
  | .tmp t => pure (tmps.getD t undef)
  | .cell a t => do loadVar t (← asAddr (tmps.getD a undef))
theorem results_eq (fn : Func) (tmps : Array Value) : results fn tmps = (do let vs ← fn.results.mapM (resRun tmps); pure (if h : vs.size = 1 then vs[0] else .tuple vs)) := by
  unfold results
  have : (fun (x : ResultVar) => match x with
    | .tmp t => (pure (tmps.getD t undef) : Sem Value)
    | .cell a t => do loadVar t (← asAddr (tmps.getD a undef))) = resRun tmps := by
    funext x; cases x <;> rfl
  rw [← this]
  rfl
theorem resList_sound (hTT : TTOk P G.tt) {K : Kr} {σ : Store} {w : World} {env : Env} {tmps : Array Value} (hS : StoreRel P K σ w) (hE : EnvRel K env tmps) : ∀ {l : List ResultVar} {vs : List AV}, resultsOf G env σ l = some vs →
    ∃ us, (l.mapM (resRun tmps)).run P w = .ok us w ∧ VRL K vs us
  | [], vs, h => by
    simp only [resultsOf, Option.some.injEq] at h
    subst h
    exact ⟨[], by simp, .nil⟩
  | .tmp t :: r, vs, h => by
    simp only [resultsOf] at h
    split at h
    · rename_i v l h1 h2
      cases h
      obtain ⟨u, hu, hv⟩ := hE t v h1
      obtain ⟨us, h3, h4⟩ := resList_sound hTT hS hE h2
      refine ⟨u :: us, ?_, .cons hv h4⟩
      simp [List.mapM_cons, resRun, hu, h3]
    · cases h
  | .cell c t :: r, vs, h => by
    simp only [resultsOf] at h
    split at h
    · rename_i p i l h1 h2 h3
      simp only [Option.map_eq_some_iff] at h
      obtain ⟨v, hv, rfl⟩ := h
      obtain ⟨u, hu, hpu⟩ := hE c p h1
      obtain ⟨_, _, _, _, hty⟩ := hTT _ _ h2
      obtain ⟨x, hx, hxv⟩ := loadAt_sound (w := w) hty hS hpu hv
      obtain ⟨us, h4, h5⟩ := resList_sound hTT hS hE h3
      refine ⟨x :: us, ?_, .cons hxv h5⟩
      have hload : (resRun tmps (.cell c t)).run P w = .ok x w := by
        have : tmps.getD c undef = u := by simp [hu]
        simp only [resRun, this]
        cases hpu <;> simp only [loadAt] at hv <;> first | (cases hv; done) | skip
        · simpa [Instr.loadAt, Instr.sureAddr, asAddr] using hx
        · simpa [Instr.loadAt, Instr.sureAddr, asAddr] using hx
      simp [List.mapM_cons, hload, h4]
    · cases h
theorem results_sound (hTT : TTOk P G.tt) {K : Kr} {σ : Store} {w : World} {env : Env} {tmps : Array Value} (hS : StoreRel P K σ w) (hE : EnvRel K env tmps) {fn : Func} {vs : List AV} (h : resultsOf G env σ fn.results.toList = some vs) :
    ∃ u, (results fn tmps).run P w = .ok u w ∧ VR K (results1 vs) u := by
  obtain ⟨us, h1, h2⟩ := resList_sound hTT hS hE h
  have hm : (fn.results.mapM (resRun tmps)).run P w = .ok us.toArray w := by
    rw [Array.mapM_eq_mapM_toList]
    simp [h1]
  rw [results_eq]
  refine ⟨if hh : us.toArray.size = 1 then us.toArray[0] else .tuple us.toArray, by simp only [Sem.run_bind, hm, Result.andThen_ok]; rfl, ?_⟩
  cases vs with
  | nil => rw [h2.inv_nil]; exact VR.tup' .nil
  | cons x r =>
    obtain ⟨u, us', rfl, hu, hr⟩ := h2.inv_cons
    cases r with
    | nil =>
      have := hr.inv_nil
      subst this
      exact hu
    | cons y z =>
      obtain ⟨u2, us2, rfl, hu2, hr2⟩ := hr.inv_cons
      exact VR.tup' (.cons hu (.cons hu2 hr2))

theorem marks_taken {n : Nat} {fn : Func} {tmps : Array Value} {R : Ending → World → Prop} {u : FrameMode} (hu : u ≠ .run) : ∀ {ms : List Nat} {ds : List Deferred} {K : Kr} {σ σ2 : Store} {w : World}, takeMarks σ ms = some σ2 → StoreRel P K σ w → MarksRel K ms ds →
    (∀ w2, Stp P (fun _ => False) K σ w K σ2 w2 → LeavesIn (fence none) n P fn tmps R [] u w2) → LeavesInM (fence none) n P fn tmps R ds u w
  | [], [], K, σ, σ2, w, h, hS, _, hk => by
    simp only [takeMarks, Option.some.injEq] at h
    subst h
    exact hk w (.refl hS)
  | [], _ :: _, _, _, _, _, _, _, hm, _ => hm.elim
  | _ :: _, [], _, _, _, _, _, _, hm, _ => hm.elim
  | m :: ms, d :: ds, K, σ, σ2, w, h, hS, ⟨⟨L, hL, hd⟩, hm⟩, hk => by
    simp only [takeMarks] at h
    split at h
    · rename_i hg
      have hob := hS.objs _ _ _ hg hL
      have hblk := hS.blk _ _ hL
      have hset : Stp P (fun _ => False) K σ w K (σ.set m (.defs true)) { w with heap := w.heap.setIfInBounds L.blk (.deferred none) } :=
        .setMap hS hg rfl hL hblk (heap_set_same hblk)
      have hob' : w.heap[L.blk]? = some (.deferred (some [])) := hob
      refine ⟨hu, .inl ⟨L.blk, _, by rw [hd], ?_, marks_taken hu h hset.rel hm fun w2 hs => hk w2 ((hset.trans hs).weaken fun _ _ e => e.elim id id)⟩⟩
      simp only [Instr.takeDeferred, getObj, Sem.run_bind, Sem.run, hob', Result.andThen_ok, run_setObj hob' (fun _ _ _ e => by cases e)]
      rfl
    · cases h

theorem evCall_sound {n : Nat} (hT : Told P G) (hcodes : CodesOk P G) (hprims : PrimsOk P G) (ih : CodeSound P G n) : OracleOk P G (evCall G (n + 1)) := by
  intro f args σ r σ' h
  simp only [evCall] at h
  split at h
  · rename_i p hp
    obtain ⟨v, h1, rfl⟩ := val1_inv h
    obtain ⟨hE, hc⟩ := hprims f p hp
    exact ⟨hE, fun ro m K w us hS hG hr => callsIn_fence (hc args σ v σ' h1 m K w us hS hG hr)⟩
  · split at h
    · cases h
    · rename_i fc hfc
      obtain ⟨⟨fn, hfn, hbody, hres, hnt⟩, hE, hok⟩ := hcodes f fc hfc
      refine ⟨hE, fun ro m K w us hS hG hr => callsIn_fence ?_⟩
      cases hlen : Nat.blt fc.ntmps args.length with
      | true => rw [hlen] at h; cases h
      | false =>
        rw [hlen, cond_false] at h
        have hle : args.length ≤ fc.ntmps := by
          rw [← Bool.not_eq_true] at hlen
          simp at hlen; exact hlen
        refine callsIn_of_wp_marks hfn hbody trivial ?_
        have hsz : ((⟨us⟩ : Array Value) ++ Array.replicate (fn.ntmps - (⟨us⟩ : Array Value).size) undef).size = fc.ntmps := by
          have := hr.1
          simp [hnt]; omega
        have henv : EnvRel K (argEnv 0 args) ((⟨us⟩ : Array Value) ++ Array.replicate (fn.ntmps - (⟨us⟩ : Array Value).size) undef) := by
          intro t v ht
          obtain ⟨_, h2⟩ := argEnv_look ht
          obtain ⟨u, hu, hv⟩ := hr.get h2
          simp only [Nat.sub_zero] at hu
          have hlt := (List.getElem?_eq_some_iff.1 hu).1
          refine ⟨u, ?_, hv⟩
          rw [Array.getElem?_append_left (by simpa using hlt)]
          simpa using hu
        have hA : At P G fc.ntmps K σ w { tmps := (⟨us⟩ : Array Value) ++ Array.replicate (fn.ntmps - (⟨us⟩ : Array Value).size) undef, defers := [] } ⟨argEnv 0 args, []⟩ := ⟨hS, hG, henv, hsz, trivial⟩
        have hTl : ∀ fc', G.code f = some fc' → fc'.ntmps = fc.ntmps := fun fc' h' => by rw [hfc] at h'; cases h'; rfl
        -- the end
        have fin : ∀ (fr1 : Fr) (σ1 : Store), (match takeMarks σ1 fr1.marks with
            | none => none
            | some σ2 => match resultsOf G fr1.env σ2 fc.results with
              | some vs => some (OR.val (results1 vs), if fc.drop = true then σ2.cut σ.next else σ2)
              | none => none) = some (r, σ') → ∀ K1 w1 (a1 : Act), Stp P (fun _ => False) K σ w K1 σ1 w1 → MarksRel K1 fr1.marks a1.defers → EnvRel K1 fr1.env a1.tmps →
            LeavesInM (fence none) m P fn a1.tmps (Ends P K σ w r σ') a1.defers .returning w1 := by
          intro fr1 σ1 h K1 w1 a1 hs hm he
          split at h
          · cases h
          · rename_i σ2 htk
            split at h
            · rename_i vs hvs
              cases h
              refine marks_taken (by simp) htk hs.rel hm fun w2 hs2 => ?_
              obtain ⟨u, hu, hv⟩ := results_sound (w := w2) hT.tt hs2.rel he (fn := fn) (vs := vs) (by rw [hres]; exact hvs)
              have hall : Stp P (fun _ => False) K σ w K1 σ2 w2 := (hs.trans hs2).weaken fun _ _ e => e.elim id id
              refine ⟨u, hu, K1, u, ?_, rfl, hv⟩
              split
              · exact hall.cut
              · exact hall
            · cases h
        split at h
        · rename_i fr1 σ1 hev
          refine (ih f fc.live fc.ntmps none fc.body _ σ _ fr1 σ1 hev hok hTl none m K w _ hA trivial _ ?_).wpIn
          intro K1 w1 a1 hs hm he _
          exact fin fr1 σ1 h K1 w1 a1 hs hm he
        · rename_i fr1 σ1 hev
          refine (ih f fc.live fc.ntmps none fc.body _ σ _ fr1 σ1 hev hok hTl none m K w _ hA trivial _ ?_).wpIn
          intro K1 w1 a1 hs hm he _
          exact fin fr1 σ1 h K1 w1 a1 hs hm he
        · rename_i v fr1 σ1 hev
          split at h
          · rename_i hmk
            cases h
            refine (ih f fc.live fc.ntmps none fc.body _ σ _ fr1 _ hev hok hTl none m K w _ hA trivial _ ?_).wpIn
            intro K1 w1 a1 hs hm u hv
            rw [hmk] at hm
            have hd : a1.defers = [] := by
              cases hda : a1.defers with
              | nil => rfl
              | cons _ _ => rw [hda] at hm; exact hm.elim
            show LeavesInM (fence none) m P fn a1.tmps _ a1.defers (.panicking _) w1
            rw [hd]
            exact ⟨K1, u, hs, rfl, hv⟩
          · cases h
        · cases h

/-- ALL TOGETHER: what the evaluator says, the machine does. -/
theorem ev_sound (hT : Told P G) (hm : P.follows .mixedOrders = true) (hcodes : CodesOk P G) (hprims : PrimsOk P G) : ∀ n, CodeSound P G n ∧ OracleOk P G (evCall G n) ∧ YielderOk P G (evRound G n)
  | 0 => ⟨fun fid live T ro c fr σ ex fr' σ' h => by simp [evCode] at h, fun f args σ r σ' h => by simp [evCall] at h, fun l args σ r σ' h => by simp [evRound] at h⟩
  | n + 1 => by
    obtain ⟨h1, h2, h3⟩ := ev_sound hT hm hcodes hprims n
    refine ⟨fun fid live T ro c fr σ ex fr' σ' h hok hlt ro' m K w a hA hro Q hQ => ?_, evCall_sound hT hcodes hprims h1, evRound_sound h1⟩
    by_cases hr : ∃ g ps as b, c = .rangeFunc g ps as b
    · obtain ⟨g, ps, as, b, rfl⟩ := hr
      exact evCode_range h2 h hok hlt hA hro hQ
    · exact evCode_step hT hm h2 h3 h1 (fun g ps as b e => hr ⟨g, ps, as, b, e⟩) h hok hlt hA hro hQ

end Go.Ev
