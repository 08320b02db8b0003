/-
  Ev: a round.
-/
import Derived.Test.YtainnmkcbmiboaaGreatDoorEvCode3
namespace Go.Ev
open Go
variable {P : Program} {G : Info}

theorem EnvRel.putEnv {K : Kr} {env : Env} {tmps : Array Value} {d : Nat} {v : AV} {u : Value} (h : EnvRel K env tmps) (hd : d < tmps.size) (hv : VR K v u) : EnvRel K (Ev.put env d v) (tmps.setIfInBounds d u) := by
  intro t x hx
  rw [look_put] at hx
  split at hx
  · rename_i e; subst e; cases hx; exact ⟨u, by simp [hd], hv⟩
  · rename_i e
    obtain ⟨y, hy, hv'⟩ := h t x hx
    exact ⟨y, by rw [Array.getElem?_setIfInBounds_ne e]; exact hy, hv'⟩
theorem paramEnv_sound {K : Kr} : ∀ {ps : List Nat} {vs : List AV} {us : List Value} {env env' : Env} {tmps : Array Value}, paramEnv env ps vs = some env' → EnvRel K env tmps → VRL K vs us → (∀ p ∈ ps, p < tmps.size) →
    EnvRel K env' ((ps.zip us).foldl (fun tmps (x : Nat × Value) => tmps.setIfInBounds x.1 x.2) tmps) ∧ ((ps.zip us).foldl (fun tmps (x : Nat × Value) => tmps.setIfInBounds x.1 x.2) tmps).size = tmps.size ∧ us.length = ps.length
  | [], [], us, env, env', tmps, h, hE, hr, _ => by
    simp only [paramEnv, Option.some.injEq] at h
    subst h
    rw [hr.inv_nil]
    exact ⟨hE, rfl, rfl⟩
  | [], _ :: _, us, env, env', tmps, h, _, _, _ => by simp [paramEnv] at h
  | _ :: _, [], us, env, env', tmps, h, _, _, _ => by simp [paramEnv] at h
  | p :: ps, v :: vs, us, env, env', tmps, h, hE, hr, hp => by
    obtain ⟨u, us', rfl, hu, hr'⟩ := hr.inv_cons
    simp only [paramEnv] at h
    have hp0 := hp p (by simp)
    obtain ⟨h1, h2, h3⟩ := paramEnv_sound h (hE.putEnv hp0 hu) hr' (fun q hq => by simpa using hp q (by simp [hq]))
    refine ⟨by simpa using h1, by simpa using h2, by simp [h3]⟩

theorem evRound_sound {n : Nat} (ih : CodeSound P G n) : YielderOk P G (evRound G (n + 1)) := by
  intro l args σ r σ' h ro m K w us L hS hG hr hL
  simp only [evRound] at h
  split at h
  · rename_i st pe fid env ps as body df nt hgl
    split at h
    · rename_i env' fc henv hfc
      cases hnt : Nat.beq nt fc.ntmps with
      | false => rw [hnt] at h; cases h
      | true =>
        rw [hnt] at h
        simp only [Bool.not_true, cond_false] at h
        have hnt := Nat.eq_of_beq_eq_true hnt
        subst hnt
        obtain ⟨o1, o2, o3, fn, tmps, D, q1, q2, q3, q4⟩ := hS.objs _ _ _ hgl hL
        rw [hG.ok] at o1 o2
        have hblk := hS.blk _ _ hL
        obtain ⟨e1, e2, e3⟩ := paramEnv_sound henv q2 hr (fun p hp => by rw [q4]; exact o3 p hp)
        have hT : ∀ fc', G.code fid = some fc' → fc'.ntmps = fc.ntmps := fun fc' h' => by rw [hfc] at h'; cases h'; rfl
        refine ⟨fn, (ps.zip us).foldl (fun tmps (x : Nat × Value) => tmps.setIfInBounds x.1 x.2) tmps, as, body, ?_, ?_⟩
        · have hz : ((⟨ps⟩ : Array Tmp).zip ⟨us⟩).foldl (fun tmps (x : Tmp × Value) => tmps.setIfInBounds x.1 x.2) tmps = (ps.zip us).foldl (fun tmps (x : Nat × Value) => tmps.setIfInBounds x.1 x.2) tmps := by
            rw [← Array.foldl_toList, Array.toList_zip]
          simp [Instr.yield, run_getLoop q1, e3]
        · refine roundIn_of_wpIn (F := fence ro) trivial ?_
          show as.wpIn (fence (some L.blk)) m P _ _ w
          have hA0 : At P G fc.ntmps K σ w { tmps := (ps.zip us).foldl (fun tmps (x : Nat × Value) => tmps.setIfInBounds x.1 x.2) tmps, defers := [] } ⟨env', []⟩ := ⟨hS, hG, e1, by rw [← q4]; exact e2, trivial⟩
          split at h
          · rename_i fr1 σ1 hev1
            refine (ih fid fc.live fc.ntmps (some l) as ⟨env', []⟩ σ _ fr1 σ1 hev1 o1 hT (some L.blk) m K w _ hA0 ⟨L, hL, rfl⟩ _ ?_).wpIn
            intro K1 w1 a1 hs1 hm1 he1 hz1
            split at h
            · rename_i pe1 f1 v1 p1 as1 b1 d1 n1 hgl1
              have hL1 : K1.loc l = some L := hs1.le.loc _ _ hL
              obtain ⟨c1, c2, c3, fn1, tmps1, D1, t1, t2, t3, t4⟩ := hs1.rel.objs _ _ _ hgl1 hL1
              have hblk1 := hs1.rel.blk _ _ hL1
              have hbusy : Stp P (fun _ => False) K1 σ1 w1 K1 (σ1.set l (.loop .busy pe1 f1 v1 p1 as1 b1 d1 n1)) { w1 with heap := w1.heap.setIfInBounds L.blk (.loop { state := .busy, pending := pe1, fn := fn1, tmps := tmps1, params := ⟨p1⟩, assign := as1, body := b1, defers := D1.blk }) } :=
                .setMap hs1.rel hgl1 rfl hL1 hblk1 ⟨c1, c2, c3, fn1, tmps1, D1, heap_set_same hblk1, t2, t3, t4⟩
              refine ⟨{ w1 with heap := w1.heap.setIfInBounds L.blk (.loop { state := .busy, pending := pe1, fn := fn1, tmps := tmps1, params := ⟨p1⟩, assign := as1, body := b1, defers := D1.blk }) }, ?_, ?_⟩
              · simp only [Instr.beginRound, Sem.run_bind, run_getLoop t1, Result.andThen_ok, run_setObj t1 (fun _ _ _ e => by cases e)]
                rfl
              · have hs2 : Stp P (fun _ => False) K σ w K1 (σ1.set l (.loop .busy pe1 f1 v1 p1 as1 b1 d1 n1)) _ := (hs1.trans hbusy).weaken fun _ _ e => e.elim id id
                -- the round's end
                have ending : ∀ (K2 : Kr) (σ2 : Store) (w2 : World) st2 pe2 f2 v2 p2 as2 b2 d2 n2 (jump : Option Code), Stp P (fun _ => False) K1 (σ1.set l (.loop .busy pe1 f1 v1 p1 as1 b1 d1 n1)) { w1 with heap := w1.heap.setIfInBounds L.blk (.loop { state := .busy, pending := pe1, fn := fn1, tmps := tmps1, params := ⟨p1⟩, assign := as1, body := b1, defers := D1.blk }) } K2 σ2 w2 →
                    σ2.get l = some (.loop st2 pe2 f2 v2 p2 as2 b2 d2 n2) → ∃ v w3, (Instr.endRound L.blk jump).run P w2 = .ok v w3 ∧ Ends P K σ w (.val (.bool jump.isNone)) (σ2.set l (.loop (if jump.isNone then .ready else .done) jump f2 v2 p2 as2 b2 d2 n2)) (.returned v) w3 := by
                  intro K2 σ2 w2 st2 pe2 f2 v2 p2 as2 b2 d2 n2 jump hs3 hgl2
                  have hL2 : K2.loc l = some L := hs3.le.loc _ _ hL1
                  obtain ⟨c1, c2, c3, fn2, tmps2, D2, t1, t2, t3, t4⟩ := hs3.rel.objs _ _ _ hgl2 hL2
                  have hblk2 := hs3.rel.blk _ _ hL2
                  have hset : Stp P (fun _ => False) K2 σ2 w2 K2 (σ2.set l (.loop (if jump.isNone then .ready else .done) jump f2 v2 p2 as2 b2 d2 n2)) { w2 with heap := w2.heap.setIfInBounds L.blk (.loop { state := if jump.isNone then .ready else .done, pending := jump, fn := fn2, tmps := tmps2, params := ⟨p2⟩, assign := as2, body := b2, defers := D2.blk }) } :=
                    .setMap hs3.rel hgl2 rfl hL2 hblk2 ⟨c1, c2, c3, fn2, tmps2, D2, heap_set_same hblk2, t2, t3, t4⟩
                  refine ⟨.bool jump.isNone, _, ?_, K2, .bool jump.isNone, ((hs2.trans hs3).trans hset).weaken (fun _ _ e => (e.elim (fun e => e.elim id id) id)), rfl, .bool _⟩
                  simp only [Instr.endRound, Sem.run_bind, run_getLoop t1, Result.andThen_ok, run_setObj t1 (fun _ _ _ e => by cases e)]
                  rfl
                have hA1 : At P G fc.ntmps K1 (σ1.set l (.loop .busy pe1 f1 v1 p1 as1 b1 d1 n1)) _ a1 fr1 := ⟨hbusy.rel, hG.mono hs1.le, he1, hz1, hm1⟩
                split at h
                · rename_i fr2 σ2 hev2
                  split at h
                  · rename_i hmk2 hgl2
                    cases h
                    refine (ih fid fc.live fc.ntmps (some l) body fr1 _ _ fr2 σ2 hev2 o2 hT (some L.blk) m K1 _ a1 hA1 ⟨L, hL1, rfl⟩ _ ?_).wpIn
                    intro K2 w2 a2 hs3 _ _ _
                    exact ending K2 σ2 w2 _ _ _ _ _ _ _ _ _ none hs3 hgl2
                  · cases h
                · rename_i fr2 σ2 hev2
                  split at h
                  · rename_i hmk2 hgl2
                    cases h
                    refine (ih fid fc.live fc.ntmps (some l) body fr1 _ _ fr2 σ2 hev2 o2 hT (some L.blk) m K1 _ a1 hA1 ⟨L, hL1, rfl⟩ _ ?_).wpIn
                    intro K2 w2 a2 hs3 _ _ _
                    exact ending K2 σ2 w2 _ _ _ _ _ _ _ _ _ (some .ret) hs3 hgl2
                  · cases h
                · rename_i i fr2 σ2 hev2
                  split at h
                  · rename_i hmk2 hgl2
                    cases h
                    refine (ih fid fc.live fc.ntmps (some l) body fr1 _ _ fr2 σ2 hev2 o2 hT (some L.blk) m K1 _ a1 hA1 ⟨L, hL1, rfl⟩ _ ?_).wpIn
                    intro K2 w2 a2 hs3 _ _ _
                    exact ending K2 σ2 w2 _ _ _ _ _ _ _ _ _ (some (.exit i)) hs3 hgl2
                  · cases h
                · cases h
            · cases h
          · cases h
    · cases h
  · cases h
end Go.Ev
