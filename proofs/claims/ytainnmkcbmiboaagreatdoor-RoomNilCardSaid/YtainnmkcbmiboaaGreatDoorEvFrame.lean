/-
  Ev: objects that stand by; what the evaluator's run over a region leaves.
-/
import Derived.Test.YtainnmkcbmiboaaGreatDoorEvInd
namespace Go.Ev
open Go
variable {P : Program} {G : Info}

theorem StoreRel.congr {K : Kr} {σ τ : Store} {w : World} (h : StoreRel P K σ w) (hn : τ.next = σ.next) (hg : ∀ o, τ.get o = σ.get o) : StoreRel P K τ w :=
  h.drop (Nat.le_of_eq hn.symm) fun p z e => by rw [← hg]; exact e
theorem Stp.congr {ex : Nat → Prop} {K K' : Kr} {σ σ' τ : Store} {w w' : World} (h : Stp P ex K σ w K' σ' w') (hn : τ.next = σ'.next) (hg : ∀ o, τ.get o = σ'.get o) : Stp P ex K σ w K' τ w' :=
  { h with
    rel := h.rel.congr hn hg
    next := by rw [hn]; exact h.next
    gain := fun o a b c => by rw [hg]; exact h.gain o a b c
    own := fun b hb ⟨o, x, L, h1, h2, h3, h4⟩ => h.own b hb ⟨o, x, L, by rw [← hg]; exact h1, h2, h3, h4⟩
    has := fun b hb ⟨o, x, L, h1, h3, h4⟩ => h.has b hb ⟨o, x, L, by rw [← hg]; exact h1, h3, h4⟩ }

/-- WHAT STANDS BY STAYS: a step over some objects is a step over more. -/
theorem Stp.frame {ex : Nat → Prop} {K K' : Kr} {σ σ' σp σp' : Store} {w w' : World} {pe : Nat → Option AObj} (hR : StoreRel P K σp w) (hS : Stp P ex K σ w K' σ' w')
    (hget : ∀ o, σp.get o = match pe o with | some x => some x | none => σ.get o) (hnext : σp.next = σ.next)
    (hget' : ∀ o, σp'.get o = match pe o with | some x => some x | none => σ'.get o) (hnext' : σp'.next = σ'.next)
    (hpe : ∀ o x, pe o = some x → σ.get o = none ∧ o < σ.next ∧ ¬ ex o) : Stp P ex K σp w K' σp' w' := by
  have hsub : ∀ o x, σ.get o = some x → σp.get o = some x ∧ pe o = none := fun o x e => by
    have : pe o = none := by
      cases hp : pe o with
      | none => rfl
      | some y => rw [(hpe o y hp).1] at e; cases e
    exact ⟨by rw [hget, this]; exact e, this⟩
  have hloc : ∀ o x, pe o = some x → K'.loc o = K.loc o := fun o x e => hS.old o (hpe o x e).2.1 (hpe o x e).2.2
  have hin : ∀ o x, pe o = some x → σp.get o = some x := fun o x e => by rw [hget, e]
  -- no object of the step lies where one lies that stands by
  have hapart : ∀ o x L, pe o = some x → K.loc o = some L → ¬ Has K σ L.blk := by
    rintro o x L hp hL ⟨p, y, M, h1, h2, h3⟩
    obtain ⟨g1, g2⟩ := hsub p y h1
    have := hR.sep o p x y L M (hin o x hp) g1 hL h2 h3.symm
    rw [this, g2] at hp; cases hp
  have hno : ∀ b, Own K σ b → Has K σ b := fun b ⟨o, x, L, h1, _, h3, h4⟩ => ⟨o, x, L, h1, h3, h4⟩
  have hcase : ∀ o x, σp'.get o = some x → pe o = some x ∨ (pe o = none ∧ σ'.get o = some x) := fun o x e => by
    rw [hget'] at e
    cases hp : pe o with
    | none => rw [hp] at e; exact .inr ⟨rfl, e⟩
    | some y => rw [hp] at e; cases e; exact .inl rfl
  refine ⟨hS.le, ⟨?_, ?_, ?_, ?_, hS.rel.frz, ?_, hS.rel.blk⟩, by rw [hnext, hnext']; exact hS.next, fun o ho he => hS.old o (by rw [← hnext]; exact ho) he, hS.size, ?_, ?_, ?_, ?_, ?_, hS.os, hS.tape, hS.output⟩
  · intro o x L hx hL
    rcases hcase o x hx with hp | ⟨hp, hx'⟩
    · rw [hloc o x hp] at hL
      exact ObjRel.keep hS.le (hS.same _ (hR.blk o L hL) fun ho => hapart o x L hp hL (hno _ ho)) (hR.objs o x L (hin o x hp) hL)
    · exact hS.rel.objs o x L hx' hL
  · intro o o' x x' L L' hx hx' hL hL' hb
    rcases hcase o x hx with hp | ⟨hp, h1⟩ <;> rcases hcase o' x' hx' with hp' | ⟨hp', h1'⟩
    · rw [hloc o x hp] at hL; rw [hloc o' x' hp'] at hL'
      exact hR.sep o o' x x' L L' (hin o x hp) (hin o' x' hp') hL hL' hb
    · rw [hloc o x hp] at hL
      exact absurd (hS.has L.blk (hR.blk o L hL) ⟨o', x', L', h1', hL', hb.symm⟩) (hapart o x L hp hL)
    · rw [hloc o' x' hp'] at hL'
      exact absurd (hS.has L'.blk (hR.blk o' L' hL') ⟨o, x, L, h1, hL, hb⟩) (hapart o' x' L' hp' hL')
    · exact hS.rel.sep o o' x x' L L' h1 h1' hL hL' hb
  · intro o ho; exact hS.rel.fresh o (by rw [← hnext']; exact ho)
  · intro o x hx
    rcases hcase o x hx with hp | ⟨hp, h1⟩
    · rw [hnext']; exact Nat.lt_of_lt_of_le (hpe o x hp).2.1 hS.next
    · rw [hnext']; exact hS.rel.got o x h1
  · rintro b j v hf ⟨o, x, L, hx, hm, hL, rfl⟩
    rcases hcase o x hx with hp | ⟨hp, h1⟩
    · rw [hloc o x hp] at hL
      rcases hS.froz L.blk j v (hR.blk o L hL) hf with h | h
      · exact hR.apart _ j v h ⟨o, x, L, hin o x hp, hm, hL, rfl⟩
      · exact hapart o x L hp hL h
    · exact hS.rel.apart _ j v hf ⟨o, x, L, h1, hm, hL, rfl⟩
  · intro o ho he hn
    rw [hget] at hn
    rw [hget']
    cases hp : pe o with
    | some x => rw [hp] at hn; cases hn
    | none => rw [hp] at hn; exact hS.gain o (by rw [← hnext]; exact ho) he hn
  · intro b hb hn
    exact hS.same b hb fun ⟨o, x, L, h1, h2, h3, h4⟩ => hn ⟨o, x, L, (hsub o x h1).1, h2, h3, h4⟩
  · rintro b hb ⟨o, x, L, hx, hm, hL, rfl⟩
    rcases hcase o x hx with hp | ⟨hp, h1⟩
    · rw [hloc o x hp] at hL
      exact ⟨o, x, L, hin o x hp, hm, hL, rfl⟩
    · obtain ⟨p, y, M, g1, g2, g3, g4⟩ := hS.own L.blk hb ⟨o, x, L, h1, hm, hL, rfl⟩
      exact ⟨p, y, M, (hsub p y g1).1, g2, g3, g4⟩
  · rintro b hb ⟨o, x, L, hx, hL, rfl⟩
    rcases hcase o x hx with hp | ⟨hp, h1⟩
    · rw [hloc o x hp] at hL
      exact ⟨o, x, L, hin o x hp, hL, rfl⟩
    · obtain ⟨p, y, M, g1, g3, g4⟩ := hS.has L.blk hb ⟨o, x, L, h1, hL, rfl⟩
      exact ⟨p, y, M, (hsub p y g1).1, g3, g4⟩
  · intro b j v hb hf
    rcases hS.froz b j v hb hf with h | ⟨o, x, L, h1, h3, h4⟩
    · exact .inl h
    · exact .inr ⟨o, x, L, (hsub o x h1).1, h3, h4⟩

/-! ### The evaluator's run over a region, step by step -/
structure StepLog (G : Info) (C : Oracle) (Y : Yielder) (fz : Nat → Bool) (base : Nat) (ops : Array Oper) (E : Nat → Env) (S : Nat → Store) (V : Nat → AV) (W : Nat → Bool) (j : Nat) (o : Oper) : Prop where
  want : wantedOf ops (E j) o = some (W j)
  env : E (j + 1) = consIf (E j) o.dst (V j)
  off : W j = false → V j = noRes ∧ S (j + 1) = S j
  on : W j = true → ∃ v1 σ1, evOp G C Y (base + j) o (E j) (S j) = some (.val v1, σ1) ∧ freezeIf G (fz j) σ1 v1 = some (V j, S (j + 1))
theorem evOps_log {C : Oracle} {Y : Yielder} {fz : Nat → Bool} {base : Nat} {ops : Array Oper} {keep : Bool} : ∀ (rest : List Oper) (i : Nat) (env : Env) (σ : Store) (sn : List Snap) (env' : Env) (σ' : Store) (sn' : List Snap),
    ops.toList.drop i = rest → evOps G C Y fz base ops keep rest i env σ sn = some (.done env' σ' sn') →
    ∃ (E : Nat → Env) (S : Nat → Store) (V : Nat → AV) (W : Nat → Bool), E i = env ∧ S i = σ ∧ E (i + rest.length) = env' ∧ S (i + rest.length) = σ' ∧ (∀ j o, i ≤ j → j < i + rest.length → ops[j]? = some o → StepLog G C Y fz base ops E S V W j o) ∧
      (keep = true → (∀ j, i ≤ j → j < i + rest.length → W j = true → snapAt sn' j = some ⟨j, E j, S j, V j, S (j + 1)⟩) ∧ ∀ j, (j < i ∨ (i ≤ j ∧ j < i + rest.length ∧ W j = false)) → snapAt sn' j = snapAt sn j)
  | [], i, env, σ, sn, env', σ', sn', hr, h => by
    simp only [evOps, Option.some.injEq, RR.done.injEq] at h
    obtain ⟨rfl, rfl, rfl⟩ := h
    exact ⟨fun _ => env, fun _ => σ, fun _ => noRes, fun _ => false, rfl, rfl, rfl, rfl, fun j o h1 h2 => by simp at h2; omega, fun _ => ⟨fun j h1 h2 => by simp at h2; omega, fun _ _ => rfl⟩⟩
  | o :: rest, i, env, σ, sn, env', σ', sn', hr, h => by
    have hi : i < ops.size := by
      have : (ops.toList.drop i).length = (o :: rest).length := by rw [hr]
      simp at this; omega
    have hoi : ops[i]? = some o := by
      have h1 : (ops.toList.drop i)[0]? = some o := by rw [hr]; rfl
      simpa using h1
    have hrest : ops.toList.drop (i + 1) = rest := by rw [← List.tail_drop, hr]; rfl
    have glue : ∀ (v : AV) (b : Bool) (σ1 : Store) (sn1 : List Snap), wantedOf ops env o = some b → (b = false → v = noRes ∧ σ1 = σ) → (b = true → ∃ v1 σ2, evOp G C Y (base + i) o env σ = some (.val v1, σ2) ∧ freezeIf G (fz i) σ2 v1 = some (v, σ1)) →
        (keep = true → sn1 = cond b (⟨i, env, σ, v, σ1⟩ :: sn) sn) → evOps G C Y fz base ops keep rest (i + 1) (consIf env o.dst v) σ1 sn1 = some (.done env' σ' sn') →
        ∃ (E : Nat → Env) (S : Nat → Store) (V : Nat → AV) (W : Nat → Bool), E i = env ∧ S i = σ ∧ E (i + (o :: rest).length) = env' ∧ S (i + (o :: rest).length) = σ' ∧ (∀ j o', i ≤ j → j < i + (o :: rest).length → ops[j]? = some o' → StepLog G C Y fz base ops E S V W j o') ∧
      (keep = true → (∀ j, i ≤ j → j < i + (o :: rest).length → W j = true → snapAt sn' j = some ⟨j, E j, S j, V j, S (j + 1)⟩) ∧ ∀ j, (j < i ∨ (i ≤ j ∧ j < i + (o :: rest).length ∧ W j = false)) → snapAt sn' j = snapAt sn j) := by
      intro v b σ1 sn1 hw hoff hon hsn hev
      obtain ⟨E, S, V, W, e1, e2, e3, e4, hlog, hsnap⟩ := evOps_log rest (i + 1) _ σ1 sn1 env' σ' sn' hrest hev
      have hne : ∀ j, i + 1 ≤ j → ¬ j = i := fun j h => by omega
      have hlen : i + (o :: rest).length = i + 1 + rest.length := by simp; omega
      refine ⟨fun j => if j = i then env else E j, fun j => if j = i then σ else S j, fun j => if j = i then v else V j, fun j => if j = i then b else W j, if_pos rfl, if_pos rfl, ?_, ?_, ?_, ?_⟩
      · rw [hlen]; simp only [hne (i + 1 + rest.length) (by omega), if_false]; exact e3
      · rw [hlen]; simp only [hne (i + 1 + rest.length) (by omega), if_false]; exact e4
      · intro j o' h1 h2 ho'
        by_cases hj : j = i
        · subst hj
          rw [hoi] at ho'; cases ho'
          refine ⟨by simpa using hw, ?_, ?_, ?_⟩
          · simp only [hne (j + 1) (by omega), if_false, if_true]; exact e1
          · intro hb; simp only [if_true] at hb; simp only [hne (j + 1) (by omega), if_false, if_true]; rw [e2]; exact hoff hb
          · intro hb; simp only [if_true] at hb; simp only [hne (j + 1) (by omega), if_false, if_true]; rw [e2]; exact hon hb
        · have hl := hlog j o' (by omega) (by omega) ho'
          refine ⟨?_, ?_, ?_, ?_⟩ <;> simp only [hj, hne (j + 1) (by omega), if_false]
          · exact hl.want
          · exact hl.env
          · exact hl.off
          · exact hl.on
      · intro hk
        obtain ⟨s1, s2⟩ := hsnap hk
        refine ⟨fun j h1 h2 hw' => ?_, fun j hj => ?_⟩
        · by_cases hji : j = i
          · subst hji
            simp only [if_true] at hw'
            subst hw'
            simp only [hne (j + 1) (by omega), if_false, if_true]
            rw [s2 j (.inl (by omega)), hsn hk, cond_true, e2]
            simp [snapAt]
          · simp only [hji, if_false] at hw'
            simp only [hji, hne (j + 1) (by omega), if_false]
            exact s1 j (by omega) (by omega) hw'
        · by_cases hji : j = i
          · subst hji
            rcases hj with hj | ⟨_, _, hw'⟩
            · omega
            · simp only [if_true] at hw'
              subst hw'
              rw [s2 j (.inl (by omega)), hsn hk]; rfl
          · have hj' : j < i + 1 ∨ (i + 1 ≤ j ∧ j < i + 1 + rest.length ∧ W j = false) := by
              rcases hj with hj | ⟨h1, h2, h3⟩
              · exact .inl (by omega)
              · simp only [hji, if_false] at h3
                exact .inr ⟨by omega, by omega, h3⟩
            rw [s2 j hj', hsn hk]
            cases b with
            | false => rfl
            | true => simp [snapAt, beq_no (fun e => hji e.symm)]
    simp only [evOps] at h
    split at h
    · cases h
    · rename_i hw
      exact glue noRes false σ sn hw (fun _ => ⟨rfl, rfl⟩) (fun e => by cases e) (fun _ => rfl) h
    · rename_i hw
      split at h
      · cases h
      · cases h
      · rename_i v σ1 hev
        split at h
        · cases h
        · rename_i v2 σ2 hfz
          exact glue v2 true σ2 _ hw (fun e => by cases e) (fun _ => ⟨v, σ1, hev, hfz⟩) (fun hk => by rw [hk]) h
end Go.Ev
