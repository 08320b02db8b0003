/-
  Ev: a region whose order is drawn comes to what the evaluator's own order comes to.
-/
import Derived.Test.YtainnmkcbmiboaaGreatDoorEvChk
namespace Go.Ev
open Go
variable {P : Program} {G : Info}

theorem MasksOk.lt {ops : Array Oper} {ms : List Nat} (h : MasksOk ops ms) : ∀ (j : Nat) o b, ops[j]? = some o → (nth ms j).testBit b = true → b < j := by
  intro j
  induction j using Nat.strongRecOn with
  | _ j ih =>
    intro o b ho hb
    obtain ⟨e, he, hbi, h1⟩ := h.bits j o ho b hb
    have hlt := h.below j o ho e he hbi
    rcases h1 with rfl | h1
    · exact hlt
    · have hj' : j < ops.size := (Array.getElem?_eq_some_iff.1 ho).1
      exact Nat.lt_trans (ih e.on hlt ops[e.on] b (Array.getElem?_eq_getElem (by omega)) h1) hlt
theorem mem_tmpsOf : ∀ {l : List Operand} {t : Nat}, .tmp t ∈ l → t ∈ tmpsOf l
  | [], t, h => by simp at h
  | x :: r, t, h => by
    rcases List.mem_cons.1 h with h | h
    · rw [← h]; simp [tmpsOf]
    · have := mem_tmpsOf h
      cases x <;> simp [tmpsOf, this]
theorem opd_some {K : Kr} {env : Env} {a : Act} (hg : GlobRel G K) {x : Operand} {v : AV} (he : ∀ t, x = .tmp t → look env t = some v → ∃ u, a.tmps[t]? = some u ∧ VR K v u) (h : opd G env x = some v) : VR K v (a.eval x) := by
  cases x with
  | tmp t =>
    obtain ⟨u, hu, hv⟩ := he t rfl h
    simpa [Act.eval, hu] using hv
  | const c => exact ofVal_sound h
  | global g =>
    simp only [opd, Option.map_eq_some_iff] at h
    obtain ⟨cs, h1, rfl⟩ := h
    obtain ⟨vs, h2, h3⟩ := hg.vars g cs h1
    simpa [Act.eval] using VR.cptr (K := K) 0 g 0 vs h2.1 h3 h2.2
  | func f =>
    simp only [opd] at h; cases h
    simpa [Act.eval] using VR.fn (K := K) (f := f) (us := []) (vs := []) rfl rfl (fun j c v h => by simp at h) (fun j c v h => by simp at h)
theorem wanted_some {K : Kr} {ops : Array Oper} {env : Env} {tmps : Array Value} {o : Oper} {b : Bool} (h : ∀ t ∈ guardTmp ops o, ∀ v, look env t = some v → ∃ u, tmps[t]? = some u ∧ VR K v u) (hw : wantedOf ops env o = some b) : Region.wanted o (yielded ops tmps) = b := by
  unfold wantedOf at hw
  unfold Region.wanted
  split at hw
  · rename_i hg; cases hw; rw [hg]
  · rename_i g want hg
    rw [hg]
    split at hw
    · rename_i p hp
      split at hw
      · rename_i d hd
        split at hw
        · rename_i b0 hl
          cases hw
          obtain ⟨u, hu, hv⟩ := h d (by simp [guardTmp, hg, hp, hd]) _ hl
          rw [hv.bool_inv] at hu
          have : yielded ops tmps g = some b0 := by simp [yielded, hp, hd, hu]
          simp only [this]
          cases b0 <;> cases want <;> rfl
        · cases hw
      · cases hw
    · cases hw

/-- What is fixed for a region. -/
structure Reg (G : Info) (C : Oracle) (Y : Yielder) (fz : Nat → Bool) (fr : List (Nat × Nat)) (base : Nat) (ops : Array Oper) (ms : List Nat) (T : Nat) (E : Nat → Env) (S : Nat → Store) (V : Nat → AV) (W : Nat → Bool) : Prop where
  log : ∀ j o, ops[j]? = some o → StepLog G C Y fz base ops E S V W j o
  ok : DrawOk fz fr ops ms
  free : ∀ r e o, (r, e) ∈ fr → ops[r]? = some o → W r = true → e < ops.size → W e = true → (∃ τ, evOp G C Y 0 o (E r) (S e) = some (.val (V r), τ)) ∧ ∃ τ, evOp G C Y 0 o (E r) (S (e + 1)) = some (.val (V r), τ)
  dst : ∀ (j : Nat) (o : Oper) (d : Nat), ops[j]? = some o → o.dst = some d → d < T

section
variable {C : Oracle} {Y : Yielder} {fz : Nat → Bool} {fr : List (Nat × Nat)} {base : Nat} {ops : Array Oper} {ms : List Nat} {T : Nat} {E : Nat → Env} {S : Nat → Store} {V : Nat → AV} {W : Nat → Bool}
variable (R : Reg G C Y fz fr base ops ms T E S V W)
include R

theorem Reg.quiet {j : Nat} {o : Oper} (ho : ops[j]? = some o) (hc : clsOf o ≠ 2) (hw : W j = true) : evOp G C Y (base + j) o (E j) (S j) = some (.val (V j), S j) ∧ S (j + 1) = S j := by
  obtain ⟨v1, σ1, h1, h2⟩ := (R.log j o ho).on hw
  rw [R.ok.frz j o ho hc] at h2
  simp only [freezeIf, cond_false, Option.some.injEq, Prod.mk.injEq] at h2
  obtain ⟨rfl, rfl⟩ := h2
  have : S (j + 1) = S j := by
    rcases clsOf_le o with h | h | h
    · exact (pure_indep (C' := C) (Y' := Y) (q' := 0) h h1).1
    · exact (read_same h h1).1.1
    · exact absurd h hc
  rw [this] at h1
  exact ⟨h1, this⟩
theorem Reg.still {j : Nat} {o : Oper} (ho : ops[j]? = some o) (h : ¬ (clsOf o = 2 ∧ W j = true)) : S (j + 1) = S j := by
  cases hw : W j with
  | false => exact ((R.log j o ho).off hw).2
  | true => exact (R.quiet ho (fun hc => h ⟨hc, hw⟩) hw).2

/-- a read answers alike, wherever the effects stand -/
theorem Reg.read {D : Nat → Prop} (hD : Down ops D) {f i : Nat} {o : Oper} (ho : ops[i]? = some o) (hc : clsOf o = 1) (hw : W i = true) (hi : ¬ D i) (hr : ∀ e ∈ o.after, Region.binds .any e = true → D e.on)
    (hf : f ≤ ops.size) (hup : ∀ j p, j < f → ops[j]? = some p → clsOf p = 2 → D j) (hfr : ∀ p, ops[f]? = some p → clsOf p = 2 ∧ ¬ D f) : ∀ q, evOp G C Y q o (E i) (S f) = some (.val (V i), S f) := by
  have hin : i < ops.size := (Array.getElem?_eq_some_iff.1 ho).1
  obtain ⟨hcan, hst⟩ := R.quiet ho (by omega) hw
  have fin : ∀ f', (∃ τ q, evOp G C Y q o (E i) (S f') = some (.val (V i), τ)) → ∀ q, evOp G C Y q o (E i) (S f') = some (.val (V i), S f') := by
    rintro f' ⟨τ, q, h⟩ q'
    obtain ⟨⟨rfl, _⟩, h2⟩ := read_same hc h
    rw [← h2 C Y q' (S f')]; exact h
  have hready : ∀ b, (nth ms i).testBit b = true → D b := fun b hb => R.ok.masks.ready hD ho hr hb
  refine fin f ?_
  rcases Nat.le_total f i with hle | hle
  · -- the effects between f and i have not been done
    have up : ∀ k f', k = i - f' → f ≤ f' → f' ≤ i → ∃ τ q, evOp G C Y q o (E i) (S f') = some (.val (V i), τ) := by
      intro k
      induction k with
      | zero => intro f' hk h1 h2; have : f' = i := by omega
                subst this; exact ⟨_, _, hcan⟩
      | succ k ih =>
        intro f' hk h1 h2
        have hlt : f' < ops.size := by omega
        have hp : ops[f']? = some ops[f'] := Array.getElem?_eq_getElem hlt
        by_cases he : clsOf ops[f'] = 2 ∧ W f' = true
        · have hdf : ¬ D f ∧ clsOf ops[f]! = clsOf ops[f]! := ⟨(hfr ops[f] (Array.getElem?_eq_getElem (by omega))).2, rfl⟩
          rcases R.ok.read i o ho hc f' ops[f'] hp he.1 with ⟨h3, h4⟩ | h3 | h3
          · exfalso
            rcases Nat.lt_or_ge f f' with h5 | h5
            · have hpf : ops[f]? = some ops[f] := Array.getElem?_eq_getElem (by omega)
              exact hdf.1 (hready f (h4 f ops[f] h5 hpf (hfr _ hpf).1))
            · have : f' = f := by omega
              subst this
              exact hdf.1 (hready f' h3)
          · have := R.ok.masks.lt f' ops[f'] i hp h3
            omega
          · obtain ⟨⟨τ, h4⟩, _⟩ := R.free i f' o h3 ho hw hlt he.2
            exact ⟨τ, 0, h4⟩
        · rw [← R.still hp he]
          exact ih (f' + 1) (by omega) (by omega) (by omega)
    exact up _ f rfl (Nat.le_refl _) hle
  · rcases Nat.eq_or_lt_of_le hle with he | hlt
    · subst he; exact ⟨_, _, hcan⟩
    · have down : ∀ k f', k = f' - i → i < f' → f' ≤ f → ∃ τ q, evOp G C Y q o (E i) (S f') = some (.val (V i), τ) := by
        intro k
        induction k with
        | zero => intro f' hk h1; omega
        | succ k ih =>
          intro f' hk h1 h2
          obtain ⟨g, rfl⟩ : ∃ g, f' = g + 1 := ⟨f' - 1, by omega⟩
          have hlt : g < ops.size := by omega
          have hp : ops[g]? = some ops[g] := Array.getElem?_eq_getElem hlt
          by_cases hgi : g = i
          · subst hgi; rw [hst]; exact ⟨_, _, hcan⟩
          · by_cases he : clsOf ops[g] = 2 ∧ W g = true
            · have hDg := hup g ops[g] (by omega) hp he.1
              rcases R.ok.read i o ho hc g ops[g] hp he.1 with ⟨h3, _⟩ | h3 | h3
              · have := R.ok.masks.lt i o g ho h3
                omega
              · exact absurd (R.ok.masks.down hD g ops[g] i hp hDg h3) hi
              · obtain ⟨_, ⟨τ, h4⟩⟩ := R.free i g o h3 ho hw hlt he.2
                exact ⟨τ, 0, h4⟩
            · rw [R.still hp he]
              exact ih g (by omega) (by omega) (by omega)
      exact down _ f rfl hlt (Nat.le_refl _)

/-- what stands in the environment -/
theorem Reg.look : ∀ (k : Nat), k ≤ ops.size → ∀ t v, look (E k) t = some v → (∃ j o, j < k ∧ ops[j]? = some o ∧ o.dst = some t ∧ v = V j) ∨ (look (E 0) t = some v ∧ ∀ j o, j < k → ops[j]? = some o → o.dst ≠ some t)
  | 0, _, t, v, h => .inr ⟨h, fun j o hj => by omega⟩
  | k + 1, hk, t, v, h => by
    have hp : ops[k]? = some ops[k] := Array.getElem?_eq_getElem (by omega)
    have hl := R.log k ops[k] hp
    rw [hl.env] at h
    have rest : ops[k].dst ≠ some t → Ev.look (E k) t = some v → (∃ j o, j < k + 1 ∧ ops[j]? = some o ∧ o.dst = some t ∧ v = V j) ∨ (Ev.look (E 0) t = some v ∧ ∀ j o, j < k + 1 → ops[j]? = some o → o.dst ≠ some t) := fun hne h =>
      (Reg.look k (by omega) t v h).imp (fun ⟨j, o, a, b, c, d⟩ => ⟨j, o, by omega, b, c, d⟩) (fun ⟨a, b⟩ => ⟨a, fun j o hj ho => by
        by_cases hjk : j = k
        · subst hjk; rw [hp] at ho; cases ho; exact hne
        · exact b j o (by omega) ho⟩)
    cases hd : ops[k].dst with
    | none => rw [hd] at h; exact rest (by rw [hd]; simp) h
    | some d =>
      rw [hd] at h
      simp only [consIf, look_cons] at h
      split at h
      · rename_i e; subst e; cases h
        exact .inl ⟨k, ops[k], by omega, hp, hd, rfl⟩
      · rename_i e
        exact rest (by rw [hd]; intro e'; cases e'; exact e rfl) h

/-- The temporaries, when some operations have been done. -/
structure TmpInv (D : Nat → Prop) (K : Kr) (tmps : Array Value) (ops : Array Oper) (E : Nat → Env) (V : Nat → AV) : Prop where
  made : ∀ j o d, ops[j]? = some o → D j → o.dst = some d → ∃ u, tmps[d]? = some u ∧ VR K (V j) u
  kept : ∀ t v, Ev.look (E 0) t = some v → (∀ j o, ops[j]? = some o → o.dst = some t → ¬ D j) → ∃ u, tmps[t]? = some u ∧ VR K v u
omit R in
theorem TmpInv.mono {D : Nat → Prop} {K K' : Kr} {tmps : Array Value} (h : TmpInv D K tmps ops E V) (hk : K.Le K') : TmpInv D K' tmps ops E V :=
  ⟨fun j o d a b c => let ⟨u, x, y⟩ := h.made j o d a b c; ⟨u, x, y.mono hk⟩, fun t v a b => let ⟨u, x, y⟩ := h.kept t v a b; ⟨u, x, y.mono hk⟩⟩
/-- what an operation that may come next looks at -/
theorem Reg.looks {D : Nat → Prop} {K : Kr} {tmps : Array Value} (hT : TmpInv D K tmps ops E V) (hD : Down ops D) {i : Nat} {o : Oper} (ho : ops[i]? = some o) (hi : ¬ D i) (hr : ∀ e ∈ o.after, Region.binds .any e = true → D e.on) :
    ∀ t ∈ looksOf ops o, ∀ v, Ev.look (E i) t = some v → ∃ u, tmps[t]? = some u ∧ VR K v u := by
  intro t ht v hv
  have hin : i < ops.size := (Array.getElem?_eq_some_iff.1 ho).1
  rcases R.look i (by omega) t v hv with ⟨j, p, hj, hp, hd, rfl⟩ | ⟨h1, h2⟩
  · rcases R.ok.ahead i j o p t ho hp hd ht with h | h | h
    · omega
    · exact hT.made j p t hp (R.ok.masks.ready hD ho hr h) hd
    · have := R.ok.masks.lt j p i hp h; omega
  · refine hT.kept t v h1 fun j p hp hd hDj => ?_
    have hji : ¬ j < i := fun h => h2 j p h hp hd
    rcases R.ok.ahead i j o p t ho hp hd ht with h | h | h
    · subst h; exact hi hDj
    · have := R.ok.masks.lt i o j ho h; omega
    · exact hi (R.ok.masks.down hD j p i hp hDj h)
/-- one more is done -/
theorem Reg.tmps {D : Nat → Prop} {K : Kr} {a : Act} (hT : TmpInv D K a.tmps ops E V) (hsz : a.tmps.size = T) {i : Nat} {o : Oper} (ho : ops[i]? = some o) {u : Value} (hv : VR K (V i) u) :
    TmpInv (fun j => D j ∨ j = i) K (a.put o.dst u).tmps ops E V := by
  have other : ∀ t, o.dst ≠ some t → (a.put o.dst u).tmps[t]? = a.tmps[t]? := fun t ht => by
    cases hd : o.dst with
    | none => rfl
    | some d =>
      have : d ≠ t := fun e => ht (by rw [hd, e])
      simp [Act.put, Array.getElem?_setIfInBounds_ne this]
  refine ⟨fun j p d hp hj hd => ?_, fun t v ht hno => ?_⟩
  · by_cases hji : j = i
    · subst hji
      rw [ho] at hp; cases hp
      have hlt := R.dst j o d ho hd
      exact ⟨u, by simp [Act.put, hd, hsz, hlt], hv⟩
    · rcases hj with hj | hj
      · have hne : o.dst ≠ some d := fun e => hji (R.ok.once j i p o d hp ho hd e)
        rw [other d hne]; exact hT.made j p d hp hj hd
      · exact absurd hj hji
  · have hne : o.dst ≠ some t := fun e => hno i o ho e (.inr rfl)
    rw [other t hne]
    exact hT.kept t v ht fun j p hp hd hj => hno j p hp hd (.inl hj)
end
end Go.Ev
