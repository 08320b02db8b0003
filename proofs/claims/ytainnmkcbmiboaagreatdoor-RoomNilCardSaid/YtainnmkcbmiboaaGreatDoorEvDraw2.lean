/-
  Ev: a region whose order is drawn: the invariant, the steps, the end.
-/
import Derived.Test.YtainnmkcbmiboaaGreatDoorEvDraw
namespace Go.Ev
open Go
variable {P : Program} {G : Info}
variable {C : Oracle} {Y : Yielder} {fz : Nat → Bool} {fr : List (Nat × Nat)} {base : Nat} {ops : Array Oper} {ms : List Nat} {T : Nat} {E : Nat → Env} {S : Nat → Store} {V : Nat → AV} {W : Nat → Bool}
variable {K0 : Kr} {w0 : World} {dfs : List Deferred}

structure Inv (P : Program) (G : Info) (base : Nat) (ops : Array Oper) (T : Nat) (E : Nat → Env) (S : Nat → Store) (V : Nat → AV) (W : Nat → Bool) (K0 : Kr) (w0 : World) (dfs : List Deferred)
    (D : Nat → Prop) (f : Nat) (pe : Nat → Option AObj) (σp : Store) (K : Kr) (w : World) (a : Act) : Prop where
  down : Down ops D
  hf : f ≤ ops.size
  upto : ∀ (j : Nat) p, j < f → ops[j]? = some p → clsOf p = 2 → D j
  rel : Stp P (base ≤ ·) K0 (S 0) w0 K σp w
  get : ∀ o, σp.get o = match pe o with | some x => some x | none => (S f).get o
  next : σp.next = (S f).next
  pe1 : ∀ o x, pe o = some x → ∃ i p, f ≤ i ∧ ops[i]? = some p ∧ D i ∧ clsOf p = 2 ∧ W i = true ∧ o = base + i ∧ S (i + 1) = (S i).add o x ∧ (S f).get o = none
  pe2 : ∀ (i : Nat) p, f ≤ i → ops[i]? = some p → D i → clsOf p = 2 → W i = true → ∃ x, pe (base + i) = some x ∧ S (i + 1) = (S i).add (base + i) x
  fresh : ∀ j, j < ops.size → ¬ D j → K.loc (base + j) = none ∧ (S f).get (base + j) = none
  room : base + ops.size ≤ (S f).next
  glob : GlobRel G K
  tmps : TmpInv D K a.tmps ops E V
  size : a.tmps.size = T
  defers : a.defers = dfs

section
variable (R : Reg G C Y fz fr base ops ms T E S V W)
include R

theorem Inv.advance {D : Nat → Prop} {f : Nat} {pe : Nat → Option AObj} {σp : Store} {K : Kr} {w : World} {a : Act} (I : Inv P G base ops T E S V W K0 w0 dfs D f pe σp K w a)
    {p : Oper} (hp : ops[f]? = some p) (h : ¬ (clsOf p = 2 ∧ ¬ D f)) : ∃ pe', Inv P G base ops T E S V W K0 w0 dfs D (f + 1) pe' σp K w a := by
  have hlt : f < ops.size := (Array.getElem?_eq_some_iff.1 hp).1
  have hup : ∀ (j : Nat) q, j < f + 1 → ops[j]? = some q → clsOf q = 2 → D j := fun j q hj hq hc => by
    by_cases hjf : j = f
    · subst hjf
      rw [hp] at hq; cases hq
      exact Classical.byContradiction fun hn => h ⟨hc, hn⟩
    · exact I.upto j q (by omega) hq hc
  by_cases he : clsOf p = 2 ∧ W f = true
  · have hDf : D f := Classical.byContradiction fun hn => h ⟨he.1, hn⟩
    obtain ⟨x, hx, hS⟩ := I.pe2 f p (Nat.le_refl _) hp hDf he.1 he.2
    refine ⟨fun o => if o = base + f then none else pe o, I.down, by omega, hup, I.rel, ?_, ?_, ?_, ?_, ?_, ?_, I.glob, I.tmps, I.size, I.defers⟩
    · intro o
      rw [I.get o, hS, Store.get_add]
      by_cases ho : o = base + f
      · subst ho; rw [hx]; simp
      · have ho' : ¬ base + f = o := fun e => ho e.symm
        simp only [ho, ho', if_false]
    · rw [I.next, hS]; rfl
    · intro o y ho
      split at ho
      · cases ho
      · rename_i hne
        obtain ⟨i, q, h1, h2, h3, h4, h5, h6, h7, h8⟩ := I.pe1 o y ho
        refine ⟨i, q, ?_, h2, h3, h4, h5, h6, h7, ?_⟩
        · have : i ≠ f := fun e => hne (by rw [h6, e])
          omega
        · rw [hS, Store.get_add, if_neg (fun e => hne e.symm)]; exact h8
    · intro i q h1 h2 h3 h4 h5
      obtain ⟨y, h6, h7⟩ := I.pe2 i q (by omega) h2 h3 h4 h5
      exact ⟨y, by simp only [show ¬ base + i = base + f by omega, if_false]; exact h6, h7⟩
    · intro j hj hn
      obtain ⟨h1, h2⟩ := I.fresh j hj hn
      refine ⟨h1, ?_⟩
      have : j ≠ f := fun e => hn (e ▸ hDf)
      rw [hS, Store.get_add, if_neg (by omega)]; exact h2
    · rw [hS]; exact I.room
  · have hS := R.still hp he
    refine ⟨pe, I.down, by omega, hup, I.rel, by rw [hS]; exact I.get, by rw [hS]; exact I.next, ?_, ?_, by rw [hS]; exact I.fresh, by rw [hS]; exact I.room, I.glob, I.tmps, I.size, I.defers⟩
    · intro o y ho
      obtain ⟨i, q, h1, h2, h3, h4, h5, h6, h7, h8⟩ := I.pe1 o y ho
      refine ⟨i, q, ?_, h2, h3, h4, h5, h6, h7, by rw [hS]; exact h8⟩
      have : i ≠ f := by rintro rfl; rw [hp] at h2; cases h2; exact he ⟨h4, h5⟩
      omega
    · intro i q h1 h2 h3 h4 h5
      exact I.pe2 i q (by omega) h2 h3 h4 h5
theorem Inv.front {D : Nat → Prop} {σp : Store} {K : Kr} {w : World} {a : Act} : ∀ (k f : Nat) (pe : Nat → Option AObj), k = ops.size - f → Inv P G base ops T E S V W K0 w0 dfs D f pe σp K w a →
    ∃ f' pe', Inv P G base ops T E S V W K0 w0 dfs D f' pe' σp K w a ∧ ∀ p, ops[f']? = some p → clsOf p = 2 ∧ ¬ D f'
  | 0, f, pe, hk, I => ⟨f, pe, I, fun p hp => by
      have := (Array.getElem?_eq_some_iff.1 hp).1
      omega⟩
  | k + 1, f, pe, hk, I => by
    have hp : ops[f]? = some ops[f] := Array.getElem?_eq_getElem (by omega)
    by_cases h : clsOf ops[f] = 2 ∧ ¬ D f
    · exact ⟨f, pe, I, fun p hp' => by rw [hp] at hp'; cases hp'; exact h⟩
    · obtain ⟨pe', I'⟩ := I.advance R hp h
      exact Inv.front k (f + 1) pe' (by omega) I'

omit R in
theorem Down.more {D : Nat → Prop} (hD : Down ops D) {i : Nat} {o : Oper} (ho : ops[i]? = some o) (hr : ∀ e ∈ o.after, Region.binds .any e = true → D e.on) : Down ops (fun j => D j ∨ j = i) := by
  intro j p hp hj e he hb
  rcases hj with hj | rfl
  · exact .inl (hD j p hp hj e he hb)
  · rw [ho] at hp; cases hp
    exact .inl (hr e he hb)

omit R in
theorem look_append {α : Type} (l r : List (Nat × α)) (o : Nat) : look (l ++ r) o = match look l o with | some x => some x | none => look r o := by
  induction l with
  | nil => rfl
  | cons e l ih =>
    obtain ⟨k, u⟩ := e
    simp only [List.cons_append, look_cons, ih]
    split <;> rfl
omit R in
theorem look_filter {α : Type} (p : Nat → Bool) (l : List (Nat × α)) (o : Nat) : look (l.filter fun e => p e.1) o = if p o = true then look l o else none := by
  induction l with
  | nil => simp [look]
  | cons e l ih =>
    obtain ⟨k, u⟩ := e
    simp only [List.filter_cons]
    by_cases hk : p k = true
    · rw [if_pos hk, look_cons, look_cons, ih]
      by_cases h : k = o
      · subst h; simp [hk]
      · simp [h]
    · rw [if_neg hk, ih, look_cons]
      by_cases h : k = o
      · subst h; simp [hk]
      · simp [h]
/-- What stands by, and a store. -/
def standBy (σp σ1 : Store) (pe : Nat → Option AObj) : Store := { next := σ1.next, objs := (σp.objs.filter fun e => (pe e.1).isSome) ++ σ1.objs }
omit R in
theorem standBy_get {σp σ1 : Store} {pe : Nat → Option AObj} (h : ∀ o x, pe o = some x → σp.get o = some x) (o : Nat) : (standBy σp σ1 pe).get o = match pe o with | some x => some x | none => σ1.get o := by
  unfold Store.get standBy
  simp only
  rw [look_append, look_filter (fun k => (pe k).isSome)]
  cases hp : pe o with
  | none => simp
  | some x =>
    have := h o x hp
    unfold Store.get at this
    simp [this]


omit R in
theorem Inv.parts {D : Nat → Prop} {f : Nat} {pe : Nat → Option AObj} {σp : Store} {K : Kr} {w : World} {a : Act} (I : Inv P G base ops T E S V W K0 w0 dfs D f pe σp K w a) :
    StoreRel P K (S f) w ∧ ∀ i, ¬ D i → ∀ o x, pe o = some x → (S f).get o = none ∧ o < (S f).next ∧ ¬ (o = base + i) := by
  refine ⟨I.rel.rel.drop (Nat.le_of_eq I.next) fun p z e => ?_, fun i hi o x ho => ?_⟩
  · rw [I.get]
    cases hp : pe p with
    | none => exact e
    | some x => obtain ⟨_, _, _, _, _, _, _, _, _, h⟩ := I.pe1 p x hp; rw [h] at e; cases e
  · obtain ⟨j, q, h1, h2, h3, h4, h5, h6, h7, h8⟩ := I.pe1 o x ho
    have hj := (Array.getElem?_eq_some_iff.1 h2).1
    have hroom := I.room
    exact ⟨h8, by omega, fun e => hi (by have : j = i := by omega
                                         exact this ▸ h3)⟩
omit R in
/-- one step of the machine, of the store ahead of the front, with what stands by -/
theorem Inv.onward {D : Nat → Prop} {f i : Nat} {pe : Nat → Option AObj} {σp σ1 : Store} {K K' : Kr} {w w' : World} {a : Act} (I : Inv P G base ops T E S V W K0 w0 dfs D f pe σp K w a) (hi : ¬ D i)
    (hs : Stp P (· = base + i) K (S f) w K' σ1 w') : Stp P (base ≤ ·) K0 (S 0) w0 K' (standBy σp σ1 pe) w' ∧ (∀ o, (standBy σp σ1 pe).get o = match pe o with | some x => some x | none => σ1.get o) ∧
      ∀ j, j < ops.size → ¬ (D j ∨ j = i) → K'.loc (base + j) = none ∧ σ1.get (base + j) = none := by
  obtain ⟨h1, h2⟩ := I.parts
  have hin : ∀ o x, pe o = some x → σp.get o = some x := fun o x e => by rw [I.get, e]
  have hget := standBy_get (σ1 := σ1) hin
  have hroom := I.room
  refine ⟨(I.rel.trans (Stp.frame (σp' := standBy σp σ1 pe) I.rel.rel hs I.get I.next hget rfl (h2 i hi))).weaken fun o _ e => e.elim id fun e => by omega, hget, fun j hj hn => ?_⟩
  obtain ⟨g1, g2⟩ := I.fresh j hj fun h => hn (.inl h)
  have hne : ¬ base + j = base + i := fun e => hn (.inr (by omega))
  exact ⟨(hs.old _ (by omega) hne).trans g1, hs.gain _ (by omega) hne g2⟩

theorem Inv.step (hT : Told P G) (hC : OracleOk P G C) (hY : YielderOk P G Y) {ro : Option Nat} {n : Nat} {D : Nat → Prop} {f i : Nat} {pe : Nat → Option AObj} {σp : Store} {K : Kr} {w : World} {a : Act} {o : Oper}
    (I : Inv P G base ops T E S V W K0 w0 dfs D f pe σp K w a) (hfr : ∀ p, ops[f]? = some p → clsOf p = 2 ∧ ¬ D f) (ho : ops[i]? = some o) (hi : ¬ D i) (hr : ∀ e ∈ o.after, Region.binds .any e = true → D e.on)
    {next : Act → World → Prop} {Q : Exit → Act → World → Prop} (hnext : ∀ f' pe' σp' K' w' a', Inv P G base ops T E S V W K0 w0 dfs (fun j => D j ∨ j = i) f' pe' σp' K' w' a' → next a' w') :
    if Region.wanted o (yielded ops a.tmps) then o.wpIn (fence ro) n P a w next Q else (∀ f, o.about P w a.eval = some f → (fence ro).fn f) ∧ next (a.put o.dst undef) w := by
  have hin : i < ops.size := (Array.getElem?_eq_some_iff.1 ho).1
  have hl := R.log i o ho
  have hlook := R.looks I.tmps I.down ho hi hr
  have hw := wanted_some (K := K) (tmps := a.tmps) (fun t ht v hv => hlook t (by simp [looksOf, ht]) v hv) hl.want
  have hdown := Down.more I.down ho hr
  have hroom := I.room
  rw [hw]
  cases hWi : W i with
  | false =>
    simp only [Bool.false_eq_true, if_false]
    refine ⟨about_any o _, hnext f pe σp K w _ ⟨hdown, I.hf, fun j p h1 h2 h3 => .inl (I.upto j p h1 h2 h3), I.rel, I.get, I.next, ?_, ?_, fun j h1 h2 => I.fresh j h1 fun h => h2 (.inl h), I.room, I.glob, ?_, ?_, ?_⟩⟩
    · intro o' x ho'
      obtain ⟨j, q, h1, h2, h3, h4⟩ := I.pe1 o' x ho'
      exact ⟨j, q, h1, h2, .inl h3, h4⟩
    · intro j q h1 h2 h3 h4 h5
      rcases h3 with h3 | rfl
      · exact I.pe2 j q h1 h2 h3 h4 h5
      · rw [hWi] at h5; cases h5
    · refine R.tmps I.tmps I.size ho ?_
      rw [(hl.off hWi).1]; exact VR.tup' .nil
    · rw [put_size]; exact I.size
    · rw [put_defers]; exact I.defers
  | true =>
    simp only [if_true]
    obtain ⟨hSf, hpe⟩ := I.parts
    obtain ⟨fr1, fr2⟩ := I.fresh i hin hi
    have hO : OpsRel G K (E i) a o := fun x hx v hv => opd_some I.glob (fun t e hv => hlook t (by
      simp only [looksOf, List.mem_append]
      exact .inr (mem_tmpsOf (by rw [← e]; simpa using hx))) v hv) hv
    -- the store ahead of the front stays as it is
    have stay : clsOf o ≠ 2 → evOp G C Y (base + i) o (E i) (S f) = some (.val (V i), S f) → o.wpIn (fence ro) n P a w next Q := by
      intro hc hev
      refine evOp_sound hT hC hY hev hSf I.glob hO fr1 (by omega) fr2 ⟨fun v e K' w' u hs hv => ?_, fun v e => by cases e⟩
      cases e
      obtain ⟨g1, g2, g3⟩ := I.onward hi hs
      refine hnext f pe _ K' w' _ ⟨hdown, I.hf, fun j p h1 h2 h3 => .inl (I.upto j p h1 h2 h3), g1, g2, rfl, ?_, ?_, g3, I.room, I.glob.mono hs.le, R.tmps (I.tmps.mono hs.le) I.size ho hv, ?_, ?_⟩
      · intro o' x ho'
        obtain ⟨j, q, h1, h2, h3, h4⟩ := I.pe1 o' x ho'
        exact ⟨j, q, h1, h2, .inl h3, h4⟩
      · intro j q h1 h2 h3 h4 h5
        rcases h3 with h3 | rfl
        · exact I.pe2 j q h1 h2 h3 h4 h5
        · rw [ho] at h2; cases h2; exact absurd h4 hc
      · rw [put_size]; exact I.size
      · rw [put_defers]; exact I.defers
    rcases clsOf_le o with hc | hc | hc
    · -- of its operands alone
      obtain ⟨h1, _⟩ := R.quiet ho (by omega) hWi
      exact stay (by omega) ((pure_indep (C' := C) (Y' := Y) (q' := base + i) hc h1).2.2 (S f))
    · exact stay (by omega) (R.read I.down ho hc hWi hi hr I.hf I.upto hfr _)
    · obtain ⟨v1, σ1, h1, h2⟩ := hl.on hWi
      by_cases hif : i = f
      · -- in its turn
        subst hif
        refine evOp_sound hT hC hY h1 hSf I.glob hO fr1 (by omega) fr2 ⟨fun v e K1 w1 u hs hv => ?_, fun v e => by cases e⟩
        cases e
        obtain ⟨K2, hs2, _, hv2⟩ := freeze_sound hT hs.rel h2 hv
        have hall : Stp P (· = base + i) K (S i) w K2 (S (i + 1)) w1 := (hs.trans hs2).weaken fun _ _ e => e.elim id False.elim
        obtain ⟨g1, g2, g3⟩ := I.onward hi hall
        refine hnext (i + 1) pe _ K2 w1 _ ⟨hdown, by omega, fun j p h1 h2 h3 => ?_, g1, g2, rfl, ?_, ?_, g3, Nat.le_trans hroom hall.next, I.glob.mono hall.le, R.tmps (I.tmps.mono hall.le) I.size ho hv2, ?_, ?_⟩
        · by_cases hji : j = i
          · exact .inr hji
          · exact .inl (I.upto j p (by omega) h2 h3)
        · intro o' x ho'
          obtain ⟨j, q, h1, h2, h3, h4, h5, h6, h7, h8⟩ := I.pe1 o' x ho'
          have hji : j ≠ i := fun e => hi (e ▸ h3)
          have hj := (Array.getElem?_eq_some_iff.1 h2).1
          exact ⟨j, q, by omega, h2, .inl h3, h4, h5, h6, h7, hall.gain _ (by omega) (by omega) h8⟩
        · intro j q h1 h2 h3 h4 h5
          rcases h3 with h3 | h3
          · exact I.pe2 j q (by omega) h2 h3 h4 h5
          · omega
        · rw [put_size]; exact I.size
        · rw [put_defers]; exact I.defers
      · -- something new, ahead of its turn
        have hfi : f < i := by
          rcases Nat.lt_trichotomy f i with h | h | h
          · exact h
          · exact absurd h.symm hif
          · exact absurd (I.upto i o h ho hc) hi
        have hpf : ops[f]? = some ops[f] := Array.getElem?_eq_getElem (by omega)
        obtain ⟨hcf, hDf⟩ := hfr _ hpf
        rcases R.ok.eff i o ho hc with hall | ⟨hnew, hfz⟩
        · exact absurd (R.ok.masks.ready I.down ho hr (hall f _ hfi hpf hcf)) hDf
        · rw [hfz] at h2
          simp only [freezeIf, cond_false, Option.some.injEq, Prod.mk.injEq] at h2
          obtain ⟨rfl, rfl⟩ := h2
          obtain ⟨v, x, hv, hadd, hany⟩ := new_indep hnew h1
          cases hv
          refine evOp_sound hT hC hY (hany (S f)) hSf I.glob hO fr1 (by omega) fr2 ⟨fun v e K' w' u hs hv => ?_, fun v e => by cases e⟩
          cases e
          obtain ⟨g1, g2, g3⟩ := I.onward hi hs
          have hpq : pe (base + i) = none := by
            cases hp : pe (base + i) with
            | none => rfl
            | some y => exact absurd rfl (hpe i hi _ y hp).2.2
          refine hnext f (fun o' => if o' = base + i then some x else pe o') _ K' w' _ ⟨hdown, I.hf, fun j p h1 h2 h3 => .inl (I.upto j p h1 h2 h3), g1, ?_, rfl, ?_, ?_, ?_, I.room, I.glob.mono hs.le, R.tmps (I.tmps.mono hs.le) I.size ho hv, ?_, ?_⟩
          · intro o'
            rw [g2 o', Store.get_add]
            by_cases hq : o' = base + i
            · subst hq; rw [hpq]; simp
            · have hq' : ¬ base + i = o' := fun e => hq e.symm
              simp only [hq, hq', if_false]
          · intro o' y ho'
            by_cases hq : o' = base + i
            · subst hq
              simp only [if_true, Option.some.injEq] at ho'
              subst ho'
              exact ⟨i, o, by omega, ho, .inr rfl, hc, hWi, rfl, hadd, fr2⟩
            · simp only [hq, if_false] at ho'
              obtain ⟨j, q, h1, h2, h3, h4⟩ := I.pe1 o' y ho'
              exact ⟨j, q, h1, h2, .inl h3, h4⟩
          · intro j q h1 h2 h3 h4 h5
            by_cases hji : j = i
            · subst hji
              exact ⟨x, by simp, hadd⟩
            · obtain ⟨y, h6, h7⟩ := I.pe2 j q h1 h2 (h3.resolve_right hji) h4 h5
              exact ⟨y, by simp only [show ¬ base + j = base + i by omega, if_false]; exact h6, h7⟩
          · intro j h1 h2
            exact ⟨(g3 j h1 h2).1, (I.fresh j h1 fun h => h2 (.inl h)).2⟩
          · rw [put_size]; exact I.size
          · rw [put_defers]; exact I.defers
end
end Go.Ev
