/-
  Ev: a region in its own order.
-/
import Derived.Test.YtainnmkcbmiboaaGreatDoorEvStep2
namespace Go.Ev
open Go
variable {P : Program} {K : Kr} {G : Info} {σ σ' : Store} {w : World}

theorem prune_live {live : Nat} : ∀ {env : Env} {t : Nat} {v : AV}, look (prune live env) t = some v → live.testBit t = true
  | [], t, v, h => by simp [prune, look] at h
  | (k, u) :: r, t, v, h => by
    simp only [prune] at h
    cases hk : live.testBit k with
    | true =>
      rw [hk, cond_true, look_cons] at h
      split at h
      · rename_i e; subst e; exact hk
      · rw [look_del] at h
        split at h
        · cases h
        · exact prune_live h
    | false => rw [hk, cond_false] at h; exact prune_live h
theorem look_prune {live : Nat} : ∀ {env : Env} {t : Nat} {v : AV}, look (prune live env) t = some v → look env t = some v
  | [], t, v, h => by simp [prune, look] at h
  | (k, u) :: r, t, v, h => by
    simp only [prune] at h
    rw [look_cons]
    cases hk : live.testBit k with
    | true =>
      rw [hk, cond_true, look_cons] at h
      split at h
      · rename_i e; rw [if_pos e]; exact h
      · rename_i e
        rw [if_neg e]
        rw [look_del, if_neg e] at h
        exact look_prune h
    | false =>
      rw [hk, cond_false] at h
      have := prune_live h
      rw [if_neg (fun e => by rw [e, this] at hk; cases hk)]
      exact look_prune h

theorem EnvRel.cons {env : Env} {tmps : Array Value} {d : Nat} {v : AV} {u : Value} (h : EnvRel K env tmps) (hd : d < tmps.size) (hv : VR K v u) : EnvRel K ((d, v) :: env) (tmps.setIfInBounds d u) := by
  intro t x hx
  rw [look_cons] at hx
  split at hx
  · rename_i e
    subst e; cases hx
    exact ⟨u, by simp [hd], hv⟩
  · rename_i e
    obtain ⟨y, hy, hv'⟩ := h t x hx
    exact ⟨y, by rw [Array.getElem?_setIfInBounds_ne e]; exact hy, hv'⟩
theorem EnvRel.put {env : Env} {a : Act} {dst : Option Tmp} {v : AV} {u : Value} (h : EnvRel K env a.tmps) (hd : ∀ d, dst = some d → d < a.tmps.size) (hv : VR K v u) : EnvRel K (consIf env dst v) (a.put dst u).tmps := by
  cases dst with
  | none => exact h
  | some d => exact h.cons (hd d rfl) hv
theorem put_size (a : Act) (dst : Option Tmp) (u : Value) : (a.put dst u).tmps.size = a.tmps.size := by cases dst <;> simp [Act.put]
theorem put_defers (a : Act) (dst : Option Tmp) (u : Value) : (a.put dst u).defers = a.defers := by cases dst <;> rfl

theorem wanted_sound {ops : Array Oper} {env : Env} {tmps : Array Value} {o : Oper} {b : Bool} (h : EnvRel K env tmps) (hw : wantedOf ops env o = some b) : Region.wanted o (yielded ops tmps) = b := by
  unfold wantedOf at hw
  unfold Region.wanted
  split at hw
  · rename_i hg; cases hw; rw [hg]
  · rename_i g want hg
    rw [hg]
    split at hw
    · rename_i p hp
      split at hw
      · rename_i d hd
        split at hw
        · rename_i b0 hl
          cases hw
          obtain ⟨u, hu, hv⟩ := h d _ hl
          rw [hv.bool_inv] at hu
          have : yielded ops tmps g = some b0 := by simp [yielded, hp, hd, hu]
          simp only [this]
          cases b0 <;> cases want <;> rfl
        · cases hw
      · cases hw
    · cases hw

theorem freeze_sound (hT : Told P G) {b : Bool} {v v' : AV} {u : Value} (hS : StoreRel P K σ w) (h : freezeIf G b σ v = some (v', σ')) (hv : VR K v u) : ∃ K', Stp P (fun _ => False) K σ w K' σ' w ∧ K'.loc = K.loc ∧ VR K' v' u := by
  unfold freezeIf at h
  cases b with
  | true => exact frz_sound hT.tt 12 K σ v v' σ' u hS h hv
  | false => cases h; exact ⟨K, .refl hS, rfl, hv⟩

section
variable {C : Oracle} {Y : Yielder} {ro : Option Nat} {n : Nat} {Q : Exit → Act → World → Prop} {ops : Array Oper} {base : Nat} {fz : Nat → Bool} {keep : Bool}

theorem evOps_sound (hT : Told P G) (hC : OracleOk P G C) (hY : YielderOk P G Y) {T : Nat} : ∀ (rest : List Oper) (i : Nat) (env : Env) (σ : Store) (sn : List Snap) (res : RR) (K : Kr) (w : World) (a : Act),
    ops.toList.drop i = rest → evOps G C Y fz base ops keep rest i env σ sn = some res → StoreRel P K σ w → GlobRel G K → EnvRel K env a.tmps → a.tmps.size = T → (∀ o ∈ rest, ∀ d, o.dst = some d → d < T) →
    (∀ j, i ≤ j → j < ops.size → K.loc (base + j) = none ∧ σ.get (base + j) = none) → base + ops.size ≤ σ.next →
    (∀ env' σ' sn', res = .done env' σ' sn' → ∀ K' w' (a' : Act), Stp P (base ≤ ·) K σ w K' σ' w' → EnvRel K' env' a'.tmps → a'.defers = a.defers → a'.tmps.size = T → Q .normal a' w') →
    (∀ v σ', res = .pan v σ' → ∀ K' w' (a' : Act) u, Stp P (base ≤ ·) K σ w K' σ' w' → VR K' v u → a'.defers = a.defers → Q (.panic [{ v := u, recovered := false }]) a' w') →
    wpOpsIn (fence ro) n P ops Q (List.range' i rest.length) a w
  | [], i, env, σ, sn, res, K, w, a, hr, h, hS, hG, hE, hsz, hd, hf, hb, hdone, hpan => by
    simp only [evOps, Option.some.injEq] at h
    exact hdone _ _ _ h.symm K w a (.refl hS) hE rfl hsz
  | o :: rest, i, env, σ, sn, res, K, w, a, hr, h, hS, hG, hE, hsz, hd, hf, hb, hdone, hpan => by
    have hi : i < ops.size := by
      have : (ops.toList.drop i).length = (o :: rest).length := by rw [hr]
      simp at this; omega
    have hoi : ops[i]? = some o := by
      have h1 : (ops.toList.drop i)[0]? = some o := by rw [hr]; rfl
      simpa using h1
    have hrest : ops.toList.drop (i + 1) = rest := by
      rw [← List.tail_drop, hr]; rfl
    simp only [List.length_cons, List.range'_succ]
    rw [wpOpsIn_cons]
    unfold wpOpIn
    rw [hoi]
    simp only
    simp only [evOps] at h
    split at h
    · cases h
    · -- not wanted
      rename_i hw
      rw [wanted_sound hE hw]
      simp only [Bool.false_eq_true, if_false]
      refine ⟨about_any o _, ?_⟩
      refine evOps_sound hT hC hY rest (i + 1) _ σ sn res K w _ hrest h hS hG (hE.put (fun d e => by rw [hsz]; exact hd o (by simp) d e) (VR.tup' .nil)) (by rw [put_size]; exact hsz) (fun o ho => hd o (by simp [ho])) (fun j h1 h2 => hf j (by omega) h2) hb ?_ ?_
      · intro env' σ' sn' e K' w' a' hs he hde hsz'
        exact hdone env' σ' sn' e K' w' a' hs he (hde.trans (put_defers _ _ _)) hsz'
      · intro v σ' e K' w' a' u hs hv hde
        exact hpan v σ' e K' w' a' u hs hv (hde.trans (put_defers _ _ _))
    · rename_i hw
      rw [wanted_sound hE hw]
      simp only [if_true]
      obtain ⟨hf1, hf2⟩ := hf i (Nat.le_refl _) hi
      have hO : OpsRel G K env a o := fun x _ v hv => opd_sound hG hE hv
      split at h
      · cases h
      · rename_i v σ1 hev
        cases h
        refine evOp_sound hT hC hY hev hS hG hO hf1 (by omega) hf2 ⟨(fun v' e => by cases e), fun v' e K' w' u hs hv => ?_⟩
        cases e
        exact hpan v σ1 rfl K' w' a u (hs.weaken fun o _ e => by omega) hv rfl
      · rename_i v σ1 hev
        split at h
        · cases h
        · rename_i v2 σ2 hfz
          refine evOp_sound hT hC hY hev hS hG hO hf1 (by omega) hf2 ⟨fun v' e K' w' u hs hv => ?_, fun v' e => by cases e⟩
          cases e
          obtain ⟨K2, hs2, hl2, hv2⟩ := freeze_sound hT hs.rel hfz hv
          have hall := hs.trans hs2
          have hall' : Stp P (base ≤ ·) K σ w K2 σ2 w' := hall.weaken fun o _ e => by rcases e with e | e; (omega); exact e.elim
          refine evOps_sound hT hC hY rest (i + 1) _ σ2 _ res K2 w' _ hrest h hs2.rel (hG.mono hall.le) ((hE.mono hall.le).put (fun d e => by rw [hsz]; exact hd o (by simp) d e) hv2) (by rw [put_size]; exact hsz) (fun o ho => hd o (by simp [ho])) ?_ ?_ ?_ ?_
          · intro j h1 h2
            obtain ⟨g1, g2⟩ := hf j (by omega) h2
            have hne : ¬ (base + j = base + i ∨ False) := by rintro (e | e); (omega); exact e
            exact ⟨(hall.old (base + j) (by omega) hne).trans g1, hall.gain (base + j) (by omega) hne g2⟩
          · exact Nat.le_trans hb hall.next
          · intro env' σ' sn' e K' w'' a' hs' he hde hsz'
            exact hdone env' σ' sn' e K' w'' a' ((hall'.trans hs').weaken fun _ _ e => e.elim id id) he (hde.trans (put_defers _ _ _)) hsz'
          · intro v' σ' e K' w'' a' u' hs' hv' hde
            exact hpan v' σ' e K' w'' a' u' ((hall'.trans hs').weaken fun _ _ e => e.elim id id) hv' (hde.trans (put_defers _ _ _))
end
end Go.Ev
