/-
  Ev: code, but for the range over a function.
-/
import Derived.Test.YtainnmkcbmiboaaGreatDoorEvCode
namespace Go.Ev
open Go
variable {P : Program} {G : Info}

theorem wpIn_mono' {F : Fence} {n : Nat} {c : Code} {Q Q' : Exit → Act → World → Prop} {a : Act} {w : World} (h : c.wpIn F n P Q a w) (hq : ∀ e a w, Q e a w → Q' e a w) : c.wpIn F n P Q' a w := wpIn_mono h hq

section
variable {n fid live T : Nat} {ro ro' : Option Nat} {fr fr1 fr' : Fr} {σ σ1 σ' : Store} {ex : Ex} {m : Nat} {K : Kr} {w : World} {a : Act} {Q : Exit → Act → World → Prop}

/-- code, then more code where the first ends at its end -/
theorem seqPost {ex1 : Ex} {M : Act → World → Prop} (hA : At P G T K σ w a fr) (hnorm : ex1 = .norm → ∀ K1 w1 (a1 : Act), Stp P (fun _ => False) K σ w K1 σ1 w1 → At P G T K1 σ1 w1 a1 fr1 → M a1 w1)
    (hother : ex1 ≠ .norm → Post P T K σ w ex1 fr1 σ1 Q) : Post P T K σ w ex1 fr1 σ1 (Exit.then M Q) := by
  intro K1 w1 a1 hs hm
  cases ex1 with
  | norm => exact fun he hz => hnorm rfl K1 w1 a1 hs ⟨hs.rel, hA.glob.mono hs.le, he, hz, hm⟩
  | exit i => exact hother (by simp) K1 w1 a1 hs hm
  | ret => exact hother (by simp) K1 w1 a1 hs hm
  | pan v => exact hother (by simp) K1 w1 a1 hs hm

theorem evCode_step (hT : Told P G) (hm : P.follows .mixedOrders = true) (hC : OracleOk P G (evCall G n)) (hY : YielderOk P G (evRound G n)) (ih : CodeSound P G n)
    {c : Code} (hnr : ∀ g ps as b, c ≠ .rangeFunc g ps as b) (h : evCode G (n + 1) fid live ro c fr σ = some (ex, fr', σ')) (hok : codeOk G fid T c = true) (hlt : ∀ fc, G.code fid = some fc → fc.ntmps = T)
    (hA : At P G T K σ w a fr) (hro : RoRel K ro ro') (hQ : Post P T K σ w ex fr' σ' Q) : Walks (fence ro') m P c Q a w := by
  cases c with
  | skip =>
    simp only [evCode, Option.some.injEq, Prod.mk.injEq] at h
    obtain ⟨rfl, rfl, rfl⟩ := h
    exact Go.wpIn_skip (hQ K w a (.refl hA.rel) hA.marks hA.env hA.size)
  | ret =>
    simp only [evCode, Option.some.injEq, Prod.mk.injEq] at h
    obtain ⟨rfl, rfl, rfl⟩ := h
    exact wpIn_ret (hQ K w a (.refl hA.rel) hA.marks hA.env hA.size)
  | exit i =>
    simp only [evCode, Option.some.injEq, Prod.mk.injEq] at h
    obtain ⟨rfl, rfl, rfl⟩ := h
    exact wpIn_exit (hQ K w a (.refl hA.rel) hA.marks hA.env hA.size)
  | region rid ops draw =>
    simp only [evCode] at h
    simp only [codeOk] at hok
    show (Code.region rid ops draw).wpIn (fence ro') m P Q a w
    split at h
    · rename_i env1 σ1 sn hev
      cases h
      exact evRegion_sound hT hm hC hY hok hev hA.rel hA.glob hA.env hA.size (fun env' σ' sn' e K' w' a' hs he hd hz => by
        cases e; exact hQ K' w' a' hs (by rw [hd]; exact hA.marks.mono hs.le) he hz) (fun v σ' e => by cases e)
    · rename_i v σ1 hev
      cases h
      exact evRegion_sound hT hm hC hY hok hev hA.rel hA.glob hA.env hA.size (fun env' σ' sn' e => by cases e) (fun v' σ' e K' w' a' u hs hv hd => by
        cases e; exact hQ K' w' a' hs (by rw [hd]; exact hA.marks.mono hs.le) u hv)
    · cases h
  | seq x y =>
    simp only [evCode] at h
    simp only [codeOk, Bool.and_eq_true] at hok
    show (Code.seq x y).wpIn (fence ro') m P Q a w
    refine wpIn_seq ?_
    split at h
    · rename_i fr1 σ1 hev
      refine (ih fid live T ro x fr σ _ fr1 σ1 hev hok.1 hlt ro' m K w a hA hro _ (seqPost hA (fun _ K1 w1 a1 hs hA1 => ?_) (fun hne => absurd rfl hne))).wpIn
      exact (ih fid live T ro y fr1 σ1 ex fr' σ' h hok.2 hlt ro' m K1 w1 a1 hA1 (hro.mono hs.le) Q (hQ.later hs)).wpIn
    · rename_i hne
      refine (ih fid live T ro x fr σ ex fr' σ' h hok.1 hlt ro' m K w a hA hro _ (seqPost hA (fun e => ?_) (fun _ => hQ))).wpIn
      subst e
      exact (hne _ _ h).elim
  | cond x y z =>
    simp only [evCode] at h
    simp only [codeOk, Bool.and_eq_true] at hok
    show (Code.cond x y z).wpIn (fence ro') m P Q a w
    split at h
    · rename_i hx
      have hv := (opd_sound hA.glob hA.env hx).bool_inv
      exact wpIn_cond_true hv (ih fid live T ro y fr σ ex fr' σ' h hok.1 hlt ro' m K w a hA hro Q hQ).wpIn
    · rename_i hx
      have hv := (opd_sound hA.glob hA.env hx).bool_inv
      exact wpIn_cond_false hv (ih fid live T ro z fr σ ex fr' σ' h hok.2 hlt ro' m K w a hA hro Q hQ).wpIn
    · cases h
  | block i b =>
    simp only [evCode] at h
    simp only [codeOk] at hok
    show (Code.block i b).wpIn (fence ro') m P Q a w
    refine wpIn_block ?_
    split at h
    · rename_i j fr1 σ1 hev
      refine (ih fid live T ro b fr σ _ fr1 σ1 hev hok hlt ro' m K w a hA hro _ (fun K' w' a' hs hmk he hz => ?_)).wpIn
      cases hj : Nat.beq j i with
      | true =>
        rw [hj, cond_true] at h
        cases h
        simp only [Exit.inBlock, Nat.eq_of_beq_eq_true hj, if_true]
        exact hQ K' w' a' hs hmk he hz
      | false =>
        rw [hj, cond_false] at h
        cases h
        have hne : ¬ j = i := fun e => by subst e; simp at hj
        simp only [Exit.inBlock, hne, if_false]
        exact hQ K' w' a' hs hmk he hz
    · rename_i hne
      refine (ih fid live T ro b fr σ ex fr' σ' h hok hlt ro' m K w a hA hro _ (fun K' w' a' hs hmk => ?_)).wpIn
      cases ex with
      | norm => exact hQ K' w' a' hs hmk
      | exit j => exact (hne _ _ _ h).elim
      | ret => exact hQ K' w' a' hs hmk
      | pan v => exact hQ K' w' a' hs hmk
  | loop b =>
    simp only [evCode] at h
    have hok' := hok
    simp only [codeOk] at hok
    show LoopIn (fence ro') m P b Q a w
    refine loopIn_of ?_
    split at h
    · rename_i fr1 σ1 hev
      refine (ih fid live T ro b fr σ _ fr1 σ1 hev hok hlt ro' m K w a hA hro _ (seqPost hA (fun _ K1 w1 a1 hs hA1 => ?_) (fun hne => absurd rfl hne))).wpIn
      exact ih fid live T ro (.loop b) fr1 σ1 ex fr' σ' h hok' hlt ro' m K1 w1 a1 hA1 (hro.mono hs.le) Q (hQ.later hs)
    · rename_i hne
      refine (ih fid live T ro b fr σ ex fr' σ' h hok hlt ro' m K w a hA hro _ (seqPost hA (fun e => ?_) (fun _ => hQ))).wpIn
      subst e
      exact (hne _ _ h).elim
  | rangeFunc g ps as b => exact absurd rfl (hnr g ps as b)
  | _ => simp [evCode] at h
end
end Go.Ev
