/-
  Ev: the range over a function.
-/
import Derived.Test.YtainnmkcbmiboaaGreatDoorEvCode2
namespace Go.Ev
open Go
variable {P : Program} {G : Info}

section
variable {n fid live T : Nat} {ro ro' : Option Nat} {fr fr1 fr' : Fr} {σ σ1 σ' : Store} {ex : Ex} {m : Nat} {K : Kr} {w : World} {a : Act} {Q : Exit → Act → World → Prop}

theorem run_getLoop {b : Nat} {r : Loop} (h : w.heap[b]? = some (.loop r)) : (Instr.getLoop b).run P w = .ok r w := by
  simp [Instr.getLoop, getObj, Sem.run, h]

/-- the world with the loop's record -/
def loopWorld (w1 : World) (fn : FuncId) (tmps : Array Value) (ps : Array Tmp) (as body : Code) (D : Nat) : World :=
  w1.alloc (.loop { state := .ready, pending := none, fn := fn, tmps := tmps, params := ps, assign := as, body := body, defers := D })
/-- the loop's record laid; what is handed to the function -/
theorem range_main (hC : OracleOk P G (evCall G n)) {g : Operand} {ps : Array Tmp} {as body : Code} {gf : FuncId} {first cap : List AV} (hg : opd G fr.env g = some (.fn gf first cap)) (hA : At P G T K σ w a fr)
    (hps : ∀ p ∈ ps.toList, p < T) (hoka : codeOk G fid T as = true) (hokb : codeOk G fid T body = true)
    {d : Nat} {mk : List Nat} {σ1 : Store} {D : Loc}
    -- what enterLoop does
    {K1 : Kr} {w1 : World} {mark : List Deferred} (hs1 : Stp P (fun _ => False) K σ w K1 σ1 w1) (hl : K1.loc σ.next = none) (hlt : σ.next < σ1.next) (hlg : σ1.get σ.next = none) (hD : K1.loc d = some D) (hmk : MarksRel K1 mk mark)
    (hent : ∀ fn, (Instr.enterLoop fn a.tmps ps as body (fence ro').round).run P w = .ok (w1.heap.size, mark) (loopWorld w1 fn a.tmps ps as body D.blk))
    {r : OR} {σ2 : Store} (hcall : evCall G n gf (first ++ [.yld σ.next] ++ cap) (σ1.add σ.next (.loop .ready none fid fr.env ps.toList as body d T)) = some (r, σ2))
    (hval : ∀ v, r = .val v → ∃ st pe a' b' c' d' e' f' g', σ2.get σ.next = some (.loop st pe a' b' c' d' e' f' g') ∧ st ≠ .busy ∧
      Post P T K σ w (match pe with | none => .norm | some (.exit i) => .exit i | _ => .ret) { fr with marks := mk ++ fr.marks } (σ2.set σ.next (.loop .exhausted pe a' b' c' d' e' f' g')) Q ∧ (pe = none ∨ pe = some .ret ∨ ∃ i, pe = some (.exit i)))
    (hpan : ∀ v, r = .pan v → Post P T K σ w (.pan v) { fr with marks := mk ++ fr.marks } σ2 Q) :
    (Code.rangeFunc g ps as body).wpIn (fence ro') m P Q a w := by
  refine wpIn_rangeFunc fun fn _ => ?_
  have hgv := opd_sound hA.glob hA.env hg
  generalize hgu : a.eval g = gu at hgv
  cases hgv with
  | @fn _ _ _ us vs hx hy h1 h2 =>
    -- the record
    have hnew : Stp P (· = σ.next) K1 σ1 w1 (K1.put σ.next ⟨w1.heap.size, 0, 0, 0⟩) (σ1.add σ.next (.loop .ready none fid fr.env ps.toList as body d T))
        (loopWorld w1 fn a.tmps ps as body D.blk) := by
      have hle := Kr.put_le (K := K1) ⟨w1.heap.size, 0, 0, 0⟩ hl
      have hok := hs1.le.ok.trans hA.glob.ok
      refine .new (ob := .loop { state := .ready, pending := none, fn := fn, tmps := a.tmps, params := ps, assign := as, body := body, defers := D.blk }) hs1.rel hl hlt hlg rfl rfl rfl rfl rfl
        ⟨?_, ?_, hps, fn, a.tmps, D, heap_push_new w1 _ _ rfl, (hA.env.mono hs1.le).mono hle, hle.loc _ _ hD, hA.size⟩
      · show K1.ok fid T as
        rw [hok]; exact hoka
      · show K1.ok fid T body
        rw [hok]; exact hokb
    have hall : Stp P (fun _ => False) K σ w (K1.put σ.next ⟨w1.heap.size, 0, 0, 0⟩) (σ1.add σ.next (.loop .ready none fid fr.env ps.toList as body d T)) (loopWorld w1 fn a.tmps ps as body D.blk) :=
      (hs1.trans hnew).weaken fun o ho e => e.elim id fun e => by omega
    obtain ⟨hE, hcalls⟩ := hC gf _ _ r σ2 hcall
    refine ⟨w1.heap.size, mark, loopWorld w1 fn a.tmps ps as body D.blk, { target := .fn (.func gf) ⟨vs⟩, args := (⟨us⟩ : Array Value) ++ #[.func (.yield w1.heap.size) #[] #[]] }, loopWorld w1 fn a.tmps ps as body D.blk, gf, (⟨us⟩ : Array Value) ++ #[.func (.yield w1.heap.size) #[] #[]] ++ ⟨vs⟩, loopWorld w1 fn a.tmps ps as body D.blk, hent fn, ?_, fun _ _ => trivial, ?_, fun h => by simp [fence] at h, ?_⟩
    · have e1 : ∀ v, a.eval (.const v) = v := fun _ => rfl
      simp [resolve, hgu, Deferred.ofValue, e1]
    · simp only [invoke]; exact hE _ _
    · have hargs : VRL (K1.put σ.next ⟨w1.heap.size, 0, 0, 0⟩) (first ++ [.yld σ.next] ++ cap) (us ++ [.func (.yield w1.heap.size) #[] #[]] ++ vs) :=
        ((VRL.mono hall.le ⟨hx, h1⟩).append (.cons (.yld (L := ⟨w1.heap.size, 0, 0, 0⟩) (Kr.put_same _ _ _)) .nil)).append (VRL.mono hall.le ⟨hy, h2⟩)
      have heq : ((⟨us⟩ : Array Value) ++ #[.func (.yield w1.heap.size) #[] #[]] ++ ⟨vs⟩) = ⟨us ++ [.func (.yield w1.heap.size) #[] #[]] ++ vs⟩ := by apply Array.ext'; simp
      rw [heq]
      refine CallsIn.mono (hcalls ro' (m - 1) _ _ _ hall.rel (hA.glob.mono hall.le) hargs) fun e w' he => ?_
      obtain ⟨K2, u, hs2, hr2⟩ := he
      have hs02 : Stp P (fun _ => False) K σ w K2 σ2 w' := (hall.trans hs2).weaken fun _ _ e => e.elim id id
      have hmarks : MarksRel K2 (mk ++ fr.marks) (mark ++ a.defers) := by
        have g1 := hmk.mono ((Kr.put_le (K := K1) ⟨w1.heap.size, 0, 0, 0⟩ hl).trans hs2.le)
        have g2 := hA.marks.mono hs02.le
        clear hval hpan hmk hent
        generalize K2 = K2 at g1 g2
        revert g1
        induction mk generalizing mark with
        | nil => intro g1; cases mark with
          | nil => exact g2
          | cons _ _ => exact g1.elim
        | cons x xs ihm => intro g1; cases mark with
          | nil => exact g1.elim
          | cons y ys => exact ⟨g1.1, ihm g1.2⟩
      cases r with
      | val v =>
        obtain ⟨rfl, _⟩ := hr2
        obtain ⟨st, pe, a', b', c', d', e', f', g', hgl, hst, hpost, hpe⟩ := hval v rfl
        have hL2 : K2.loc σ.next = some ⟨w1.heap.size, 0, 0, 0⟩ := hs2.le.loc _ _ (Kr.put_same _ _ _)
        obtain ⟨o1, o2, o3, fn2, tmps2, D2, q1, q2, q3, q4⟩ := hs2.rel.objs _ _ _ hgl hL2
        have hblk := hs2.rel.blk _ _ hL2
        have hset : Stp P (fun _ => False) K2 σ2 w' K2 (σ2.set σ.next (.loop .exhausted pe a' b' c' d' e' f' g')) { w' with heap := w'.heap.setIfInBounds w1.heap.size (.loop { state := .exhausted, pending := pe, fn := fn2, tmps := tmps2, params := ⟨c'⟩, assign := d', body := e', defers := D2.blk }) } :=
          .setMap hs2.rel hgl rfl hL2 hblk ⟨o1, o2, o3, fn2, tmps2, D2, heap_set_same hblk, q2, q3, q4⟩
        have hend : (Instr.endLoop w1.heap.size).run P w' = .ok pe { w' with heap := w'.heap.setIfInBounds w1.heap.size (.loop { state := .exhausted, pending := pe, fn := fn2, tmps := tmps2, params := ⟨c'⟩, assign := d', body := e', defers := D2.blk }) } := by
          have hbusy : (st == LoopState.busy) = false := by cases st <;> first | rfl | (exact absurd rfl hst)
          simp only [Instr.endLoop, Sem.run_bind, run_getLoop q1, Result.andThen_ok, hbusy, Bool.false_eq_true, if_false, run_setObj q1 (fun _ _ _ e => by cases e)]
          rfl
        have hfin := hpost K2 _ { a with defers := mark ++ a.defers } ((hs02.trans hset).weaken fun _ _ e => e.elim id id) hmarks
        refine ⟨pe, _, hend, ?_⟩
        have henv := hA.env.mono hs02.le
        rcases hpe with rfl | rfl | ⟨i, rfl⟩
        · exact hfin henv hA.size
        · exact wpIn_ret (hfin henv hA.size)
        · exact wpIn_exit (hfin henv hA.size)
      | pan v =>
        obtain ⟨rfl, hv⟩ := hr2
        exact hpan v rfl K2 w' { a with defers := mark ++ a.defers } hs02 hmarks u hv

theorem evCode_range (hC : OracleOk P G (evCall G n)) {g : Operand} {ps : Array Tmp} {as body : Code} (h : evCode G (n + 1) fid live ro (.rangeFunc g ps as body) fr σ = some (ex, fr', σ')) (hok : codeOk G fid T (.rangeFunc g ps as body) = true)
    (hlt : ∀ fc, G.code fid = some fc → fc.ntmps = T) (hA : At P G T K σ w a fr) (hro : RoRel K ro ro') (hQ : Post P T K σ w ex fr' σ' Q) : (Code.rangeFunc g ps as body).wpIn (fence ro') m P Q a w := by
  simp only [codeOk, Bool.and_eq_true] at hok
  obtain ⟨⟨hps, hoka⟩, hokb⟩ := hok
  have hps : ∀ p ∈ ps.toList, p < T := fun p hp => by
    have := List.all_eq_true.1 hps p hp
    simpa using this
  simp only [evCode] at h
  split at h
  · rename_i gf first cap hg
    split at h
    · rename_i d mk σ1 fc hds hfc
      have hnt := hlt fc hfc
      -- behind enterLoop's beginning
      have key : ∃ (K1 : Kr) (w1 : World) (mark : List Deferred) (D : Loc), Stp P (fun _ => False) K σ w K1 σ1 w1 ∧ K1.loc σ.next = none ∧ σ.next < σ1.next ∧ σ1.get σ.next = none ∧ K1.loc d = some D ∧ MarksRel K1 mk mark ∧
          ∀ fn, (Instr.enterLoop fn a.tmps ps as body (fence ro').round).run P w = .ok (w1.heap.size, mark) (loopWorld w1 fn a.tmps ps as body D.blk) := by
        have hres := Stp.reserve hA.rel 2
        have hfl := hA.rel.fresh
        have hfg : ∀ o, σ.next ≤ o → σ.get o = none := fun o ho => by
          cases e : σ.get o with
          | none => rfl
          | some x => have := hA.rel.got o x e; omega
        cases ro with
        | none =>
          cases ro' with
          | some b => exact hro.elim
          | none =>
            simp only [Option.some.injEq, Prod.mk.injEq] at hds
            obtain ⟨rfl, rfl, rfl⟩ := hds
            have hnew : Stp P (· = σ.next + 1) K { σ with next := σ.next + 2 } w (K.put (σ.next + 1) ⟨w.heap.size, 0, 0, 0⟩) (({ σ with next := σ.next + 2 } : Store).add (σ.next + 1) (.defs false)) (w.alloc (.deferred (some []))) :=
              .new (ob := .deferred (some [])) hres.rel (hfl _ (by omega)) (by simp) (hfg _ (by omega)) rfl rfl rfl rfl rfl (heap_push_new w _ _ rfl)
            refine ⟨_, w.alloc (.deferred (some [])), [{ target := .collected w.heap.size, args := #[] }], ⟨w.heap.size, 0, 0, 0⟩, (hres.trans hnew).weaken fun o ho e => e.elim id fun e => by omega, ?_, ?_, ?_, Kr.put_same _ _ _, ⟨⟨_, Kr.put_same _ _ _, rfl⟩, trivial⟩, fun fn => ?_⟩
            · rw [Kr.put_ne _ _ (by omega)]; exact hfl _ (Nat.le_refl _)
            · simp
            · rw [Store.get_add, if_neg (by omega)]; exact hfg _ (Nat.le_refl _)
            · simp [Instr.enterLoop, fence, loopWorld]
        | some l0 =>
          cases ro' with
          | none => exact hro.elim
          | some b =>
            obtain ⟨L, hL, rfl⟩ := hro
            simp only at hds
            split at hds
            · rename_i st pe f0 e0 p0 a0 b0 d0 n0 hgl
              simp only [Option.some.injEq, Prod.mk.injEq] at hds
              obtain ⟨rfl, rfl, rfl⟩ := hds
              obtain ⟨_, _, _, fn2, tmps2, D2, q1, q2, q3, q4⟩ := hA.rel.objs _ _ _ hgl hL
              refine ⟨K, w, [], D2, hres, hfl _ (Nat.le_refl _), by simp, hfg _ (Nat.le_refl _), q3, trivial, fun fn => ?_⟩
              simp [Instr.enterLoop, fence, loopWorld, run_getLoop q1]
            · cases hds
      obtain ⟨K1, w1, mark, D, hs1, hl, hlt1, hlg, hD, hmk, hent⟩ := key
      rw [hnt] at h
      split at h
      · rename_i v σ2 hcall
        split at h
        · rename_i st pe a' b' c' d' e' f' g' hgl
          split at h
          · cases h
          · rename_i hst
            refine range_main hC hg hA hps hoka hokb hs1 hl hlt1 hlg hD hmk hent hcall (fun v' _ => ⟨st, pe, a', b', c', d', e', f', g', hgl, fun e => hst e, ?_⟩) (fun v' e => by cases e)
            split at h
            · cases h; exact ⟨hQ, .inl rfl⟩
            · cases h; exact ⟨hQ, .inr (.inl rfl)⟩
            · cases h; exact ⟨hQ, .inr (.inr ⟨_, rfl⟩)⟩
            · cases h
        · cases h
      · rename_i v σ2 hcall
        cases h
        exact range_main hC hg hA hps hoka hokb hs1 hl hlt1 hlg hD hmk hent hcall (fun v' e => by cases e) (fun v' e => by cases e; exact hQ)
      · cases h
    · cases h
  · cases h
end
end Go.Ev
