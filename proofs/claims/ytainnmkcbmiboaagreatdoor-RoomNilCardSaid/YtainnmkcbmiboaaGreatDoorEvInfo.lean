/-
  Ev: what is told of a program, read off the program itself.
-/
import Derived.Test.YtainnmkcbmiboaaGreatDoorEvCall
namespace Go.Ev
open Go

/-- A type, as the program's tables say it. -/
def tiOf (P : Program) (flat : TypeId → List Nat) (t : TypeId) : Option TI :=
  match P.info? t, P.underlying t with
  | some inf, some d => match inf.zero with
    | some z => match ofVal z with
      | some zv =>
        let i : TI := { d := tdOfDesc d, size := inf.size, bytes := inf.bytes, zero := zv.cells, flat := flat t }
        cond ((match i.val i.zero with
          | some v => AV.beq v zv
          | none => false) && Nat.beq i.zero.length i.size && allAtoms i.zero) (some i) none
      | none => none
    | none => none
  | _, _ => none
theorem tiOf_ok (P : Program) (flat : TypeId → List Nat) : TTOk P (tiOf P flat) := by
  intro t i h
  unfold tiOf at h
  split at h
  · rename_i inf d hi hd
    split at h
    · rename_i z hz
      split at h
      · rename_i zv hzv
        simp only at h
        generalize hc : ((match TI.val { d := tdOfDesc d, size := inf.size, bytes := inf.bytes, zero := zv.cells, flat := flat t } zv.cells with
          | some v => AV.beq v zv
          | none => false) && Nat.beq zv.cells.length inf.size && allAtoms zv.cells) = c at h
        cases c with
        | false => cases h
        | true =>
          rw [cond_true] at h
          cases h
          simp only [Bool.and_eq_true, Nat.beq_eq] at hc
          obtain ⟨⟨h1, h2⟩, h3⟩ := hc
          refine ⟨inf, d, z, zv, hi, hd, rfl, rfl, rfl, hz, hzv, rfl, ?_, h2, h3⟩
          split at h1
          · rename_i v hv
            rw [hv, beq_sound _ _ h1]
          · cases h1
      · cases h
    · cases h
  · cases h

/-- A function's code, as the program has it. -/
def codeOf (P : Program) (live : FuncId → Nat) (drop : FuncId → Bool) (f : FuncId) : Option FC :=
  match P.funcs[f]? with
  | some fn => match fn.body with
    | some b => cond (fn.name == "runtime.NumGoroutine") none (some { results := fn.results.toList, body := b, drop := drop f, live := live f, ntmps := fn.ntmps })
    | none => none
  | none => none
theorem enters_of {P : Program} {f : FuncId} {fn : Func} (h : P.funcs[f]? = some fn) (hb : fn.body.isSome = true) (hn : (fn.name == "runtime.NumGoroutine") = false) : Enters P f := by
  intro us w
  have hn' : ¬ fn.body = none := fun e => by rw [e] at hb; cases hb
  have hn2 : ¬ fn.name = "runtime.NumGoroutine" := fun e => by rw [e] at hn; simp at hn
  simp [callFunc, h, hn2, hn']
theorem codeOf_ok {P : Program} {G : Info} {live : FuncId → Nat} {drop : FuncId → Bool} (hG : G.code = codeOf P live drop) (hok : ∀ f fc, G.code f = some fc → codeOk G f fc.ntmps fc.body = true) : CodesOk P G := by
  intro f fc h
  refine ⟨?_, ?_, hok f fc h⟩
  · rw [hG] at h
    unfold codeOf at h
    split at h
    · rename_i fn hfn
      split at h
      · rename_i b hb
        cases hn : (fn.name == "runtime.NumGoroutine") with
        | true => rw [hn] at h; cases h
        | false =>
          rw [hn, cond_false] at h
          cases h
          exact ⟨fn, hfn, hb, rfl, rfl⟩
      · cases h
    · cases h
  · rw [hG] at h
    unfold codeOf at h
    split at h
    · rename_i fn hfn
      split at h
      · rename_i b hb
        cases hn : (fn.name == "runtime.NumGoroutine") with
        | true => rw [hn] at h; cases h
        | false => exact enters_of hfn (by rw [hb]; rfl) hn
      · cases h
    · cases h
end Go.Ev
