/-
  Facts of a program that starts no goroutine anywhere.
-/
import GoSem.ClaimGoes
namespace Go.Ev
open Go
theorem goes_false {P : Program} (h : P.funcs.toList.all (fun f => !f.goes) = true) (s : Start) (n : String) (hs : s = .entering) : P.goesAt s n = false := by
  have hall : ∀ g : Nat, (P.funcs[g]?).any Func.goes = false := by
    intro g
    cases hg : P.funcs[g]? with
    | none => rfl
    | some fn =>
      have hm : fn ∈ P.funcs.toList := Array.mem_toList_iff.2 (Array.mem_of_getElem? hg)
      have := List.all_eq_true.1 h fn hm
      simpa using this
  have hany : P.funcs.any Func.goes = false := by
    rw [← Array.any_toList]
    cases hx : P.funcs.toList.any Func.goes with
    | false => rfl
    | true =>
      obtain ⟨fn, hm, hg⟩ := List.any_eq_true.1 hx
      have := List.all_eq_true.1 h fn hm
      rw [hg] at this; cases this
  have hgo : ∀ f, P.goes f = false := by
    intro f
    unfold Program.goes
    rw [hany, Bool.and_false, Bool.or_false]
    simp [hall]
  subst hs
  unfold Program.goesAt Program.goesFrom
  cases P.funcNamed n with
  | none => rfl
  | some f => simp [hgo]
end Go.Ev
