/-
  Ev: methods, off the program's tables.
-/
import Derived.Test.YtainnmkcbmiboaaGreatDoorEvFlat
namespace Go.Ev
open Go
variable {P : Program}

def isPtrTy (P : Program) (t : TypeId) : Option Bool :=
  match P.underlying t with
  | some (.pointer _) => some true
  | some _ => some false
  | none => none
def methOf (P : Program) (t : TypeId) (name : String) : Option (FuncId × Option (Nat × TypeId)) :=
  match P.info? t with
  | some inf => match inf.methods.find? (·.name == name) with
    | some m => match m.func, m.path.toList with
      | some (f, pr), [] => match isPtrTy P t with
        | some b => cond (b == pr) (some (f, none)) none
        | none => none
      | some (f, pr), [s] => cond s.deref none (match P.underlying s.struct with
        | some (.struct fields) => match fields[s.index]? with
          | some fd => match isPtrTy P fd.type with
            | some b => cond (b == pr) (some (f, some (fd.offset, fd.type))) none
            | none => none
          | none => none
        | _ => none)
      | _, _ => none
    | none => none
  | none => none

theorem recv_same {xt : TypeId} {pr : Bool} {v : Value} {wr : Option String} {w : World} (h : isPtrTy P xt = some pr) : (receiverAt xt (.val v) pr wr).run P w = .ok v w := by
  unfold isPtrTy at h
  split at h
  · rename_i e hu
    cases h
    simp [receiverAt, run_underlying hu, Place.get]
  · rename_i d hnp hu
    cases h
    cases d <;> first | (simp [receiverAt, run_underlying hu, Place.get]; done) | (exact absurd rfl (hnp _))
  · cases h
theorem methOf_ok {G : Info} (hTT : TTOk P G.tt) (hG : G.meth = methOf P) (hd : 0 < P.types.size + Made.depth) : MethOk P G := by
  intro t v name f r h K w u hv
  obtain ⟨k, hk⟩ : ∃ k, P.types.size + Made.depth = k + 1 := ⟨_, (Nat.sub_add_cancel hd).symm⟩
  rw [hk]
  unfold methodOf at h
  rw [hG] at h
  split at h
  · rename_i f' hm
    cases h
    unfold methOf at hm
    split at hm
    · rename_i inf hi
      split at hm
      · rename_i m hfind
        split at hm
        · rename_i f2 pr hf hp
          split at hm
          · rename_i b hb
            cases hbp : (b == pr) with
            | false => rw [hbp] at hm; cases hm
            | true =>
              rw [hbp, cond_true] at hm
              cases hm
              have : b = pr := by simpa using hbp
              subst this
              refine ⟨u, ?_, hv⟩
              simp [method, typeInfo, hi, hfind, hp, follow, hf, recv_same hb]
          · cases hm
        · rename_i f2 pr s hf hp
          cases hs : s.deref with
          | true => rw [hs] at hm; cases hm
          | false =>
            rw [hs, cond_false] at hm
            split at hm
            · split at hm
              · split at hm
                · rename_i b _
                  cases hbp : (b == pr) <;> rw [hbp] at hm <;> cases hm
                · cases hm
              · cases hm
            · cases hm
        · cases hm
      · cases hm
    · cases hm
  · rename_i f' off ut hm
    split at h
    · rename_i i cs hi
      simp only [Option.map_eq_some_iff, Prod.mk.injEq] at h
      obtain ⟨r', hr, rfl, rfl⟩ := h
      obtain ⟨_, _, _, _, hty⟩ := hTT _ _ hi
      unfold methOf at hm
      split at hm
      · rename_i inf hinf
        split at hm
        · rename_i m hfind
          split at hm
          · rename_i f2 pr hf hp
            split at hm
            · rename_i b hb
              cases hbp : (b == pr) <;> rw [hbp] at hm <;> cases hm
            · cases hm
          · rename_i f2 pr s hf hp
            cases hs : s.deref with
            | true => rw [hs] at hm; cases hm
            | false =>
              rw [hs, cond_false] at hm
              split at hm
              · rename_i fields hst
                split at hm
                · rename_i fd hfd
                  split at hm
                  · rename_i b hb
                    cases hbp : (b == pr) with
                    | false => rw [hbp] at hm; cases hm
                    | true =>
                      rw [hbp, cond_true] at hm
                      cases hm
                      have : b = pr := by simpa using hbp
                      subst this
                      cases hv with
                      | agg hl hvv =>
                        obtain ⟨ur, hur, hvr⟩ := part_sound (P := P) (w := w) hty ⟨hl, hvv⟩ hr
                        refine ⟨ur, ?_, hvr⟩
                        simp [method, typeInfo, hinf, hfind, hp, follow, hf, hs, run_underlying hst, hfd, hur, recv_same hb]
                  · cases hm
                · cases hm
              · cases hm
          · cases hm
        · cases hm
      · cases hm
    · cases h
  · cases h
end Go.Ev
