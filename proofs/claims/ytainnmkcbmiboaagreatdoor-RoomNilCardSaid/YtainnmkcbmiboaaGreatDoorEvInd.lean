/-
  Ev: what an operation's answer rests on; equal values.
-/
import Derived.Test.YtainnmkcbmiboaaGreatDoorEvReg
namespace Go.Ev
open Go
variable {P : Program} {K : Kr} {G : Info} {σ σ' : Store} {w : World} {C C' : Oracle} {Y Y' : Yielder} {o : Oper} {env : Env} {q q' : Nat} {r : OR}

theorem pure1_same {x : Option AV} (h : pure1 σ x = some (r, σ')) : σ' = σ ∧ (∃ v, r = .val v) ∧ ∀ τ, pure1 τ x = some (r, τ) := by
  obtain ⟨v, h1, rfl, rfl⟩ := pure1_inv h
  exact ⟨rfl, ⟨v, rfl⟩, fun τ => by rw [h1]; rfl⟩
theorem some_same {v : AV} (h : some (OR.val v, σ) = some (r, σ')) : σ' = σ ∧ (∃ v, r = .val v) ∧ ∀ τ : Store, some (OR.val v, τ) = some (r, τ) := by
  cases h; exact ⟨rfl, ⟨v, rfl⟩, fun _ => rfl⟩

theorem minmax_same {b : Builtin} {ts : Array TypeId} {args : List AV} {v : AV} (hb : b = .min ∨ b = .max) (h : builtinOf G σ q b ts args = some (v, σ')) : σ' = σ ∧ ∀ (τ : Store) q', builtinOf G τ q' b ts args = some (v, τ) := by
  rcases hb with rfl | rfl <;> simp only [builtinOf, Option.map_eq_some_iff, Prod.mk.injEq] at h ⊢ <;> obtain ⟨v, h1, rfl, rfl⟩ := h
  · exact ⟨rfl, fun _ _ => ⟨v, h1, rfl, trivial⟩⟩
  · exact ⟨rfl, fun _ _ => ⟨v, h1, rfl, trivial⟩⟩
/-- Of its operands alone. -/
theorem pure_indep (hc : clsOf o = 0) (h : evOp G C Y q o env σ = some (r, σ')) : σ' = σ ∧ (∃ v, r = .val v) ∧ ∀ τ, evOp G C' Y' q' o env τ = some (r, τ) := by
  unfold clsOf at hc
  unfold evOp at h ⊢
  split at hc <;> rename_i ho <;> first | cases hc | skip
  all_goals simp only [ho] at h ⊢
  · exact pure1_same h
  · exact pure1_same h
  · split at h
    · exact pure1_same h
    · exact pure1_same h
    · cases h
  · split at h
    · exact pure1_same h
    · cases h
  · split at h <;> first | (cases h; done) | exact some_same h
  · split at h
    · exact pure1_same h
    · cases h
  · split at h
    · exact pure1_same h
    · cases h
  · split at h
    · split at h
      · cases h
      · rename_i hc
        have := some_same h
        exact ⟨this.1, this.2.1, fun τ => by rw [if_neg hc]; exact this.2.2 τ⟩
    · cases h
  · rename_i fn first cap
    cases fn <;> first | (cases h; done) | skip
    dsimp only at h ⊢
    split at h
    · exact some_same h
    · cases h
  · split at h
    · exact pure1_same h
    · cases h
  · split at h
    · exact pure1_same h
    · cases h
  · split at h
    · exact pure1_same h
    · cases h
  · split at h
    · exact pure1_same h
    · cases h
  · split at h
    · exact pure1_same h
    · cases h
  · split at h
    · exact pure1_same h
    · cases h
  · rename_i c
    have hb : ∃ b, c.callee = .builtin b ∧ (b = .min ∨ b = .max) := by
      split at hc <;> first | cases hc | skip
      · exact ⟨_, ‹_›, .inl rfl⟩
      · exact ⟨_, ‹_›, .inr rfl⟩
    obtain ⟨b, hcal, hb⟩ := hb
    split at h
    · cases h
    · simp only [hcal] at h ⊢
      obtain ⟨v, h1, rfl⟩ := val1_inv h
      obtain ⟨rfl, h2⟩ := minmax_same hb h1
      exact ⟨rfl, ⟨v, rfl⟩, fun τ => by rw [h2]; rfl⟩

theorem pure1_read {x : Option AV} (h : pure1 σ x = some (r, σ')) : σ' = σ ∧ ∃ v, r = .val v := by
  obtain ⟨v, h1, rfl, rfl⟩ := pure1_inv h
  exact ⟨rfl, v, rfl⟩
/-- It reads alone; the number kept for it is of no account. -/
theorem read_same (hc : clsOf o = 1) (h : evOp G C Y q o env σ = some (r, σ')) : (σ' = σ ∧ ∃ v, r = .val v) ∧ ∀ C' Y' q' τ, evOp G C Y q o env τ = evOp G C' Y' q' o env τ := by
  unfold clsOf at hc
  split at hc <;> rename_i ho <;> first | cases hc | skip
  · refine ⟨?_, fun C' Y' q' τ => by simp only [evOp, ho]⟩
    simp only [evOp, ho] at h
    split at h
    · exact pure1_read h
    · cases h
  · refine ⟨?_, fun C' Y' q' τ => by simp only [evOp, ho]⟩
    simp only [evOp, ho] at h
    split at h
    · exact pure1_read h
    · cases h
  · refine ⟨?_, fun C' Y' q' τ => by simp only [evOp, ho]⟩
    simp only [evOp, ho] at h
    split at h
    · exact pure1_read h
    · cases h
  · refine ⟨?_, fun C' Y' q' τ => by simp only [evOp, ho]⟩
    simp only [evOp, ho] at h
    split at h
    · split at h
      · split at h
        · split at h
          · split at h
            · split at h
              · cases h; exact ⟨rfl, _, rfl⟩
              · cases h
            · cases h
          · cases h
        · cases h
      · cases h
    · cases h
  · refine ⟨?_, fun C' Y' q' τ => by simp only [evOp, ho]⟩
    simp only [evOp, ho] at h
    split at h
    · split at h
      · split at h
        · split at h
          · split at h
            · cases h; exact ⟨rfl, _, rfl⟩
            · cases h
          · cases h
        · cases h
      · cases h
    · cases h
  · rename_i c
    have hb : c.callee = .builtin .len := by
      split at hc <;> first | cases hc | skip
      assumption
    have e : ∀ C Y q τ, evOp G C Y q o env τ = (match opds G env c.args.toList with
      | none => none
      | some args => val1 (match args with
        | [x] => (match (c.argTypes[0]?).bind G.tt with
          | some i => (lenBy τ i.d x).map fun (n : Nat) => (AV.int .i64 n, τ)
          | none => none)
        | _ => none)) := by
      intro C Y q τ
      cases hop : opds G env c.args.toList with
      | none => simp only [evOp, ho, hop]
      | some args =>
        simp only [evOp, ho, hop, hb]
        congr 1
        cases args with
        | nil => rfl
        | cons x r => cases r with
          | nil => rfl
          | cons y z => rfl
    refine ⟨?_, fun C' Y' q' τ => by rw [e, e]⟩
    rw [e] at h
    split at h
    · cases h
    · obtain ⟨v, h1, rfl⟩ := val1_inv h
      split at h1
      · split at h1
        · simp only [Option.map_eq_some_iff, Prod.mk.injEq] at h1
          obtain ⟨_, _, _, rfl⟩ := h1
          exact ⟨rfl, _, rfl⟩
        · cases h1
      · cases h1

/-- Something new, of its operands alone. -/
theorem new_indep (hc : isNew o = true) (h : evOp G C Y q o env σ = some (r, σ')) : ∃ v x, r = .val v ∧ σ' = σ.add q x ∧ ∀ τ, evOp G C Y q o env τ = some (.val v, τ.add q x) := by
  unfold isNew at hc
  split at hc <;> rename_i ho <;> first | cases hc | skip
  all_goals simp only [evOp, ho] at h ⊢
  · split at h
    · cases h; exact ⟨_, _, rfl, rfl, fun _ => rfl⟩
    · cases h
  · split at h
    · split at h
      · rename_i hcond
        cases h; exact ⟨_, _, rfl, rfl, fun _ => by rw [if_pos hcond]⟩
      · cases h
    · cases h
  · split at h
    · split at h
      · split at h
        · rename_i hcond
          simp only [Option.map_eq_some_iff] at h
          obtain ⟨cs, hcs, he⟩ := h
          cases he
          exact ⟨_, _, rfl, rfl, fun _ => by rw [if_pos hcond, hcs]; rfl⟩
        · cases h
      · cases h
    · cases h
  · split at h
    · split at h
      · split at h
        · rename_i hcond
          cases h
          exact ⟨_, _, rfl, rfl, fun _ => by rw [if_pos hcond]⟩
        · cases h
      · cases h
    · cases h
  · cases h; exact ⟨_, _, rfl, rfl, fun _ => rfl⟩

/-! ### Equal values -/
mutual
theorem beq_sound : ∀ (a b : AV), AV.beq a b = true → a = b
  | a, b, h => by
    cases a <;> cases b <;> (try simp only [AV.beq, Bool.and_eq_true, beq_iff_eq, Nat.beq_eq, Bool.false_eq_true] at h) <;> try (first | rfl | (exact h.elim))
    case bool.bool => subst h; rfl
    case int.int => rw [kindEq_eq h.1]; have := h.2; rw [intEq_eq, beq_iff_eq] at this; rw [this]
    case str.str => rw [bytesEq_eq, beq_iff_eq] at h; rw [h]
    case ptr.ptr => rw [h.1, h.2]
    case cptr.cptr => rw [h.1, beqL_sound _ _ h.2]
    case sl.sl =>
      rename_i l1 _ _ _ l2
      cases l1 <;> cases l2 <;> simp only [AV.beq, Bool.and_eq_true, Nat.beq_eq, Bool.false_eq_true] at h
      · rw [h.1.1, h.1.2, h.2]
      · rw [h.1.1.1, h.1.1.2, h.1.2, h.2]
    case tr.tr => rw [beqLL_sound _ _ h]
    case map.map => rw [h]
    case fn.fn => rw [h.1.1, beqL_sound _ _ h.1.2, beqL_sound _ _ h.2]
    case yld.yld => rw [h]
    case iface.iface => rw [h.1, beq_sound _ _ h.2]
    case agg.agg => rw [beqL_sound _ _ h]
    case tup.tup => rw [beqL_sound _ _ h]
theorem beqL_sound : ∀ (a b : List AV), AV.beqL a b = true → a = b
  | [], [], _ => rfl
  | [], _ :: _, h => by simp [AV.beqL] at h
  | _ :: _, [], h => by simp [AV.beqL] at h
  | a :: x, b :: y, h => by
    simp only [AV.beqL, Bool.and_eq_true] at h
    rw [beq_sound a b h.1, beqL_sound x y h.2]
theorem beqLL_sound : ∀ (a b : List (List AV)), AV.beqLL a b = true → a = b
  | [], [], _ => rfl
  | [], _ :: _, h => by simp [AV.beqLL] at h
  | _ :: _, [], h => by simp [AV.beqLL] at h
  | a :: x, b :: y, h => by
    simp only [AV.beqLL, Bool.and_eq_true] at h
    rw [beqL_sound a b h.1, beqLL_sound x y h.2]
end
end Go.Ev
