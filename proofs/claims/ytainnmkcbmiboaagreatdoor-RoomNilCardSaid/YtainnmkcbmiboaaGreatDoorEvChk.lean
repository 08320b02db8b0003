/-
  Ev: what the check of a region says.
-/
import Derived.Test.YtainnmkcbmiboaaGreatDoorEvFrame
namespace Go.Ev
open Go
variable {ops : Array Oper}

theorem nth_append (l r : List Nat) (i : Nat) : nth (l ++ r) i = if i < l.length then nth l i else nth r (i - l.length) := by
  induction l generalizing i with
  | nil => simp
  | cons x l ih => cases i with
    | zero => simp [nth]
    | succ i => simp [nth, ih]
theorem bit_one (n b : Nat) : (1 <<< n).testBit b = true ↔ b = n := by
  rw [Nat.one_shiftLeft, Nat.testBit_two_pow]
  simp; exact eq_comm
theorem maskAdd_spec {ms : List Nat} : ∀ {es : List Edge} {b : Nat}, (maskAdd ms es).testBit b = true → ∃ e ∈ es, Region.binds .any e = true ∧ (b = e.on ∨ (nth ms e.on).testBit b = true)
  | [], b, h => by simp [maskAdd] at h
  | e :: r, b, h => by
    simp only [maskAdd] at h
    cases hb : Region.binds .any e with
    | false =>
      rw [hb, cond_false] at h
      obtain ⟨e', h1, h2⟩ := maskAdd_spec h
      exact ⟨e', by simp [h1], h2⟩
    | true =>
      rw [hb, cond_true, Nat.testBit_or, Nat.testBit_or, Bool.or_eq_true, Bool.or_eq_true] at h
      rcases h with (h | h) | h
      · exact ⟨e, by simp, hb, .inl ((bit_one _ _).1 h)⟩
      · exact ⟨e, by simp, hb, .inr h⟩
      · obtain ⟨e', h1, h2⟩ := maskAdd_spec h
        exact ⟨e', by simp [h1], h2⟩
theorem maskAdd_congr {ms ms' : List Nat} : ∀ {es : List Edge}, (∀ e ∈ es, Region.binds .any e = true → nth ms e.on = nth ms' e.on) → maskAdd ms es = maskAdd ms' es
  | [], _ => rfl
  | e :: r, h => by
    simp only [maskAdd, maskAdd_congr (es := r) fun e he => h e (by simp [he])]
    cases hb : Region.binds .any e with
    | false => rfl
    | true => simp only [cond_true, h e (by simp) hb]
theorem edgesBelow_spec {i : Nat} : ∀ {es : List Edge}, edgesBelow i es = true → ∀ e ∈ es, Region.binds .any e = true → e.on < i
  | [], _, e, he, _ => by simp at he
  | x :: r, h, e, he, hb => by
    simp only [edgesBelow, Bool.and_eq_true] at h
    rcases List.mem_cons.1 he with rfl | he
    · have := h.1; rw [hb, cond_true] at this
      simpa using this
    · exact edgesBelow_spec h.2 e he hb

structure MasksOk (ops : Array Oper) (ms : List Nat) : Prop where
  below : ∀ (j : Nat) o, ops[j]? = some o → ∀ e ∈ o.after, Region.binds .any e = true → e.on < j
  bits : ∀ (j : Nat) o, ops[j]? = some o → ∀ b, (nth ms j).testBit b = true → ∃ e ∈ o.after, Region.binds .any e = true ∧ (b = e.on ∨ (nth ms e.on).testBit b = true)
theorem drop_at {l : List Oper} {i : Nat} {o : Oper} {r : List Oper} (h : l.drop i = o :: r) : l[i]? = some o ∧ l.drop (i + 1) = r := by
  refine ⟨?_, by rw [← List.tail_drop, h]; rfl⟩
  have h1 : (l.drop i)[0]? = some o := by rw [h]; rfl
  simpa using h1
theorem masksFrom_spec : ∀ {l : List Oper} {i : Nat} {ms ms' : List Nat}, ops.toList.drop i = l → ms.length = i → masksFrom l i ms = some ms' →
    (∀ j, j < i → nth ms' j = nth ms j) ∧ ∀ (j : Nat) o, i ≤ j → ops[j]? = some o → (∀ e ∈ o.after.toList, Region.binds .any e = true → e.on < j) ∧ nth ms' j = maskAdd ms' o.after.toList
  | [], i, ms, ms', hl, hi, h => by
    simp only [masksFrom, Option.some.injEq] at h
    subst h
    refine ⟨fun _ _ => rfl, fun j o hj ho => ?_⟩
    have h1 : ops.size ≤ i := by simpa using hl
    have := (Array.getElem?_eq_some_iff.1 ho).1
    omega
  | o :: r, i, ms, ms', hl, hi, h => by
    obtain ⟨hoi, hr⟩ := drop_at hl
    simp only [masksFrom] at h
    cases hb : edgesBelow i o.after.toList with
    | false => rw [hb] at h; cases h
    | true =>
      rw [hb, cond_true] at h
      obtain ⟨h1, h2⟩ := masksFrom_spec hr (by simp [hi]) h
      have hbel := edgesBelow_spec hb
      have hpre : ∀ j, j < i → nth ms' j = nth ms j := fun j hj => by rw [h1 j (by omega), nth_append, if_pos (by omega)]
      refine ⟨hpre, fun j o' hj ho' => ?_⟩
      by_cases hji : j = i
      · subst hji
        have : o' = o := by
          have h3 : ops.toList[j]? = some o' := by simpa using ho'
          rw [hoi] at h3; cases h3; rfl
        subst this
        refine ⟨hbel, ?_⟩
        rw [h1 j (by omega), nth_append, if_neg (by omega), hi, Nat.sub_self]
        simp only [nth]
        exact maskAdd_congr fun e he hb => (hpre _ (hbel e he hb)).symm
      · exact h2 j o' (by omega) ho'
theorem masks_ok {ms : List Nat} (h : masksFrom ops.toList 0 [] = some ms) : MasksOk ops ms := by
  obtain ⟨_, h2⟩ := masksFrom_spec (ops := ops) (i := 0) rfl rfl h
  exact ⟨fun j o ho e he hb => (h2 j o (Nat.zero_le _) ho).1 e (by simpa using he) hb, fun j o ho b hb => by
    rw [(h2 j o (Nat.zero_le _) ho).2] at hb
    obtain ⟨e, h1, h3⟩ := maskAdd_spec hb
    exact ⟨e, by simpa using h1, h3⟩⟩
/-- What is done has all ahead of it done. -/
def Down (ops : Array Oper) (D : Nat → Prop) : Prop := ∀ (j : Nat) o, ops[j]? = some o → D j → ∀ e ∈ o.after, Region.binds .any e = true → D e.on
theorem MasksOk.down {ms : List Nat} (h : MasksOk ops ms) {D : Nat → Prop} (hD : Down ops D) : ∀ (j : Nat) o b, ops[j]? = some o → D j → (nth ms j).testBit b = true → D b := by
  intro j
  induction j using Nat.strongRecOn with
  | _ j ih =>
    intro o b ho hj hb
    obtain ⟨e, he, hbi, h1⟩ := h.bits j o ho b hb
    have hlt := h.below j o ho e he hbi
    have hD' := hD j o ho hj e he hbi
    rcases h1 with rfl | h1
    · exact hD'
    · have hj' : j < ops.size := (Array.getElem?_eq_some_iff.1 ho).1
      exact ih e.on hlt ops[e.on] b (Array.getElem?_eq_getElem (by omega)) hD' h1
/-- The same of one that may come next. -/
theorem MasksOk.ready {ms : List Nat} (h : MasksOk ops ms) {D : Nat → Prop} (hD : Down ops D) {j : Nat} {o : Oper} (ho : ops[j]? = some o) (hr : ∀ e ∈ o.after, Region.binds .any e = true → D e.on) {b : Nat} (hb : (nth ms j).testBit b = true) : D b := by
  obtain ⟨e, he, hbi, h1⟩ := h.bits j o ho b hb
  have hlt := h.below j o ho e he hbi
  rcases h1 with rfl | h1
  · exact hr e he hbi
  · have hj' : j < ops.size := (Array.getElem?_eq_some_iff.1 ho).1
    exact h.down hD e.on ops[e.on] b (Array.getElem?_eq_getElem (by omega)) (hr e he hbi) h1

theorem writersFrom_spec : ∀ {l : List Oper} {i : Nat} {ws ws' : List (Nat × Nat)}, ops.toList.drop i = l → writersFrom l i ws = some ws' →
    (∀ d k, look ws d = some k → look ws' d = some k) ∧ ∀ (j : Nat) o d, i ≤ j → ops[j]? = some o → o.dst = some d → look ws' d = some j
  | [], i, ws, ws', hl, h => by
    simp only [writersFrom, Option.some.injEq] at h
    subst h
    refine ⟨fun _ _ h => h, fun j o d hj ho _ => ?_⟩
    have h1 : ops.size ≤ i := by simpa using hl
    have := (Array.getElem?_eq_some_iff.1 ho).1
    omega
  | o :: r, i, ws, ws', hl, h => by
    obtain ⟨hoi, hr⟩ := drop_at hl
    have hat : ∀ o', ops[i]? = some o' → o' = o := fun o' ho' => by
      have h3 : ops.toList[i]? = some o' := by simpa using ho'
      rw [hoi] at h3; cases h3; rfl
    simp only [writersFrom] at h
    split at h
    · rename_i hd
      obtain ⟨h1, h2⟩ := writersFrom_spec hr h
      refine ⟨h1, fun j o' d hj ho' hd' => ?_⟩
      by_cases hji : j = i
      · subst hji; rw [hat o' ho', hd] at hd'; cases hd'
      · exact h2 j o' d (by omega) ho' hd'
    · rename_i d hd
      split at h
      · cases h
      · rename_i hn
        obtain ⟨h1, h2⟩ := writersFrom_spec hr h
        refine ⟨fun d' k hk => h1 d' k (by rw [look_cons]; split <;> first | (rename_i e; subst e; rw [hn] at hk; cases hk) | exact hk), fun j o' d' hj ho' hd' => ?_⟩
        by_cases hji : j = i
        · subst hji
          rw [hat o' ho', hd] at hd'; cases hd'
          exact h1 d j (by rw [look_cons, if_pos rfl])
        · exact h2 j o' d' (by omega) ho' hd'

theorem effsFrom_spec : ∀ {l : List Oper} {i m : Nat} {es : List Nat}, ops.toList.drop i = l → es.length = i → (∀ b o, b < i → ops[b]? = some o → clsOf o = 2 → m.testBit b = true) →
    (∀ j, j < i → nth (effsFrom l i m es) j = nth es j) ∧ ∀ j b o, i ≤ j → j < ops.size → b < j → ops[b]? = some o → clsOf o = 2 → (nth (effsFrom l i m es) j).testBit b = true
  | [], i, m, es, hl, hi, hm => by
    refine ⟨fun _ _ => rfl, fun j b o hj hj' => ?_⟩
    have h1 : ops.size ≤ i := by simpa using hl
    omega
  | o :: r, i, m, es, hl, hi, hm => by
    obtain ⟨hoi, hr⟩ := drop_at hl
    have hat : ∀ o', ops[i]? = some o' → o' = o := fun o' ho' => by
      have h3 : ops.toList[i]? = some o' := by simpa using ho'
      rw [hoi] at h3; cases h3; rfl
    simp only [effsFrom]
    obtain ⟨h1, h2⟩ := effsFrom_spec (i := i + 1) (m := cond (Nat.beq (clsOf o) 2) (m ||| (1 <<< i)) m) (es := es ++ [m]) hr (by simp [hi]) (by
      intro b o' hb ho' hc
      by_cases hbi : b = i
      · subst hbi
        rw [hat o' ho'] at hc
        rw [hc]
        simp only [show Nat.beq 2 2 = true from rfl, cond_true, Nat.testBit_or, Bool.or_eq_true]
        exact .inr ((bit_one _ _).2 rfl)
      · have := hm b o' (by omega) ho' hc
        cases Nat.beq (clsOf o) 2 with
        | true => simp only [cond_true, Nat.testBit_or, Bool.or_eq_true]; exact .inl this
        | false => exact this)
    refine ⟨fun j hj => by rw [h1 j (by omega), nth_append, if_pos (by omega)], fun j b o' hj hj' hb ho' hc => ?_⟩
    by_cases hji : j = i
    · subst hji
      rw [h1 j (by omega), nth_append, if_neg (by omega), hi, Nat.sub_self]
      exact hm b o' hb ho' hc
    · exact h2 j b o' (by omega) hj' hb ho' hc
theorem within_spec {a b : Nat} (h : within a b = true) {k : Nat} (hk : a.testBit k = true) : b.testBit k = true := by
  have := Nat.eq_of_beq_eq_true h
  rw [← this, Nat.testBit_and, Bool.and_eq_true] at hk
  exact hk.2
theorem hasPair_spec : ∀ {l : List (Nat × Nat)} {i j : Nat}, hasPair l i j = true → (i, j) ∈ l
  | [], i, j, h => by simp [hasPair] at h
  | (a, b) :: r, i, j, h => by
    simp only [hasPair, Bool.or_eq_true, Bool.and_eq_true, Nat.beq_eq] at h
    rcases h with ⟨rfl, rfl⟩ | h
    · simp
    · simp [hasPair_spec h]
theorem aheadOf_spec {ms : List Nat} {ws : List (Nat × Nat)} {i : Nat} : ∀ {ts : List Nat}, aheadOf ms ws i ts = true → ∀ t ∈ ts, ∀ j, look ws t = some j → i = j ∨ (nth ms i).testBit j = true ∨ (nth ms j).testBit i = true
  | [], _, t, ht, _, _ => by simp at ht
  | x :: r, h, t, ht, j, hj => by
    simp only [aheadOf, Bool.and_eq_true] at h
    rcases List.mem_cons.1 ht with rfl | ht
    · have := h.1
      rw [hj] at this
      simp only [Bool.or_eq_true, Nat.beq_eq] at this
      rcases this with (h | h) | h
      · exact .inl h
      · exact .inr (.inl h)
      · exact .inr (.inr h)
    · exact aheadOf_spec h.2 t ht j hj
theorem readOk_spec {fr : List (Nat × Nat)} {ms es : List Nat} {i m : Nat} : ∀ {l : List Oper} {j0 : Nat}, ops.toList.drop j0 = l → readOk fr ms es i m l j0 = true →
    ∀ (j : Nat) e, j0 ≤ j → ops[j]? = some e → clsOf e = 2 → (m.testBit j = true ∧ within (nth es j) m = true) ∨ (nth ms j).testBit i = true ∨ (i, j) ∈ fr
  | [], j0, hl, h, j, e, hj, he, _ => by
    have h1 : ops.size ≤ j0 := by simpa using hl
    have := (Array.getElem?_eq_some_iff.1 he).1
    omega
  | x :: r, j0, hl, h, j, e, hj, he, hc => by
    obtain ⟨hoi, hr⟩ := drop_at hl
    simp only [readOk, Bool.and_eq_true] at h
    by_cases hji : j = j0
    · subst hji
      have : e = x := by
        have h3 : ops.toList[j]? = some e := by simpa using he
        rw [hoi] at h3; cases h3; rfl
      subst this
      have h1 := h.1
      rw [hc, show Nat.beq 2 2 = true from rfl, cond_true] at h1
      cases hm : m.testBit j with
      | true => rw [hm, cond_true] at h1; exact .inl ⟨rfl, h1⟩
      | false =>
        rw [hm, cond_false, Bool.or_eq_true] at h1
        exact .inr (h1.imp id hasPair_spec)
    · exact readOk_spec hr h.2 j e (by omega) he hc

/-- What the check comes to. -/
structure DrawOk (fz : Nat → Bool) (fr : List (Nat × Nat)) (ops : Array Oper) (ms : List Nat) : Prop where
  masks : MasksOk ops ms
  once : ∀ (i j : Nat) o p d, ops[i]? = some o → ops[j]? = some p → o.dst = some d → p.dst = some d → i = j
  ahead : ∀ (i j : Nat) o p t, ops[i]? = some o → ops[j]? = some p → p.dst = some t → t ∈ looksOf ops o → i = j ∨ (nth ms i).testBit j = true ∨ (nth ms j).testBit i = true
  frz : ∀ (i : Nat) o, ops[i]? = some o → clsOf o ≠ 2 → fz i = false
  eff : ∀ (i : Nat) o, ops[i]? = some o → clsOf o = 2 → (∀ (b : Nat) p, b < i → ops[b]? = some p → clsOf p = 2 → (nth ms i).testBit b = true) ∨ (isNew o = true ∧ fz i = false)
  read : ∀ (i : Nat) o, ops[i]? = some o → clsOf o = 1 → ∀ (j : Nat) e, ops[j]? = some e → clsOf e = 2 →
    ((nth ms i).testBit j = true ∧ ∀ (b : Nat) p, b < j → ops[b]? = some p → clsOf p = 2 → (nth ms i).testBit b = true) ∨ (nth ms j).testBit i = true ∨ (i, j) ∈ fr
theorem clsOf_le (o : Oper) : clsOf o = 0 ∨ clsOf o = 1 ∨ clsOf o = 2 := by
  unfold clsOf
  split <;> first | exact .inl rfl | exact .inr (.inl rfl) | exact .inr (.inr rfl) | skip
  split <;> first | exact .inl rfl | exact .inr (.inl rfl) | exact .inr (.inr rfl)
theorem opersOk_spec {fz : Nat → Bool} {fr : List (Nat × Nat)} {ms es : List Nat} {ws : List (Nat × Nat)} : ∀ {l : List Oper} {i0 : Nat}, ops.toList.drop i0 = l → opersOk fz fr ms es ws ops l i0 = true →
    ∀ (i : Nat) o, i0 ≤ i → ops[i]? = some o → aheadOf ms ws i (looksOf ops o) = true ∧ (clsOf o ≠ 2 → fz i = false) ∧ (clsOf o = 1 → readOk fr ms es i (nth ms i) ops.toList 0 = true) ∧
      (clsOf o = 2 → within (nth es i) (nth ms i) = true ∨ (isNew o = true ∧ fz i = false))
  | [], i0, hl, h, i, o, hi, ho => by
    have h1 : ops.size ≤ i0 := by simpa using hl
    have := (Array.getElem?_eq_some_iff.1 ho).1
    omega
  | x :: r, i0, hl, h, i, o, hi, ho => by
    obtain ⟨hoi, hr⟩ := drop_at hl
    simp only [opersOk, Bool.and_eq_true] at h
    by_cases hji : i = i0
    · subst hji
      have : o = x := by
        have h3 : ops.toList[i]? = some o := by simpa using ho
        rw [hoi] at h3; cases h3; rfl
      subst this
      obtain ⟨⟨h1, h2⟩, _⟩ := h
      refine ⟨h1, ?_, ?_, ?_⟩
      · intro hc
        rcases clsOf_le o with h | h | h
        · rw [h] at h2; simpa using h2
        · rw [h] at h2; simp only [Bool.and_eq_true] at h2; simpa using h2.1
        · exact absurd h hc
      · intro hc
        rw [hc] at h2
        simp only [Bool.and_eq_true] at h2
        exact h2.2
      · intro hc
        rw [hc] at h2
        simp only [Bool.or_eq_true, Bool.and_eq_true, Bool.not_eq_true'] at h2
        exact h2
    · exact opersOk_spec hr h.2 i o (by omega) ho
theorem drawOk_spec {fz : Nat → Bool} {fr : List (Nat × Nat)} (h : drawOk fz fr ops = true) : ∃ ms, DrawOk fz fr ops ms := by
  unfold drawOk at h
  split at h
  · rename_i ms ws hms hws
    obtain ⟨_, w2⟩ := writersFrom_spec (ops := ops) (i := 0) rfl hws
    have hes := effsFrom_spec (ops := ops) (i := 0) (m := 0) (es := []) rfl rfl (fun b o hb => by omega)
    have hop := opersOk_spec (ops := ops) (i0 := 0) rfl h
    refine ⟨ms, ⟨masks_ok hms, ?_, ?_, ?_, ?_, ?_⟩⟩
    · intro i j o p d ho hp hd hd'
      have h1 := w2 i o d (Nat.zero_le _) ho hd
      have h2 := w2 j p d (Nat.zero_le _) hp hd'
      rw [h1] at h2; cases h2; rfl
    · intro i j o p t ho hp hd ht
      exact aheadOf_spec (hop i o (Nat.zero_le _) ho).1 t ht j (w2 j p t (Nat.zero_le _) hp hd)
    · intro i o ho hc
      exact (hop i o (Nat.zero_le _) ho).2.1 hc
    · intro i o ho hc
      refine ((hop i o (Nat.zero_le _) ho).2.2.2 hc).imp (fun hw b p hb hp hcp => ?_) id
      have hi : i < ops.size := (Array.getElem?_eq_some_iff.1 ho).1
      exact within_spec hw (hes.2 i b p (Nat.zero_le _) hi hb hp hcp)
    · intro i o ho hc j e he hce
      rcases readOk_spec (ops := ops) (j0 := 0) rfl ((hop i o (Nat.zero_le _) ho).2.2.1 hc) j e (Nat.zero_le _) he hce with ⟨h1, h2⟩ | h1
      · have hj : j < ops.size := (Array.getElem?_eq_some_iff.1 he).1
        exact .inl ⟨h1, fun b p hb hp hcp => within_spec h2 (hes.2 j b p (Nat.zero_le _) hj hb hp hcp)⟩
      · exact .inr h1
  · cases h
theorem snapAt_mem : ∀ {l : List Snap} {i : Nat} {s : Snap}, snapAt l i = some s → s.i = i
  | [], i, s, h => by simp [snapAt] at h
  | x :: r, i, s, h => by
    simp only [snapAt] at h
    cases hb : Nat.beq x.i i with
    | true => rw [hb, cond_true] at h; cases h; exact Nat.eq_of_beq_eq_true hb
    | false => rw [hb, cond_false] at h; exact snapAt_mem h
theorem freeOk_spec {G : Info} {C : Oracle} {Y : Yielder} {sn : List Snap} : ∀ {fr : List (Nat × Nat)}, freeOk G C Y ops sn fr = true → ∀ r e s x, (r, e) ∈ fr → snapAt sn r = some s → snapAt sn e = some x → sameRead G C Y ops s x.σ = true ∧ sameRead G C Y ops s x.σ' = true
  | [], _, r, e, s, x, h, _, _ => by simp at h
  | (a, b) :: rest, h, r, e, s, x, hm, hs, hx => by
    simp only [freeOk, Bool.and_eq_true] at h
    rcases List.mem_cons.1 hm with hm | hm
    · cases hm
      have := h.1
      rw [hs, hx] at this
      simpa using this
    · exact freeOk_spec h.2 r e s x hm hs hx
end Go.Ev
