/-
  Ev: operations on values: slices, places, parts, conversions.
-/
import Derived.Test.YtainnmkcbmiboaaGreatDoorEvPure
namespace Go.Ev
open Go
variable {P : Program} {K : Kr}

/-! ### Types, by their kind -/
section td
variable {d : TypeDesc}
theorem td_bool (h : tdOfDesc d = .bool) : d = .bool := by cases d <;> simp_all [tdOfDesc]
theorem td_int {k : IntKind} (h : tdOfDesc d = .int k) : d = .int k := by cases d <;> simp_all [tdOfDesc]
theorem td_str (h : tdOfDesc d = .str) : d = .string := by cases d <;> simp_all [tdOfDesc]
theorem td_ptr {e : TypeId} (h : tdOfDesc d = .ptr e) : d = .pointer e := by cases d <;> simp_all [tdOfDesc]
theorem td_slice {e : TypeId} (h : tdOfDesc d = .slice e) : d = .slice e := by cases d <;> simp_all [tdOfDesc]
theorem td_arr {n : Nat} {e : TypeId} (h : tdOfDesc d = .arr n e) : d = .array n e := by cases d <;> simp_all [tdOfDesc]
theorem td_struct {fs : List (Nat × TypeId)} (h : tdOfDesc d = .struct fs) : ∃ gs : Array Field, d = .struct gs ∧ fs = gs.toList.map fun f => (f.offset, f.type) := by
  cases d <;> simp [tdOfDesc] at h
  exact ⟨_, rfl, h.symm⟩
theorem td_map {k e : TypeId} (h : tdOfDesc d = .map k e) : d = .map k e := by cases d <;> simp_all [tdOfDesc]
theorem td_iface (h : tdOfDesc d = .iface) : ∃ ms, d = .interface ms := by cases d <;> simp_all [tdOfDesc]
theorem td_not_iface (h : tdOfDesc d ≠ .iface) : ∀ ms, d ≠ .interface ms := by rintro ms rfl; exact h rfl
end td

variable {G : Info}
theorem run_sizeOfTy (hT : TTOk P G.tt) {t : TypeId} {k : Nat} (h : sizeOfTy G t = some k) (w : World) : (Go.sizeOf t).run P w = .ok k w := by
  unfold sizeOfTy at h
  cases e : G.tt t with
  | none => simp [e] at h
  | some i =>
    simp [e] at h; subst h
    obtain ⟨inf, d, z, zv, hT⟩ := hT t i e
    exact hT.run_size w

/-! ### Lists of pieces of one length -/
theorem flat_append (a b : List (List AV)) : flat (a ++ b) = flat a ++ flat b := by
  induction a with
  | nil => rfl
  | cons x r ih => simp [flat, ih]
theorem flat_length {es : List (List AV)} {k : Nat} (h : ∀ e ∈ es, e.length = k) : (flat es).length = es.length * k := by
  induction es with
  | nil => simp [flat]
  | cons x r ih =>
    simp only [flat, List.length_append, List.length_cons, h x (by simp), ih fun e he => h e (by simp [he])]
    rw [Nat.add_mul]; omega
theorem flat_drop {es : List (List AV)} {k : Nat} (h : ∀ e ∈ es, e.length = k) (n : Nat) : flat (es.drop n) = (flat es).drop (n * k) := by
  induction es generalizing n with
  | nil => simp [flat]
  | cons x r ih =>
    cases n with
    | zero => simp
    | succ n =>
      have hx := h x (by simp)
      simp only [flat, List.drop_succ_cons, ih (fun e he => h e (by simp [he]))]
      rw [List.drop_append, hx, Nat.add_mul, Nat.one_mul, Nat.add_sub_cancel]
      rw [show x.drop (n * k + k) = [] from List.drop_eq_nil_of_le (by rw [hx]; omega)]; simp
theorem flat_take {es : List (List AV)} {k : Nat} (h : ∀ e ∈ es, e.length = k) (n : Nat) : flat (es.take n) = (flat es).take (n * k) := by
  induction es generalizing n with
  | nil => simp [flat]
  | cons x r ih =>
    cases n with
    | zero => simp [flat]
    | succ n =>
      have hx := h x (by simp)
      simp only [flat, List.take_succ_cons, ih (fun e he => h e (by simp [he]))]
      rw [List.take_append, hx, Nat.add_mul, Nat.one_mul, Nat.add_sub_cancel, List.take_of_length_le (i := n * k + k) (by rw [hx]; omega)]
theorem flat_at {es : List (List AV)} {k n : Nat} {e : List AV} (h : ∀ e ∈ es, e.length = k) (hn : es[n]? = some e) : ((flat es).drop (n * k)).take k = e := by
  rw [← flat_drop h]
  obtain ⟨hlt, rfl⟩ := List.getElem?_eq_some_iff.1 hn
  rw [List.drop_eq_getElem_cons hlt]
  simp only [flat]
  rw [List.take_append, h _ (List.getElem_mem hlt), List.take_of_length_le (by rw [h _ (List.getElem_mem hlt)]; omega)]
  simp
theorem chunks_spec : ∀ {k n : Nat} {l : List AV} {es : List (List AV)}, chunks k n l = some es → es.length = n ∧ (∀ e ∈ es, e.length = k) ∧ n * k ≤ l.length ∧ flat es = l.take (n * k)
  | k, 0, l, es, h => by simp [chunks] at h; subst h; simp [flat]
  | k, n + 1, l, es, h => by
    simp only [chunks] at h
    split at h
    · rename_i e he
      simp only [Option.map_eq_some_iff] at h
      obtain ⟨r, hr, rfl⟩ := h
      obtain ⟨h1, rfl⟩ := takeN_spec he
      obtain ⟨h2, h3, h4, h5⟩ := chunks_spec hr
      simp at h4
      have hm : (n + 1) * k = k + n * k := by rw [Nat.add_mul]; omega
      refine ⟨by simp [h2], fun x hx => ?_, by omega, ?_⟩
      · rcases List.mem_cons.1 hx with rfl | hx
        · simp; omega
        · exact h3 x hx
      · simp only [flat, h5, hm]
        rw [List.take_add]
    · cases h
theorem VRL.ahead {x : List Value} {n : Nat} {P' : Nat → Value → Prop} (hc : ∀ (j : Nat) v, x[j]? = some v → P' j v) :
    ∀ (j : Nat) v, (x.take n)[j]? = some v → P' j v := fun j v e => by
  rw [List.getElem?_take] at e
  split at e
  · exact hc j v e
  · cases e

/-! ### Bounds -/
inductive BV (K : Kr) : Option AV → Option Value → Prop
  | non : BV K none none
  | som {a : AV} {u : Value} (h : VR K a u) : BV K (some a) (some u)
theorem natOf_spec {a : AV} {n : Nat} (h : natOf a = some n) : ∃ k, a = .int k n := by
  unfold natOf at h
  split at h
  · cases h; exact ⟨_, rfl⟩
  · cases h
theorem BV.nat {a : Option AV} {u : Option Value} {d n : Nat} (h : BV K a u) (hn : optNat a d = some n) : (u = none ∧ a = none ∧ n = d) ∨ ∃ k, u = some (.int k n) := by
  cases h with
  | non => simp [optNat] at hn; exact .inl ⟨rfl, rfl, hn.symm⟩
  | som h =>
    obtain ⟨k, rfl⟩ := natOf_spec hn
    exact .inr ⟨k, by rw [h.int_inv]⟩
theorem run_sliceBound_nat (k : IntKind) (i y : Nat) (code : BoundsCode) (h : i ≤ y) (w : World) : (Instr.sliceBound (.int k i) y code).run P w = .ok i w := by
  have : (i : Int) ≤ (y : Int) := by omega
  simp [Instr.sliceBound, asIntOf, this]
theorem run_bounds (isSlice : Bool) (len cap : Nat) {lo hi mx : Option Value} {l h m : Nat} (w : World)
    (hlo : (lo = none ∧ l = 0) ∨ ∃ k, lo = some (.int k l)) (hhi : (hi = none ∧ mx = none ∧ h = len) ∨ ∃ k, hi = some (.int k h)) (hmx : (mx = none ∧ m = cap) ∨ ∃ k, mx = some (.int k m))
    (h1 : l ≤ h) (h2 : h ≤ m) (h3 : m ≤ cap) : (Instr.sliceBounds isSlice len cap lo hi mx).run P w = .ok (l, h, m) w := by
  rcases hmx with ⟨rfl, rfl⟩ | ⟨km, rfl⟩
  · rcases hhi with ⟨rfl, _, rfl⟩ | ⟨kh, rfl⟩ <;> rcases hlo with ⟨rfl, rfl⟩ | ⟨kl, rfl⟩ <;>
      simp [Instr.sliceBounds, run_sliceBound_nat, h1, h2]
  · rcases hhi with ⟨_, h', _⟩ | ⟨kh, rfl⟩
    · cases h'
    · rcases hlo with ⟨rfl, rfl⟩ | ⟨kl, rfl⟩ <;> simp [Instr.sliceBounds, run_sliceBound_nat, h1, h2, h3]
/-- the model takes the bounds that the evaluator takes; where no third is given, the slice's own -/
theorem bounds_sound {isSlice : Bool} {len cap C : Nat} {lo hi mx : Option AV} {ul uh um : Option Value} {l h m : Nat} (hl : BV K lo ul) (hh : BV K hi uh) (hm : BV K mx um)
    (hb : bounds len cap lo hi mx = some (l, h, m)) (hC : cap ≤ C) (w : World) :
    l ≤ h ∧ h ≤ m ∧ m ≤ cap ∧ (Instr.sliceBounds isSlice len C ul uh um).run P w = .ok (l, h, if mx.isSome then m else C) w ∧ (mx.isSome = false → m = cap) := by
  unfold bounds at hb
  split at hb
  · cases hb
  · rename_i hc
    split at hb
    · rename_i l' h' m' e1 e2 e3
      split at hb
      · rename_i hle
        cases hb
        simp only [Bool.and_eq_true, decide_eq_true_eq] at hle
        obtain ⟨⟨h1, h2⟩, h3⟩ := hle
        refine ⟨h1, h2, h3, ?_, ?_⟩
        · have hlo := hl.nat e1
          have hhi := hh.nat e2
          have hmx := hm.nat e3
          refine run_bounds isSlice len C w (hlo.imp (fun x => ⟨x.1, x.2.2⟩) id) ?_ ?_ h1 ?_ ?_
          · rcases hhi with ⟨rfl, rfl, rfl⟩ | h'
            · refine .inl ⟨rfl, ?_, rfl⟩
              cases mx with
              | none => cases hm; rfl
              | some x => simp at hc
            · exact .inr h'
          · rcases hmx with ⟨rfl, rfl, rfl⟩ | ⟨k, rfl⟩
            · exact .inl ⟨rfl, rfl⟩
            · cases hm; exact .inr ⟨k, rfl⟩
          · split <;> omega
          · split <;> omega
        · intro hno
          cases mx with
          | none => simp [optNat] at e3; exact e3.symm
          | some x => simp at hno
      · cases hb
    · cases hb
end Go.Ev
