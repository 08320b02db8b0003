/-
  Ev: steps of the memory: a new object, an object written, an object let go, an object frozen.
-/
import Derived.Test.YtainnmkcbmiboaaGreatDoorEvRel
namespace Go.Ev
open Go

/-! ### Lists by numbers -/
theorem beq_no {a b : Nat} (h : ¬ a = b) : Nat.beq a b = false := by
  cases e : Nat.beq a b with
  | false => rfl
  | true => exact absurd (Nat.eq_of_beq_eq_true e) h
section assoc
variable {α : Type}
theorem look_cons (k i : Nat) (v : α) (r : List (Nat × α)) : look ((k, v) :: r) i = if k = i then some v else look r i := by
  by_cases h : k = i
  · subst h; simp [look]
  · have : Nat.beq k i = false := beq_no h
    simp [look, this, h]
theorem look_put (l : List (Nat × α)) (i j : Nat) (v : α) : look (put l i v) j = if i = j then some v else look l j := by
  induction l with
  | nil => simp [put, look_cons, look]
  | cons e r ih =>
    obtain ⟨k, u⟩ := e
    by_cases h : k = i
    · subst h
      have hb : Nat.beq k k = true := by simp
      simp only [put, hb, cond_true, look_cons]
      by_cases hj : k = j <;> simp [hj]
    · have hb : Nat.beq k i = false := beq_no h
      simp only [put, hb, cond_false, look_cons, ih]
      by_cases hj : k = j
      · subst hj
        have : ¬ i = k := fun e => h e.symm
        simp [this]
      · simp [hj]
theorem look_del (l : List (Nat × α)) (i j : Nat) : look (del l i) j = if i = j then none else look l j := by
  induction l with
  | nil => simp [del, look]
  | cons e r ih =>
    obtain ⟨k, u⟩ := e
    by_cases h : k = i
    · subst h
      have hb : Nat.beq k k = true := by simp
      simp only [del, hb, cond_true, ih, look_cons]
      by_cases hj : k = j <;> simp [hj]
    · have hb : Nat.beq k i = false := beq_no h
      simp only [del, hb, cond_false, look_cons, ih]
      by_cases hj : k = j
      · subst hj
        have : ¬ i = k := fun e => h e.symm
        simp [this]
      · simp [hj]
theorem look_below (l : List (Nat × α)) (m j : Nat) : look (below l m) j = if m ≤ j then none else look l j := by
  induction l with
  | nil => simp [below, look]
  | cons e r ih =>
    obtain ⟨k, u⟩ := e
    by_cases h : m ≤ k
    · have hb : Nat.ble m k = true := by simpa using h
      simp only [below, hb, cond_true, ih, look_cons]
      by_cases hj : k = j
      · subst hj; simp [h]
      · simp [hj]
    · have hb : Nat.ble m k = false := by rw [← Bool.not_eq_true]; simpa using h
      simp only [below, hb, cond_false, look_cons, ih]
      by_cases hj : k = j
      · subst hj; simp [h]
      · simp [hj]
end assoc

section store
variable (σ : Store) (o p m : Nat) (x : AObj)
theorem Store.get_set : (σ.set o x).get p = if o = p then some x else σ.get p := look_put _ _ _ _
theorem Store.get_add : (σ.add o x).get p = if o = p then some x else σ.get p := look_cons _ _ _ _
theorem Store.get_kill : (σ.kill o).get p = if o = p then none else σ.get p := look_del _ _ _
theorem Store.get_cut : (σ.cut m).get p = if m ≤ p then none else σ.get p := look_below _ _ _
@[simp] theorem Store.next_set : (σ.set o x).next = σ.next := rfl
@[simp] theorem Store.next_add : (σ.add o x).next = σ.next := rfl
@[simp] theorem Store.next_kill : (σ.kill o).next = σ.next := rfl
@[simp] theorem Store.next_cut : (σ.cut m).next = σ.next := rfl
end store

/-! ### What an object says rests on its block -/
variable {P : Program}
theorem EnvRel.mono {K K' : Kr} (hk : K.Le K') {env : Env} {tmps : Array Value} (h : EnvRel K env tmps) : EnvRel K' env tmps :=
  fun t v e => let ⟨u, hu, hv⟩ := h t v e; ⟨u, hu, hv.mono hk⟩
theorem EsRel.mono {K K' : Kr} (hk : K.Le K') {es : List (Nat × AV × AV)} {ms : List MapEntry} (h : EsRel K es ms) : EsRel K' es ms :=
  ⟨h.1, fun j e m a b => let ⟨x, y, z⟩ := h.2 j e m a b; ⟨x, y.mono hk, z.mono hk⟩⟩
theorem ObjRel.keep {K K' : Kr} {w w' : World} {L : Loc} {x : AObj} (hk : K.Le K') (hb : w'.heap[L.blk]? = w.heap[L.blk]?) (h : ObjRel P K w L x) : ObjRel P K' w' L x := by
  cases x with
  | cells cs ty imm =>
    obtain ⟨c, fr, vs, h⟩ := h
    exact ⟨c, fr, vs, ⟨hb.trans h.heap, h.fits, (fun e => h.one (hk.one ▸ e)), h.len, h.vals.mono hk, h.cell, h.free, fun e j v hv => hk.frz _ _ _ (h.froz e j v hv), h.atoms, h.esz⟩⟩
  | map es c => obtain ⟨ms, h1, h2⟩ := h; exact ⟨ms, hb.trans h1, h2.mono hk⟩
  | iter s pos => obtain ⟨h0, b, h1, h2⟩ := h; exact ⟨h0, b, hb.trans h1, h2⟩
  | miter m since seen st =>
    obtain ⟨h0, r, h1, h2⟩ := h
    refine ⟨h0, r, hb.trans h1, ?_⟩
    cases m <;> cases r <;> simp only at h2 ⊢
    obtain ⟨L', hL, e⟩ := h2; exact ⟨L', hk.loc _ _ hL, e⟩
  | loop st pe f env ps a b d nt =>
    obtain ⟨o1, o2, o3, fn, tmps, D, h1, h2, h3, h4⟩ := h
    exact ⟨hk.ok ▸ o1, hk.ok ▸ o2, o3, fn, tmps, D, hb.trans h1, h2.mono hk, hk.loc _ _ h3, h4⟩
  | defs t => exact hb.trans h

/-! ### A new object -/
def Kr.put (K : Kr) (o : Nat) (L : Loc) : Kr := { K with loc := fun p => if o = p then some L else K.loc p }
theorem Kr.put_same (K : Kr) (o : Nat) (L : Loc) : (K.put o L).loc o = some L := by simp [Kr.put]
theorem Kr.put_ne (K : Kr) {o p : Nat} (L : Loc) (h : o ≠ p) : (K.put o L).loc p = K.loc p := by simp [Kr.put, h]
theorem Kr.put_le {K : Kr} {o : Nat} (L : Loc) (h : K.loc o = none) : K.Le (K.put o L) :=
  ⟨fun p M e => by
    by_cases hp : o = p
    · subst hp; rw [h] at e; cases e
    · rw [Kr.put_ne _ _ hp]; exact e, fun _ _ _ e => e, rfl, rfl⟩

theorem heap_push_old (w w' : World) (x : Obj) (hw : w'.heap = w.heap.push x) {b : Nat} (hb : b < w.heap.size) : w'.heap[b]? = w.heap[b]? := by
  rw [hw, Array.getElem?_push, if_neg (by omega)]
theorem heap_push_new (w w' : World) (x : Obj) (hw : w'.heap = w.heap.push x) : w'.heap[w.heap.size]? = some x := by
  rw [hw, Array.getElem?_push, if_pos rfl]

/-- A new object in a new block. -/
theorem Stp.new {K : Kr} {σ : Store} {w w' : World} (h : StoreRel P K σ w) {o : Nat} {x : AObj} {ob : Obj} {L : Loc}
    (hn : K.loc o = none) (ho : o < σ.next) (hg : σ.get o = none) (hw : w'.heap = w.heap.push ob) (hL : L.blk = w.heap.size)
    (hos : w'.os = w.os) (hta : w'.tape = w.tape) (hou : w'.output = w.output)
    (hx : ObjRel P (K.put o L) w' L x) : Stp P (· = o) K σ w (K.put o L) (σ.add o x) w' := by
  have hle := Kr.put_le L hn
  have hsz : w'.heap.size = w.heap.size + 1 := by rw [hw]; simp
  have hold : ∀ {b}, b < w.heap.size → w'.heap[b]? = w.heap[b]? := fun hb => heap_push_old w w' ob hw hb
  have hloc : ∀ p M, p ≠ o → (K.put o L).loc p = some M → K.loc p = some M := fun p M hp e => by rwa [Kr.put_ne _ _ (fun e' => hp e'.symm)] at e
  have hown : ∀ b, b < w.heap.size → Own (K.put o L) (σ.add o x) b → Own K σ b := by
    rintro b hb ⟨p, y, M, h1, h2, h3, h4⟩
    by_cases hp : p = o
    · subst hp
      rw [Kr.put_same] at h3; cases h3
      omega
    · refine ⟨p, y, M, ?_, h2, hloc p M hp h3, h4⟩
      rwa [Store.get_add, if_neg (fun e => hp e.symm)] at h1
  have hhas : ∀ b, b < w.heap.size → Has (K.put o L) (σ.add o x) b → Has K σ b := by
    rintro b hb ⟨p, y, M, h1, h3, h4⟩
    by_cases hp : p = o
    · subst hp
      rw [Kr.put_same] at h3; cases h3
      omega
    · refine ⟨p, y, M, ?_, hloc p M hp h3, h4⟩
      rwa [Store.get_add, if_neg (fun e => hp e.symm)] at h1
  refine ⟨hle, ⟨?_, ?_, ?_, ?_, ?_, ?_, ?_⟩, Nat.le_refl _, fun p _ hp => Kr.put_ne _ _ (fun e => hp e.symm), by omega, fun p _ hp hn' => by rw [Store.get_add, if_neg (fun e => hp e.symm)]; exact hn', fun b hb _ => hold hb, hown, hhas, fun _ _ _ _ e => .inl e, hos, hta, hou⟩
  · intro p y M h1 h2
    by_cases hp : p = o
    · subst hp
      rw [Store.get_add, if_pos rfl] at h1; cases h1
      rw [Kr.put_same] at h2; cases h2
      exact hx
    · rw [Store.get_add, if_neg (fun e => hp e.symm)] at h1
      have h2' := hloc p M hp h2
      exact ObjRel.keep hle (hold (h.blk _ _ h2')) (h.objs p y M h1 h2')
  · intro p q y z M N h1 h2 l1 l2 e
    by_cases hp : p = o <;> by_cases hq : q = o
    · rw [hp, hq]
    · subst hp
      rw [Kr.put_same] at l1; cases l1
      have := h.blk _ _ (hloc q N hq l2); omega
    · subst hq
      rw [Kr.put_same] at l2; cases l2
      have := h.blk _ _ (hloc p M hp l1); omega
    · rw [Store.get_add, if_neg (fun e => hp e.symm)] at h1
      rw [Store.get_add, if_neg (fun e => hq e.symm)] at h2
      exact h.sep p q y z M N h1 h2 (hloc p M hp l1) (hloc q N hq l2) e
  · intro p hp
    have hp' : σ.next ≤ p := hp
    rw [Kr.put_ne _ _ (by omega)]
    exact h.fresh p hp'
  · intro p y h1
    by_cases hp : p = o
    · subst hp; exact ho
    · rw [Store.get_add, if_neg (fun e => hp e.symm)] at h1
      exact h.got p y h1
  · intro b j v e
    obtain ⟨c, t, fr, h1, h2⟩ := h.frz b j v e
    exact ⟨c, t, fr, (hold (Array.getElem?_eq_some_iff.1 h1).1).trans h1, h2⟩
  · intro b j v e ho'
    obtain ⟨c, t, fr, h1, h2⟩ := h.frz b j v e
    exact h.apart b j v e (hown b (Array.getElem?_eq_some_iff.1 h1).1 ho')
  · intro p M e
    by_cases hp : p = o
    · subst hp
      rw [Kr.put_same] at e; cases e
      omega
    · have := h.blk _ _ (hloc p M hp e); omega

/-! ### An object written -/
theorem Stp.write {K : Kr} {σ : Store} {w w' : World} (h : StoreRel P K σ w) {o : Nat} {x y : AObj} {L : Loc}
    (hg : σ.get o = some x) (hm : x.mut = true) (hL : K.loc o = some L)
    (hs : w'.heap.size = w.heap.size) (hb : ∀ b, b ≠ L.blk → w'.heap[b]? = w.heap[b]?)
    (hos : w'.os = w.os) (hta : w'.tape = w.tape) (hou : w'.output = w.output)
    (hy : ObjRel P K w' L y) : Stp P (fun _ => False) K σ w K (σ.set o y) w' := by
  have hOwn : Own K σ L.blk := ⟨o, x, L, hg, hm, hL, rfl⟩
  have hget : ∀ p z, p ≠ o → (σ.set o y).get p = some z → σ.get p = some z := fun p z hp e => by rwa [Store.get_set, if_neg (fun e' => hp e'.symm)] at e
  have hget' : ∀ p z, p = o → (σ.set o y).get p = some z → z = y := fun p z hp e => by rw [hp, Store.get_set, if_pos rfl] at e; exact (Option.some.inj e).symm
  have hown : ∀ b, Own K (σ.set o y) b → Own K σ b := by
    rintro b ⟨p, z, M, h1, h2, h3, h4⟩
    by_cases hp : p = o
    · subst hp
      rw [hL] at h3; cases h3
      exact h4 ▸ hOwn
    · exact ⟨p, z, M, hget p z hp h1, h2, h3, h4⟩
  have hhas : ∀ b, Has K (σ.set o y) b → Has K σ b := by
    rintro b ⟨p, z, M, h1, h3, h4⟩
    by_cases hp : p = o
    · subst hp
      exact ⟨p, x, M, hg, h3, h4⟩
    · exact ⟨p, z, M, hget p z hp h1, h3, h4⟩
  -- which objects lie in the block that is written: no other one that can be written; a frozen one has no cells there
  refine ⟨.refl K, ⟨?_, ?_, h.fresh, ?_, ?_, ?_, ?_⟩, Nat.le_refl _, fun _ _ _ => rfl, by omega, (fun p _ _ hn => by rw [Store.get_set, if_neg (fun e => by rw [← e, hg] at hn; cases hn)]; exact hn), ?_, fun b _ => hown b, fun b _ => hhas b, fun _ _ _ _ e => .inl e, hos, hta, hou⟩
  · intro p z M h1 h2
    by_cases hp : p = o
    · subst hp
      rw [hget' p z rfl h1]
      rw [hL] at h2; cases h2
      exact hy
    · have h1' := hget p z hp h1
      exact ObjRel.keep (.refl K) (hb _ fun hbl => hp (h.sep p o z x M L h1' hg h2 hL hbl)) (h.objs p z M h1' h2)
  · intro p q z u M N h1 h2 l1 l2 e
    by_cases hp : p = o <;> by_cases hq : q = o
    · rw [hp, hq]
    · subst hp
      rw [hL] at l1; cases l1
      exact h.sep p q x u L N hg (hget q u hq h2) hL l2 e
    · subst hq
      rw [hL] at l2; cases l2
      exact h.sep p q z x M L (hget p z hp h1) hg l1 hL e
    · exact h.sep p q z u M N (hget p z hp h1) (hget q u hq h2) l1 l2 e
  · intro p z h1
    by_cases hp : p = o
    · rw [hp]; exact h.got o x hg
    · exact h.got p z (hget p z hp h1)
  · intro b j v e
    obtain ⟨c, t, fr, h1, h2⟩ := h.frz b j v e
    have hne : b ≠ L.blk := fun e' => h.apart b j v e (e' ▸ hOwn)
    exact ⟨c, t, fr, (hb b hne).trans h1, h2⟩
  · intro b j v e ho'
    exact h.apart b j v e (hown b ho')
  · intro p M e
    have := h.blk p M e; omega
  · intro b _ hn
    exact hb b fun e => hn (e ▸ hOwn)

/-! ### Objects let go; numbers kept -/
theorem Stp.drop {K : Kr} {σ σ' : Store} {w : World} (h : StoreRel P K σ w) (hn : σ.next ≤ σ'.next) (hg : ∀ p z, σ'.get p = some z → σ.get p = some z) (_hi : True := trivial) :
    Stp P (fun _ => False) K σ w K σ' w := by
  have hown : ∀ b, Own K σ' b → Own K σ b := fun b ⟨p, z, M, h1, h2, h3, h4⟩ => ⟨p, z, M, hg p z h1, h2, h3, h4⟩
  exact ⟨.refl K, ⟨fun p z M h1 h2 => h.objs p z M (hg p z h1) h2, fun p q z u M N h1 h2 => h.sep p q z u M N (hg p z h1) (hg q u h2),
    fun p hp => h.fresh p (Nat.le_trans hn hp), fun p z h1 => Nat.lt_of_lt_of_le (h.got p z (hg p z h1)) hn, h.frz, fun b j v e ho => h.apart b j v e (hown b ho), h.blk⟩,
    hn, fun _ _ _ => rfl, Nat.le_refl _, fun p _ _ hn => (by
      cases e : σ'.get p with
      | none => rfl
      | some z => rw [hg p z e] at hn; cases hn), fun _ _ _ => rfl, fun b _ => hown b, fun b _ ⟨p, z, M, h1, h3, h4⟩ => ⟨p, z, M, hg p z h1, h3, h4⟩, fun _ _ _ _ e => .inl e, rfl, rfl, rfl⟩
theorem StoreRel.drop {K : Kr} {σ σ' : Store} {w : World} (h : StoreRel P K σ w) (hn : σ.next ≤ σ'.next) (hg : ∀ p z, σ'.get p = some z → σ.get p = some z) : StoreRel P K σ' w :=
  have hown : ∀ b, Own K σ' b → Own K σ b := fun _ ⟨p, z, M, h1, h2, h3, h4⟩ => ⟨p, z, M, hg p z h1, h2, h3, h4⟩
  ⟨fun p z M h1 h2 => h.objs p z M (hg p z h1) h2, fun p q z u M N h1 h2 => h.sep p q z u M N (hg p z h1) (hg q u h2),
    fun p hp => h.fresh p (Nat.le_trans hn hp), fun p z h1 => Nat.lt_of_lt_of_le (h.got p z (hg p z h1)) hn, h.frz, fun b j v e ho => h.apart b j v e (hown b ho), h.blk⟩
/-- A function's own objects let go. -/
theorem Stp.cut {ex : Nat → Prop} {K K' : Kr} {σ σ' : Store} {w w' : World} (h : Stp P ex K σ w K' σ' w') : Stp P ex K σ w K' (σ'.cut σ.next) w' := by
  have hg : ∀ p z, (σ'.cut σ.next).get p = some z → σ'.get p = some z := fun p z e => by
    rw [Store.get_cut] at e
    split at e
    · cases e
    · exact e
  have hown : ∀ b, Own K' (σ'.cut σ.next) b → Own K' σ' b := fun b ⟨p, z, M, h1, h2, h3, h4⟩ => ⟨p, z, M, hg p z h1, h2, h3, h4⟩
  exact { h with rel := h.rel.drop (Nat.le_refl _) hg, own := fun b hb ho => h.own b hb (hown b ho), has := fun b hb ⟨p, z, M, h1, h3, h4⟩ => h.has b hb ⟨p, z, M, hg p z h1, h3, h4⟩, gain := fun p hp he hn => by rw [Store.get_cut, if_neg (by omega)]; exact h.gain p hp he hn }
theorem Stp.reserve {K : Kr} {σ : Store} {w : World} (h : StoreRel P K σ w) (n : Nat) : Stp P (fun _ => False) K σ w K { σ with next := σ.next + n } w :=
  .drop h (Nat.le_add_right _ _) (fun _ _ e => e)

/-! ### An object goes on under another number, in its block -/
theorem Stp.move {K : Kr} {σ : Store} {w w' : World} (h : StoreRel P K σ w) {o n : Nat} {x y : AObj} {L M : Loc}
    (hg : σ.get o = some x) (hm : x.mut = true) (hL : K.loc o = some L) (hn : K.loc n = none) (hlt : n < σ.next) (hgn : σ.get n = none) (hM : M.blk = L.blk)
    (hs : w'.heap.size = w.heap.size) (hb : ∀ b, b ≠ L.blk → w'.heap[b]? = w.heap[b]?)
    (hos : w'.os = w.os) (hta : w'.tape = w.tape) (hou : w'.output = w.output)
    (hy : ObjRel P (K.put n M) w' M y) : Stp P (· = n) K σ w (K.put n M) ((σ.kill o).add n y) w' := by
  have hle := Kr.put_le M hn
  have hOwn : Own K σ L.blk := ⟨o, x, L, hg, hm, hL, rfl⟩
  have hne : o ≠ n := fun e => by rw [e, hgn] at hg; cases hg
  have hget : ∀ p z, p ≠ n → ((σ.kill o).add n y).get p = some z → p ≠ o ∧ σ.get p = some z := fun p z hp e => by
    rw [Store.get_add, if_neg (fun e' => hp e'.symm), Store.get_kill] at e
    split at e
    · cases e
    · rename_i hne'; exact ⟨fun e' => hne' e'.symm, e⟩
  have hloc : ∀ p N, p ≠ n → (K.put n M).loc p = some N → K.loc p = some N := fun p N hp e => by rwa [Kr.put_ne _ _ (fun e' => hp e'.symm)] at e
  have hown : ∀ b, Own (K.put n M) ((σ.kill o).add n y) b → Own K σ b := by
    rintro b ⟨p, z, N, h1, h2, h3, h4⟩
    by_cases hp : p = n
    · subst hp
      rw [Kr.put_same] at h3; cases h3
      rw [hM] at h4
      exact h4 ▸ hOwn
    · exact ⟨p, z, N, (hget p z hp h1).2, h2, hloc p N hp h3, h4⟩
  have hhas : ∀ b, Has (K.put n M) ((σ.kill o).add n y) b → Has K σ b := by
    rintro b ⟨p, z, N, h1, h3, h4⟩
    by_cases hp : p = n
    · subst hp
      rw [Kr.put_same] at h3; cases h3
      rw [hM] at h4
      exact ⟨o, x, L, hg, hL, h4⟩
    · exact ⟨p, z, N, (hget p z hp h1).2, hloc p N hp h3, h4⟩
  refine ⟨hle, ⟨?_, ?_, ?_, ?_, ?_, ?_, ?_⟩, Nat.le_refl _, fun p _ hp => Kr.put_ne _ _ (fun e => hp e.symm), by omega, (fun p _ hp hn' => by rw [Store.get_add, if_neg (fun e => hp e.symm), Store.get_kill]; split <;> first | rfl | exact hn'), fun b _ hn' => hb b fun e => hn' (e ▸ hOwn), fun b _ => hown b, fun b _ => hhas b, fun _ _ _ _ e => .inl e, hos, hta, hou⟩
  · intro p z N h1 h2
    by_cases hp : p = n
    · subst hp
      rw [Store.get_add, if_pos rfl] at h1; cases h1
      rw [Kr.put_same] at h2; cases h2
      exact hy
    · obtain ⟨hpo, h1'⟩ := hget p z hp h1
      have h2' := hloc p N hp h2
      exact ObjRel.keep hle (hb _ fun e => hpo (h.sep p o z x N L h1' hg h2' hL e)) (h.objs p z N h1' h2')
  · intro p q z u N R h1 h2 l1 l2 e
    by_cases hp : p = n <;> by_cases hq : q = n
    · rw [hp, hq]
    · subst hp
      rw [Kr.put_same] at l1; cases l1
      obtain ⟨hqo, h2'⟩ := hget q u hq h2
      exact absurd (h.sep o q x u L R hg h2' hL (hloc q R hq l2) (hM ▸ e)).symm hqo
    · subst hq
      rw [Kr.put_same] at l2; cases l2
      obtain ⟨hpo, h1'⟩ := hget p z hp h1
      exact absurd (h.sep p o z x N L h1' hg (hloc p N hp l1) hL (hM ▸ e)) hpo
    · exact h.sep p q z u N R (hget p z hp h1).2 (hget q u hq h2).2 (hloc p N hp l1) (hloc q R hq l2) e
  · intro p hp
    have hp' : σ.next ≤ p := hp
    rw [Kr.put_ne _ _ (by omega)]
    exact h.fresh p hp'
  · intro p z h1
    by_cases hp : p = n
    · subst hp; exact hlt
    · exact h.got p z (hget p z hp h1).2
  · intro b j v e
    obtain ⟨c, t, fr, h1, h2⟩ := h.frz b j v e
    exact ⟨c, t, fr, (hb b fun e' => h.apart b j v e (e' ▸ hOwn)).trans h1, h2⟩
  · intro b j v e ho'
    exact h.apart b j v e (hown b ho')
  · intro p N e
    by_cases hp : p = n
    · subst hp
      rw [Kr.put_same] at e; cases e
      rw [hM, hs]; exact h.blk o L hL
    · have := h.blk _ _ (hloc p N hp e); omega

/-! ### Cells that never change any more -/
def Kr.freeze (K : Kr) (b a : Nat) (vs : List Value) : Kr :=
  { K with frz := fun c j => match K.frz c j with
      | some v => some v
      | none => if c = b ∧ a ≤ j then vs[j - a]? else none }
theorem Kr.freeze_le (K : Kr) (b a : Nat) (vs : List Value) : K.Le (K.freeze b a vs) :=
  ⟨fun _ _ e => e, fun c j v e => by simp [Kr.freeze, e], rfl, rfl⟩
theorem Stp.freeze {K : Kr} {σ : Store} {w : World} (h : StoreRel P K σ w) {o : Nat} {cs : List AV} {ty : TypeId} {imm : Bool} {L : Loc}
    (hg : σ.get o = some (.cells cs ty imm)) (hL : K.loc o = some L) :
    ∃ K', Stp P (fun _ => False) K σ w K' (σ.set o (.cells cs ty true)) w ∧ FR K' L.blk L.fst cs ∧ K'.loc = K.loc := by
  obtain ⟨c, fr, vs, hc⟩ := h.objs o _ L hg hL
  have hle := K.freeze_le L.blk L.fst vs
  have hnew : ∀ (j : Nat) v, vs[j]? = some v → (K.freeze L.blk L.fst vs).frz L.blk (L.fst + j) = some v := by
    intro j v e
    cases imm with
    | true => simp [Kr.freeze, hc.froz rfl j v e]
    | false =>
      have hno : K.frz L.blk (L.fst + j) = none := by
        cases e' : K.frz L.blk (L.fst + j) with
        | none => rfl
        | some u => exact absurd ⟨o, _, L, hg, rfl, hL, rfl⟩ (h.apart _ _ _ e')
      simp [Kr.freeze, hno, e]
  have hold : ∀ b j v, (K.freeze L.blk L.fst vs).frz b j = some v → K.frz b j = some v ∨ (b = L.blk ∧ ∃ i, j = L.fst + i ∧ vs[i]? = some v) := by
    intro b j v e
    simp only [Kr.freeze] at e
    split at e
    · rename_i u hu; exact .inl (hu.trans e)
    · split at e
      · rename_i hcond; exact .inr ⟨hcond.1, j - L.fst, by omega, e⟩
      · cases e
  have hget : ∀ p z, p ≠ o → (σ.set o (.cells cs ty true)).get p = some z → σ.get p = some z := fun p z hp e => by rwa [Store.get_set, if_neg (fun e' => hp e'.symm)] at e
  have hget' : ∀ z, (σ.set o (.cells cs ty true)).get o = some z → z = .cells cs ty true := fun z e => by rw [Store.get_set, if_pos rfl] at e; exact (Option.some.inj e).symm
  have hown : ∀ b, Own (K.freeze L.blk L.fst vs) (σ.set o (.cells cs ty true)) b → b ≠ L.blk ∧ Own K σ b := by
    rintro b ⟨p, z, M, h1, h2, h3, h4⟩
    by_cases hp : p = o
    · subst hp
      rw [hget' z h1] at h2; simp [AObj.mut] at h2
    · have h1' := hget p z hp h1
      exact ⟨fun e => hp (h.sep p o z _ M L h1' hg h3 hL (h4.trans e)), p, z, M, h1', h2, h3, h4⟩
  refine ⟨K.freeze L.blk L.fst vs, ⟨hle, ⟨?_, ?_, h.fresh, ?_, ?_, ?_, h.blk⟩, Nat.le_refl _, fun _ _ _ => rfl, Nat.le_refl _, (fun p _ _ hn => by rw [Store.get_set, if_neg (fun e => by rw [← e, hg] at hn; cases hn)]; exact hn), fun _ _ _ => rfl, fun b _ ho => (hown b ho).2, (fun b _ ⟨p, z, M, h1, h3, h4⟩ => by
    by_cases hp : p = o
    · subst hp; exact ⟨p, _, M, hg, h3, h4⟩
    · exact ⟨p, z, M, hget p z hp h1, h3, h4⟩), (fun b j v _ e => (hold b j v e).elim .inl fun ⟨e1, _⟩ => .inr ⟨o, _, L, hg, hL, e1.symm⟩), rfl, rfl, rfl⟩, ⟨vs, hc.vals.mono hle, hnew⟩, rfl⟩
  · intro p z M h1 h2
    by_cases hp : p = o
    · subst hp
      rw [hget' z h1]
      have h2' : K.loc p = some M := h2
      rw [hL] at h2'; cases h2'
      exact ⟨c, fr, vs, ⟨hc.heap, hc.fits, (fun e => hc.one e), hc.len, hc.vals.mono hle, hc.cell, (fun e => by cases e), fun _ => hnew, hc.atoms, hc.esz⟩⟩
    · exact ObjRel.keep hle rfl (h.objs p z M (hget p z hp h1) h2)
  · intro p q z u M N h1 h2 l1 l2 e
    have f : ∀ p z, (σ.set o (.cells cs ty true)).get p = some z → ∃ z', σ.get p = some z' := fun p z e' => by
      by_cases hp : p = o
      · exact ⟨_, hp ▸ hg⟩
      · exact ⟨z, hget p z hp e'⟩
    obtain ⟨z', e1⟩ := f p z h1
    obtain ⟨u', e2⟩ := f q u h2
    exact h.sep p q z' u' M N e1 e2 l1 l2 e
  · intro p z h1
    by_cases hp : p = o
    · rw [hp]; exact h.got o _ hg
    · exact h.got p z (hget p z hp h1)
  · intro b j v e
    rcases hold b j v e with e' | ⟨rfl, i, rfl, e'⟩
    · exact h.frz b j v e'
    · exact ⟨c, ty, fr, hc.heap, hc.cell i v e'⟩
  · intro b j v e ho
    obtain ⟨hne, ho'⟩ := hown b ho
    rcases hold b j v e with e' | ⟨rfl, _⟩
    · exact h.apart b j v e' ho'
    · exact hne rfl

end Go.Ev
