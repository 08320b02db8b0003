/-
  Ev: what abstract values and stores stand for in the model's memory.
-/
import Derived.Test.YtainnmkcbmiboaaGreatDoorEvDefs
import Derived.RangeFuncLeaves
import Derived.RangeFuncIn
import Derived.OrdersIn
import Derived.Deep.AppendSrc
import Derived.Laws.CopyRow
import Derived.RowKit3
namespace Go.Ev
open Go

structure Loc where
  blk : Nat
  fst : Nat
  cap : Nat
  esz : Nat

/-- Where the store's objects lie; which cells never change any more, and what they hold. -/
structure Kr where
  loc : Nat → Option Loc
  frz : Nat → Nat → Option Value
  ok : FuncId → Nat → Code → Prop
  one : TypeId → Prop

inductive VR (K : Kr) : AV → Value → Prop
  | bool (b : Bool) : VR K (.bool b) (.bool b)
  | int (k : IntKind) (n : Int) : VR K (.int k n) (.int k n)
  | str (s : ByteArray) : VR K (.str s.data.toList) (.string s)
  | nilp : VR K .nilp (.pointer none)
  | ptr {o off : Nat} {L : Loc} (h : K.loc o = some L) : VR K (.ptr o off) (.pointer (some ⟨L.blk, L.fst + off, none⟩))
  | cptr {cs : List AV} (off b a : Nat) (vs : List Value) (hl : cs.length = vs.length)
      (hf : ∀ (j : Nat) (v : Value), vs[j]? = some v → K.frz b (a + j) = some v)
      (hv : ∀ (j : Nat) (c : AV) (v : Value), cs[j]? = some c → vs[j]? = some v → VR K c v) :
      VR K (.cptr cs off) (.pointer (some ⟨b, a + off, none⟩))
  | nils : VR K .nils (.slice none 0 0)
  | sl {o off len : Nat} {lim : Option Nat} {L : Loc} {cap : Nat} (h : K.loc o = some L) (hl : len ≤ cap)
      (hlim : ∀ m, lim = some m → cap = m) (hno : lim = none → off + cap * L.esz = L.cap) :
      VR K (.sl o off len lim) (.slice (some ⟨L.blk, L.fst + off, none⟩) len cap)
  | sl0 {o off : Nat} {lim : Option Nat} (ad : Addr) (hlim : ∀ m, lim = some m → m = 0) (hno : lim = none → ∃ L, K.loc o = some L ∧ L.cap ≤ off) : VR K (.sl o off 0 lim) (.slice (some ad) 0 0)
  | tr {es : List (List AV)} (b a esz cap : Nat) (vs : List Value) (hcap : es.length ≤ cap) (he : ∀ e ∈ es, e.length = esz) (hl : (flat es).length = vs.length)
      (hf : ∀ (j : Nat) (v : Value), vs[j]? = some v → K.frz b (a + j) = some v)
      (hv : ∀ (j : Nat) (c : AV) (v : Value), (flat es)[j]? = some c → vs[j]? = some v → VR K c v) :
      VR K (.tr es) (.slice (some ⟨b, a, none⟩) es.length cap)
  | tr0 (ad : Addr) (cap : Nat) : VR K (.tr []) (.slice (some ad) 0 cap)
  | nilm : VR K .nilm (.map none)
  | map {o : Nat} {L : Loc} (h : K.loc o = some L) : VR K (.map o) (.map (some L.blk))
  | nilf : VR K .nilf .nilFunc
  | fn {f : FuncId} {xs ys : List AV} {us vs : List Value} (hx : xs.length = us.length) (hy : ys.length = vs.length)
      (h1 : ∀ (j : Nat) (c : AV) (v : Value), xs[j]? = some c → us[j]? = some v → VR K c v)
      (h2 : ∀ (j : Nat) (c : AV) (v : Value), ys[j]? = some c → vs[j]? = some v → VR K c v) :
      VR K (.fn f xs ys) (.func (.func f) ⟨us⟩ ⟨vs⟩)
  | yld {l : Nat} {L : Loc} (h : K.loc l = some L) : VR K (.yld l) (.func (.yield L.blk) #[] #[])
  | nili : VR K .nili .nilIface
  | iface {t : TypeId} {v : AV} {u : Value} (h : VR K v u) : VR K (.iface t v) (.iface t u)
  | agg {cs : List AV} {vs : List Value} (hl : cs.length = vs.length)
      (h : ∀ (j : Nat) (c : AV) (v : Value), cs[j]? = some c → vs[j]? = some v → VR K c v) : VR K (.agg cs) (.agg ⟨vs⟩)
  | tup {cs : List AV} {vs : List Value} (hl : cs.length = vs.length)
      (h : ∀ (j : Nat) (c : AV) (v : Value), cs[j]? = some c → vs[j]? = some v → VR K c v) : VR K (.tup cs) (.tuple ⟨vs⟩)

structure Kr.Le (K K' : Kr) : Prop where
  loc : ∀ o L, K.loc o = some L → K'.loc o = some L
  frz : ∀ b j v, K.frz b j = some v → K'.frz b j = some v
  ok : K'.ok = K.ok
  one : K'.one = K.one
theorem Kr.Le.refl (K : Kr) : K.Le K := ⟨fun _ _ h => h, fun _ _ _ h => h, rfl, rfl⟩
theorem Kr.Le.trans {A B C : Kr} (h : A.Le B) (k : B.Le C) : A.Le C := ⟨fun o L e => k.loc o L (h.loc o L e), fun b j v e => k.frz b j v (h.frz b j v e), k.ok.trans h.ok, k.one.trans h.one⟩

theorem VR.mono {K K' : Kr} (hk : K.Le K') {v : AV} {u : Value} (h : VR K v u) : VR K' v u := by
  induction h with
  | bool b => exact .bool b
  | int k n => exact .int k n
  | str s => exact .str s
  | nilp => exact .nilp
  | ptr h => exact .ptr (hk.loc _ _ h)
  | cptr off b a vs hl hf _ ih => exact .cptr off b a vs hl (fun j v e => hk.frz _ _ _ (hf j v e)) ih
  | nils => exact .nils
  | sl h hl h1 h2 => exact .sl (hk.loc _ _ h) hl h1 h2
  | sl0 ad h h' => exact .sl0 ad h fun e => let ⟨L, a, b⟩ := h' e; ⟨L, hk.loc _ _ a, b⟩
  | tr b a esz cap vs hcap he hl hf _ ih => exact .tr b a esz cap vs hcap he hl (fun j v e => hk.frz _ _ _ (hf j v e)) ih
  | tr0 ad cap => exact .tr0 ad cap
  | nilm => exact .nilm
  | map h => exact .map (hk.loc _ _ h)
  | nilf => exact .nilf
  | fn hx hy _ _ i1 i2 => exact .fn hx hy i1 i2
  | yld h => exact .yld (hk.loc _ _ h)
  | nili => exact .nili
  | iface _ ih => exact .iface ih
  | agg hl _ ih => exact .agg hl ih
  | tup hl _ ih => exact .tup hl ih

/-- lists of values, one by one -/
def VRL (K : Kr) (cs : List AV) (vs : List Value) : Prop :=
  cs.length = vs.length ∧ ∀ (j : Nat) (c : AV) (v : Value), cs[j]? = some c → vs[j]? = some v → VR K c v
section lists
variable {K K' : Kr}
theorem VRL.mono (hk : K.Le K') {cs : List AV} {vs : List Value} (h : VRL K cs vs) : VRL K' cs vs := ⟨h.1, fun j c v a b => (h.2 j c v a b).mono hk⟩
theorem VRL.nil : VRL K [] [] := ⟨rfl, fun j c v h => by simp at h⟩
theorem VRL.cons {c : AV} {v : Value} {cs : List AV} {vs : List Value} (h : VR K c v) (hs : VRL K cs vs) : VRL K (c :: cs) (v :: vs) :=
  ⟨by simp [hs.1], fun j c' v' h1 h2 => by
    cases j with
    | zero => simp at h1 h2; subst h1; subst h2; exact h
    | succ j => simp at h1 h2; exact hs.2 j c' v' h1 h2⟩
theorem VRL.head {c : AV} {v : Value} {cs : List AV} {vs : List Value} (h : VRL K (c :: cs) (v :: vs)) : VR K c v := h.2 0 c v rfl rfl
theorem VRL.tail {c : AV} {v : Value} {cs : List AV} {vs : List Value} (h : VRL K (c :: cs) (v :: vs)) : VRL K cs vs :=
  ⟨by have := h.1; simpa using this, fun j c' v' h1 h2 => h.2 (j + 1) c' v' (by simpa using h1) (by simpa using h2)⟩
theorem VRL.inv_nil {vs : List Value} (h : VRL K [] vs) : vs = [] := List.eq_nil_of_length_eq_zero h.1.symm
theorem VRL.inv_cons {c : AV} {cs : List AV} {vs : List Value} (h : VRL K (c :: cs) vs) : ∃ v r, vs = v :: r ∧ VR K c v ∧ VRL K cs r := by
  cases vs with
  | nil => exact absurd h.1 (by simp)
  | cons v r => exact ⟨v, r, rfl, h.head, h.tail⟩
theorem VRL.append {a b : List AV} {x y : List Value} (h : VRL K a x) (k : VRL K b y) : VRL K (a ++ b) (x ++ y) := by
  induction a generalizing x with
  | nil => rw [h.inv_nil]; exact k
  | cons c r ih => obtain ⟨v, s, rfl, hv, hr⟩ := h.inv_cons; exact .cons hv (ih hr)
theorem VRL.drop {a : List AV} {x : List Value} (h : VRL K a x) (n : Nat) : VRL K (a.drop n) (x.drop n) :=
  ⟨by simp [h.1], fun j c v h1 h2 => h.2 (n + j) c v (by simpa using h1) (by simpa using h2)⟩
theorem VRL.take {a : List AV} {x : List Value} (h : VRL K a x) (n : Nat) : VRL K (a.take n) (x.take n) := by
  refine ⟨by simp [h.1], fun j c v h1 h2 => ?_⟩
  rw [List.getElem?_take] at h1 h2
  split at h1
  · rename_i hj; rw [if_pos hj] at h2; exact h.2 j c v h1 h2
  · cases h1
theorem VRL.get {a : List AV} {x : List Value} (h : VRL K a x) {j : Nat} {c : AV} (e : a[j]? = some c) : ∃ v, x[j]? = some v ∧ VR K c v := by
  have hj : j < a.length := (List.getElem?_eq_some_iff.1 e).1
  have hx : j < x.length := h.1 ▸ hj
  exact ⟨x[j], List.getElem?_eq_getElem hx, h.2 j c _ e (List.getElem?_eq_getElem hx)⟩
theorem VRL.exists_of {cs : List AV} (h : ∀ c ∈ cs, ∃ v, VR K c v) : ∃ vs, VRL K cs vs := by
  induction cs with
  | nil => exact ⟨[], .nil⟩
  | cons c r ih =>
    obtain ⟨v, hv⟩ := h c (by simp)
    obtain ⟨vs, hs⟩ := ih fun c hc => h c (by simp [hc])
    exact ⟨v :: vs, .cons hv hs⟩
end lists

theorem VR.agg' {K : Kr} {cs : List AV} {vs : List Value} (h : VRL K cs vs) : VR K (.agg cs) (.agg ⟨vs⟩) := .agg h.1 h.2
theorem VR.tup' {K : Kr} {cs : List AV} {vs : List Value} (h : VRL K cs vs) : VR K (.tup cs) (.tuple ⟨vs⟩) := .tup h.1 h.2

/-- What frozen cells hold. -/
def FR (K : Kr) (b a : Nat) (cs : List AV) : Prop :=
  ∃ vs, VRL K cs vs ∧ ∀ (j : Nat) (v : Value), vs[j]? = some v → K.frz b (a + j) = some v

/-! ### Objects -/
def EnvRel (K : Kr) (env : Env) (tmps : Array Value) : Prop := ∀ t v, look env t = some v → ∃ u, tmps[t]? = some u ∧ VR K v u

def ERel (K : Kr) (e : Nat × AV × AV) (m : MapEntry) : Prop := m.born = e.1 ∧ VR K e.2.1 m.key ∧ VR K e.2.2 m.val
def EsRel (K : Kr) (es : List (Nat × AV × AV)) (ms : List MapEntry) : Prop :=
  es.length = ms.length ∧ ∀ (j : Nat) e m, es[j]? = some e → ms[j]? = some m → ERel K e m

/-- May the object be written? -/
def AObj.mut : AObj → Bool
  | .cells _ _ imm => !imm
  | _ => true

structure CellsRel (P : Program) (K : Kr) (w : World) (L : Loc) (cs : List AV) (ty : TypeId) (imm : Bool) (c : Array Value) (fr : Nat × Nat) (vs : List Value) : Prop where
  heap : w.heap[L.blk]? = some (.cells c ty fr)
  fits : c.size = L.fst + L.cap
  one : K.one ty → L.fst = 0 ∧ L.cap = cs.length
  len : cs.length ≤ L.cap
  vals : VRL K cs vs
  cell : ∀ (j : Nat) v, vs[j]? = some v → c[L.fst + j]? = some v
  free : imm = false → fr = (0, 0)
  froz : imm = true → ∀ (j : Nat) v, vs[j]? = some v → K.frz L.blk (L.fst + j) = some v
  atoms : allAtoms cs = true
  esz : P.cellsOf ty = L.esz

def ObjRel (P : Program) (K : Kr) (w : World) (L : Loc) : AObj → Prop
  | .cells cs ty imm => ∃ (c : Array Value) (fr : Nat × Nat) (vs : List Value), CellsRel P K w L cs ty imm c fr vs
  | .map es clock => ∃ ms : List MapEntry, w.heap[L.blk]? = some (.map ⟨ms⟩ clock) ∧ EsRel K es ms
  | .iter s pos => L.fst = 0 ∧ ∃ b : ByteArray, w.heap[L.blk]? = some (.stringIter b pos) ∧ b.data.toList = s
  | .miter m since seen stepped => L.fst = 0 ∧ ∃ r : Option Nat, w.heap[L.blk]? = some (.mapIter r since ⟨seen⟩ stepped) ∧
      match m, r with
      | none, none => True
      | some o, some r => ∃ L', K.loc o = some L' ∧ L'.blk = r
      | _, _ => False
  | .loop st pending fid env params assign body d nt => K.ok fid nt assign ∧ K.ok fid nt body ∧ (∀ p ∈ params, p < nt) ∧ ∃ (fn : FuncId) (tmps : Array Value) (D : Loc), w.heap[L.blk]? = some (.loop { state := st, pending := pending, fn := fn, tmps := tmps, params := ⟨params⟩, assign := assign, body := body, defers := D.blk }) ∧
      EnvRel K env tmps ∧ K.loc d = some D ∧ tmps.size = nt
  | .defs taken => w.heap[L.blk]? = some (.deferred (if taken then none else some []))

/-- Blocks that the store's objects own: nothing else may be written. -/
def Own (K : Kr) (σ : Store) (b : Nat) : Prop := ∃ o x L, σ.get o = some x ∧ x.mut = true ∧ K.loc o = some L ∧ L.blk = b

/-- Blocks that the store's objects lie in. -/
def Has (K : Kr) (σ : Store) (b : Nat) : Prop := ∃ o x L, σ.get o = some x ∧ K.loc o = some L ∧ L.blk = b

structure StoreRel (P : Program) (K : Kr) (σ : Store) (w : World) : Prop where
  objs : ∀ o x L, σ.get o = some x → K.loc o = some L → ObjRel P K w L x
  sep : ∀ o o' x x' L L', σ.get o = some x → σ.get o' = some x' → K.loc o = some L → K.loc o' = some L' → L.blk = L'.blk → o = o'
  fresh : ∀ o, σ.next ≤ o → K.loc o = none
  got : ∀ o x, σ.get o = some x → o < σ.next
  frz : ∀ b j v, K.frz b j = some v → ∃ c t fr, w.heap[b]? = some (.cells c t fr) ∧ c[j]? = some v
  apart : ∀ b j v, K.frz b j = some v → ¬ Own K σ b
  blk : ∀ o L, K.loc o = some L → L.blk < w.heap.size

/-- From one state to a later one. `ex`: a number that was kept and may have got its place. -/
structure Stp (P : Program) (ex : Nat → Prop) (K : Kr) (σ : Store) (w : World) (K' : Kr) (σ' : Store) (w' : World) : Prop where
  le : K.Le K'
  rel : StoreRel P K' σ' w'
  next : σ.next ≤ σ'.next
  old : ∀ o, o < σ.next → ¬ ex o → K'.loc o = K.loc o
  size : w.heap.size ≤ w'.heap.size
  gain : ∀ o, o < σ.next → ¬ ex o → σ.get o = none → σ'.get o = none
  same : ∀ b, b < w.heap.size → ¬ Own K σ b → w'.heap[b]? = w.heap[b]?
  own : ∀ b, b < w.heap.size → Own K' σ' b → Own K σ b
  has : ∀ b, b < w.heap.size → Has K' σ' b → Has K σ b
  froz : ∀ b j v, b < w.heap.size → K'.frz b j = some v → K.frz b j = some v ∨ Has K σ b
  os : w'.os = w.os
  tape : w'.tape = w.tape
  output : w'.output = w.output

theorem Stp.refl {P : Program} {ex : Nat → Prop} {K : Kr} {σ : Store} {w : World} (h : StoreRel P K σ w) : Stp P ex K σ w K σ w :=
  ⟨.refl K, h, Nat.le_refl _, fun _ _ _ => rfl, Nat.le_refl _, fun _ _ _ h => h, fun _ _ _ => rfl, fun _ _ h => h, fun _ _ h => h, fun _ _ _ _ h => .inl h, rfl, rfl, rfl⟩

theorem Stp.trans {P : Program} {ex ex' : Nat → Prop} {A B C : Kr} {a b c : Store} {u v w : World} (h : Stp P ex A a u B b v) (k : Stp P ex' B b v C c w) :
    Stp P (fun o => ex o ∨ ex' o) A a u C c w where
  le := h.le.trans k.le
  rel := k.rel
  next := Nat.le_trans h.next k.next
  old := fun o ho he => by rw [k.old o (Nat.lt_of_lt_of_le ho h.next) (fun e => he (.inr e)), h.old o ho (fun e => he (.inl e))]
  size := Nat.le_trans h.size k.size
  gain := fun o ho he hg => k.gain o (Nat.lt_of_lt_of_le ho h.next) (fun e => he (.inr e)) (h.gain o ho (fun e => he (.inl e)) hg)
  same := fun x hx hn => by
    rw [k.same x (Nat.lt_of_lt_of_le hx h.size) (fun ho => hn (h.own x hx ho)), h.same x hx hn]
  own := fun x hx ho => h.own x hx (k.own x (Nat.lt_of_lt_of_le hx h.size) ho)
  has := fun x hx ho => h.has x hx (k.has x (Nat.lt_of_lt_of_le hx h.size) ho)
  froz := fun x j v hx e => (k.froz x j v (Nat.lt_of_lt_of_le hx h.size) e).elim (h.froz x j v hx) fun ho => .inr (h.has x hx ho)
  os := k.os.trans h.os
  tape := k.tape.trans h.tape
  output := k.output.trans h.output

theorem Stp.weaken {P : Program} {ex ex' : Nat → Prop} {K K' : Kr} {σ σ' : Store} {w w' : World} (h : Stp P ex K σ w K' σ' w') (he : ∀ o, o < σ.next → ex o → ex' o) : Stp P ex' K σ w K' σ' w' :=
  { h with old := fun o ho hn => h.old o ho fun e => hn (he o ho e), gain := fun o ho hn hg => h.gain o ho (fun e => hn (he o ho e)) hg }

end Go.Ev
