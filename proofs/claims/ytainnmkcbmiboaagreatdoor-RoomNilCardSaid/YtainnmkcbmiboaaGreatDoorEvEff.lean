/-
  Ev: operations that lay, write, freeze.
-/
import Derived.Test.YtainnmkcbmiboaaGreatDoorEvVal5
namespace Go.Ev
open Go
variable {P : Program} {K : Kr} {G : Info} {σ σ' : Store} {w : World}

/-- It runs through; what it yields stands for v; the state behind it. -/
def Does (P : Program) (ex : Nat → Prop) (K : Kr) (σ : Store) (w : World) (s : Sem Value) (v : AV) (σ' : Store) : Prop :=
  ∃ u w' K', s.run P w = .ok u w' ∧ VR K' v u ∧ Stp P ex K σ w K' σ' w'
theorem Does.pure (hS : StoreRel P K σ w) {ex : Nat → Prop} {s : Sem Value} {v : AV} (h : ∃ u, s.run P w = .ok u w ∧ VR K v u) : Does P ex K σ w s v σ :=
  let ⟨u, h1, h2⟩ := h; ⟨u, w, K, h1, h2, .refl hS⟩

section new
variable {o : Nat} (hS : StoreRel P K σ w) (hn : K.loc o = none) (ho : o < σ.next) (hg : σ.get o = none)
include hS hn ho hg
theorem alloc_sound (hTT : TTOk P G.tt) {e : TypeId} {i : TI} (hi : G.tt e = some i) : Does P (· = o) K σ w (Instr.alloc e true (.tuple #[])) (.ptr o 0) (σ.add o (.cells i.zero e false)) := by
  obtain ⟨inf, d, z, zv, hT⟩ := hTT _ _ hi
  have hz := hT.zeroRel (K := K)
  refine ⟨.pointer (some ⟨w.heap.size, 0, none⟩), w.alloc (.cells z.cells e), _, by simp [Instr.alloc, hT.run_zero, newVar, newRow], .ptr (Kr.put_same _ _ _),
    alloc_cells (w' := w.alloc (.cells z.cells e)) (c := z.cells) hS hz hT.hatoms hn ho hg rfl (by simp) (fun _ => by simp) (fun j v e => by simpa using e) rfl rfl rfl⟩
theorem box_sound {e : TypeId} {a : AV} {u : Value} (ha : VR K a u) (hat : allAtoms a.cells = true) : Does P (· = o) K σ w (Instr.box e u) (.ptr o 0) (σ.add o (.cells a.cells e false)) :=
  ⟨.pointer (some ⟨w.heap.size, 0, none⟩), w.alloc (.cells u.cells e), _, by simp [Instr.box, newVar, newRow], .ptr (Kr.put_same _ _ _),
    alloc_cells (w' := w.alloc (.cells u.cells e)) (c := u.cells) hS ha.cells hat hn ho hg rfl (by simp) (fun _ => by simp) (fun j v e => by simpa using e) rfl rfl rfl⟩
/-- A new row, of whatever length; its first elements are known. -/
theorem newRow_slice {cs : List AV} {us : List Value} {e : TypeId} {c : Array Value} {len cap k : Nat} {lim : Option Nat} {w' : World} (hr : VRL K cs us) (hat : allAtoms cs = true)
    (hw : w'.heap = w.heap.push (.cells c e)) (hos : w'.os = w.os) (hta : w'.tape = w.tape) (hou : w'.output = w.output) (hc : us.length ≤ c.size) (hone : K.one e → us.length = c.size) (hcell : ∀ (j : Nat) v, us[j]? = some v → c[j]? = some v)
    (hk : P.cellsOf e = k) (hsz : c.size = cap * k) (hl : len ≤ cap) (hlim : ∀ m, lim = some m → cap = m) :
    ∃ K', VR K' (.sl o 0 len lim) (.slice (some ⟨w.heap.size, 0, none⟩) len cap) ∧ Stp P (· = o) K σ w K' (σ.add o (.cells cs e false)) w' :=
  ⟨_, .sl (L := ⟨w.heap.size, 0, c.size, P.cellsOf e⟩) (Kr.put_same _ _ _) hl hlim (fun _ => by simp [hk, hsz]), alloc_cells hS hr hat hn ho hg hw hc hone hcell hos hta hou⟩
theorem makeSlice_sound (hTT : TTOk P G.tt) {t e : TypeId} {i j : TI} (hi : G.tt t = some i) (hd : i.d = .slice e) (hj : G.tt e = some j) {a b : AV} {ua ub : Value} {l c : Nat} (ha : VR K a ua) (hb : VR K b ub)
    (hl : natOf a = some l) (hc : natOf b = some c) (hlc : l ≤ c) (hby : c * j.bytes ≤ 140737488355328) (h63 : c ≤ 9223372036854775807) :
    Does P (· = o) K σ w (Instr.makeSlice t ua ub) (.sl o 0 l (some c)) (σ.add o (.cells (repl c j.zero) e false)) := by
  obtain ⟨inf, d, z, zv, hT⟩ := hTT _ _ hi
  have hd' := hT.hd
  rw [hd] at hd'
  cases td_slice hd'
  obtain ⟨inf', d', z', zv', hT'⟩ := hTT _ _ hj
  obtain ⟨ka, rfl⟩ := ha.nat_inv hl
  obtain ⟨kb, rfl⟩ := hb.nat_inv hc
  have hb' : ((c * j.bytes : Nat) : Int) ≤ 140737488355328 := by omega
  have hrun := run_make (P := P) w t e inf' z' hT.hund hT'.hinfo hT'.hzero ka kb (l : Int) (c : Int) (by omega) (by omega) (by rw [hT'.hbytes]; rw [Int.natCast_mul, Int.mul_comm] at hb'; omega) (by omega)
  simp only [Int.toNat_natCast, hT'.hsize] at hrun
  have hm := made_rel (K := K) hT'.zeroRel hT'.hlen c
  obtain ⟨K', h1, h2⟩ := newRow_slice (k := j.size) (cap := c) (len := l) (lim := some c) (w' := w.alloc (.cells (madeCells z'.cells (c * j.size)) e)) hS hn ho hg hm (repl_atoms hT'.hatoms c) rfl rfl rfl rfl (by simp) (fun _ => by simp)
    (fun j v e => by simpa using e) hT'.cellsOf (by simp [size_madeCells]) hlc (fun m e => Option.some.inj e)
  exact ⟨_, _, K', hrun, h1, h2⟩
theorem buildSlice_sound (hTT : TTOk P G.tt) {t e : TypeId} {i j : TI} (hi : G.tt t = some i) (hd : i.d = .slice e) (hj : G.tt e = some j) {len : Nat} {parts : List (Nat × AV)} {uparts : Array (Nat × Value)} {cs : List AV}
    (hp : PartsRel K parts uparts.toList) (hle : len * j.size ≤ 16777216) (h0 : 0 < j.size) (hf : fillL (fun q => some (q * j.size, j.size)) (repl len j.zero) parts = some cs) :
    Does P (· = o) K σ w (Instr.buildSlice t len uparts) (.sl o 0 len (some len)) (σ.add o (.cells cs e false)) := by
  obtain ⟨inf, d, z, zv, hT⟩ := hTT _ _ hi
  have hd' := hT.hd
  rw [hd] at hd'
  cases td_slice hd'
  obtain ⟨inf', d', z', zv', hT'⟩ := hTT _ _ hj
  have hm := made_rel (K := K) hT'.zeroRel hT'.hlen len
  obtain ⟨us, h1, h2, h3, h4⟩ := fill_sound (K := K) (place' := fun q => some (q * inf'.size, inf'.size)) (fun q x hx => by rw [hT'.hsize]; exact hx) hp hm hf (repl_atoms hT'.hatoms len)
  have hsize : us.size = len * j.size := by
    have := h2.1
    rw [h4, repl_length hT'.hlen] at this
    simp at this
    exact this.symm
  have hrun : (Instr.buildSlice t len uparts).run P w = .ok (.slice (some ⟨w.heap.size, 0, none⟩) len len) (w.alloc (.cells us e)) := by
    by_cases hz : len = 0
    · subst hz
      have : madeCells z'.cells (0 * j.size) = #[] := by simp [madeCells, Array.range_zero']
      rw [this] at h1
      simp [Instr.buildSlice, run_underlying hT.hund, hT'.run_size, Array.range_zero', newRow]
      rw [hT'.hsize] at h1
      simp [h1]
    · have hpos : ¬ len * inf'.size = 0 := by
        rw [hT'.hsize]
        exact Nat.ne_of_gt (Nat.mul_pos (by omega) h0)
      exact run_buildSlice w t e len uparts us inf' z' hT.hund hT'.hinfo hT'.hzero (by rw [hT'.hsize]; omega) hpos (by rw [hT'.hsize] at h1 ⊢; exact h1)
  obtain ⟨K', g1, g2⟩ := newRow_slice (k := j.size) (cap := len) (len := len) (lim := some len) (w' := w.alloc (.cells us e)) hS hn ho hg h2 h3 rfl rfl rfl rfl (by simp) (fun _ => by simp)
    (fun j v e => by simpa using e) hT'.cellsOf hsize (Nat.le_refl _) (fun m e => Option.some.inj e)
  exact ⟨_, _, K', hrun, g1, g2⟩
theorem makeMap_sound {t : TypeId} : Does P (· = o) K σ w (Instr.makeMap t none) (.map o) (σ.add o (.map [] 0)) :=
  ⟨.map (some w.heap.size), w.alloc (.map #[] 0), K.put o ⟨w.heap.size, 0, 0, 0⟩, by simp [Instr.makeMap], .map (L := ⟨w.heap.size, 0, 0, 0⟩) (Kr.put_same _ _ _),
    .new (ob := .map #[] 0) hS hn ho hg rfl rfl rfl rfl rfl ⟨[], heap_push_new w _ _ rfl, rfl, fun j e m h => by simp at h⟩⟩
end new
end Go.Ev
