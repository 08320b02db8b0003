/-
  Ev: what the evaluator is told of a program is so; constants, operands, memory read and written.
-/
import Derived.Test.YtainnmkcbmiboaaGreatDoorEvMem
namespace Go.Ev
open Go

/-! ### Types -/
def tdOfDesc : TypeDesc → TD
  | .bool => .bool
  | .int k => .int k
  | .string => .str
  | .pointer e => .ptr e
  | .slice e => .slice e
  | .array n e => .arr n e
  | .struct fs => .struct (fs.toList.map fun f => (f.offset, f.type))
  | .map k e => .map k e
  | .interface _ => .iface
  | .func .. => .fn
  | .unsafePointer => .uptr
  | _ => .other

structure TyOk (P : Program) (t : TypeId) (i : TI) (inf : TypeInfo) (d : TypeDesc) (z : Value) (zv : AV) : Prop where
  hinfo : P.info? t = some inf
  hund : P.underlying t = some d
  hd : tdOfDesc d = i.d
  hsize : inf.size = i.size
  hbytes : inf.bytes = i.bytes
  hzero : inf.zero = some z
  hzv : ofVal z = some zv
  hcells : zv.cells = i.zero
  hval : i.val i.zero = some zv
  hlen : i.zero.length = i.size
  hatoms : allAtoms i.zero = true
def TTOk (P : Program) (tt : TypeId → Option TI) : Prop := ∀ t i, tt t = some i → ∃ inf d z zv, TyOk P t i inf d z zv

/-! ### Constants -/
variable {K : Kr}
theorem ofAtom_sound {v : Value} {a : AV} (h : ofAtom v = some a) : VR K a v := by
  unfold ofAtom at h
  split at h <;> first | (cases h; constructor) | cases h
theorem ofAtoms_sound : ∀ {vs : List Value} {l : List AV}, ofAtoms vs = some l → VRL K l vs
  | [], l, h => by simp [ofAtoms] at h; subst h; exact .nil
  | v :: r, l, h => by
    simp only [ofAtoms] at h
    split at h
    · rename_i a l' h1 h2
      cases h
      exact .cons (ofAtom_sound h1) (ofAtoms_sound h2)
    · cases h
theorem ofVal_sound {v : Value} {a : AV} (h : ofVal v = some a) : VR K a v := by
  unfold ofVal at h
  split at h
  · rename_i cs
    cases e : ofAtoms cs.toList with
    | none => simp [e] at h
    | some l =>
      simp [e] at h; subst h
      exact VR.agg' (vs := cs.toList) (ofAtoms_sound e)
  · rename_i vs
    split at h
    · cases h
      rename_i h0
      have : vs = ⟨[]⟩ := by
        apply Array.ext' ; simpa using Array.eq_empty_of_size_eq_zero h0
      rw [this]
      exact VR.tup' .nil
    · cases h
  · exact ofAtom_sound h
theorem ofAtom_atom {v : Value} {a : AV} (h : ofAtom v = some a) : a.isAtom = true := by
  unfold ofAtom at h
  split at h <;> first | (cases h; rfl) | cases h

theorem VR.oneCell {a : AV} {v : Value} (h : VR K a v) (ha : a.isAtom = true) : v.oneCell' = true := by
  cases h <;> first | rfl | simp [AV.isAtom] at ha
theorem allAtoms_mem : ∀ {l : List AV}, allAtoms l = true → ∀ a ∈ l, a.isAtom = true
  | [], _, a, h => by cases h
  | b :: r, h, a, ha => by
    simp only [allAtoms, Bool.and_eq_true] at h
    rcases List.mem_cons.1 ha with rfl | ha
    · exact h.1
    · exact allAtoms_mem h.2 a ha
theorem VRL.oneCells {l : List AV} {vs : List Value} (h : VRL K l vs) (ha : allAtoms l = true) : ∀ v ∈ vs, v.oneCell' = true := by
  intro v hv
  obtain ⟨j, hj, rfl⟩ := List.mem_iff_getElem.1 hv
  have hj' : j < l.length := h.1 ▸ hj
  exact (h.2 j l[j] vs[j] (List.getElem?_eq_getElem hj') (List.getElem?_eq_getElem hj)).oneCell (allAtoms_mem ha _ (List.getElem_mem hj'))

/-- a value's cells -/
theorem VR.cells {a : AV} {v : Value} (h : VR K a v) : VRL K a.cells v.cells.toList := by
  have h' := h
  cases h with
  | agg hl hv => exact ⟨hl, hv⟩
  | _ => exact .cons h' .nil

/-! ### Operands -/
/-- What the program's variables hold, as far as is told. -/
structure GlobRel (G : Info) (K : Kr) : Prop where
  vars : ∀ g cs, G.glob g = some cs → FR K g 0 cs
  ok : K.ok = fun f n c => codeOk G f n c = true
  one : K.one = fun t => G.one t = true
theorem GlobRel.mono {G : Info} {K K' : Kr} (hk : K.Le K') (h : GlobRel G K) : GlobRel G K' := ⟨fun g cs e =>
  let ⟨vs, h1, h2⟩ := h.vars g cs e; ⟨vs, h1.mono hk, fun j v e => hk.frz _ _ _ (h2 j v e)⟩, hk.ok.trans h.ok, hk.one.trans h.one⟩

/-- An operation's operands are what the evaluator takes them for. -/
def OpsRel (G : Info) (K : Kr) (env : Env) (a : Act) (o : Oper) : Prop := ∀ x ∈ o.op.operands, ∀ v, opd G env x = some v → VR K v (a.eval x)
theorem opd_sound {G : Info} {K : Kr} {env : Env} {a : Act} (hg : GlobRel G K) (he : EnvRel K env a.tmps) {x : Operand} {v : AV} (h : opd G env x = some v) : VR K v (a.eval x) := by
  cases x with
  | tmp t =>
    obtain ⟨u, hu, hv⟩ := he t v h
    simpa [Act.eval, hu] using hv
  | const c => exact ofVal_sound h
  | global g =>
    simp only [opd, Option.map_eq_some_iff] at h
    obtain ⟨cs, h1, rfl⟩ := h
    obtain ⟨vs, h2, h3⟩ := hg.vars g cs h1
    simpa [Act.eval] using VR.cptr (K := K) 0 g 0 vs h2.1 h3 h2.2
  | func f =>
    simp only [opd] at h; cases h
    simpa [Act.eval] using VR.fn (K := K) (f := f) (us := []) (vs := []) rfl rfl (fun j c v h => by simp at h) (fun j c v h => by simp at h)
theorem opds_sound {G : Info} {K : Kr} {env : Env} {a : Act} : ∀ {xs : List Operand} {l : List AV}, (∀ x ∈ xs, ∀ v, opd G env x = some v → VR K v (a.eval x)) → opds G env xs = some l → VRL K l (xs.map a.eval)
  | [], l, _, h => by simp [opds] at h; subst h; exact .nil
  | x :: r, l, hx, h => by
    simp only [opds] at h
    split at h
    · rename_i v l' h1 h2
      cases h
      exact .cons (hx x (by simp) v h1) (opds_sound (fun y hy => hx y (by simp [hy])) h2)
    · cases h

/-! ### Lists of cells -/
theorem takeN_spec : ∀ {n : Nat} {l r : List AV}, takeN n l = some r → n ≤ l.length ∧ r = l.take n
  | 0, l, r, h => by simp [takeN] at h; subst h; simp
  | n + 1, [], r, h => by simp [takeN] at h
  | n + 1, v :: l, r, h => by
    simp only [takeN, Option.map_eq_some_iff] at h
    obtain ⟨s, hs, rfl⟩ := h
    obtain ⟨h1, rfl⟩ := takeN_spec hs
    exact ⟨by simp; omega, by simp⟩
theorem part_spec {cs l : List AV} {off n : Nat} (h : part cs off n = some l) : l = (cs.drop off).take n ∧ l.length = n ∧ (0 < n → off + n ≤ cs.length) := by
  obtain ⟨h1, rfl⟩ := takeN_spec h
  simp at h1
  exact ⟨rfl, by simp; omega, by omega⟩

theorem TI.val_spec {i : TI} {cs : List AV} {v : AV} (h : i.val cs = some v) : (i.isAgg = true ∧ v = .agg cs) ∨ (i.isAgg = false ∧ cs = [v]) := by
  unfold TI.val at h
  split at h
  · rename_i h1; exact .inl ⟨h1, (Option.some.inj h).symm⟩
  · rename_i h1
    split at h
    · cases h; exact .inr ⟨by simpa using h1, rfl⟩
    · cases h

section types
variable {P : Program} {t : TypeId} {i : TI} {inf : TypeInfo} {d : TypeDesc} {z : Value} {zv : AV} (w : World)
theorem TyOk.run_und (h : TyOk P t i inf d z zv) : (underlying t).run P w = .ok d w := run_underlying h.hund w
theorem TyOk.run_info (h : TyOk P t i inf d z zv) : (typeInfo t).run P w = .ok inf w := by simp [typeInfo, h.hinfo]
theorem TyOk.run_size (h : TyOk P t i inf d z zv) : (sizeOf t).run P w = .ok i.size w := by simp [sizeOf, h.run_info, h.hsize]
theorem TyOk.run_zero (h : TyOk P t i inf d z zv) : (zeroValue t).run P w = .ok z w := by simp [zeroValue, h.run_info, h.hzero]
theorem TyOk.isAgg_eq (h : TyOk P t i inf d z zv) : i.isAgg = match d with | .struct _ | .array _ _ => true | _ => false := by
  have := h.hd
  unfold TI.isAgg
  rw [← this]
  cases d <;> rfl
theorem TyOk.run_isAgg (h : TyOk P t i inf d z zv) : (isAgg t).run P w = .ok i.isAgg w := by
  rw [h.isAgg_eq]
  simp only [isAgg, Sem.run_bind, h.run_und, Result.andThen_ok]
  cases d <;> rfl
theorem TyOk.cellsOf (h : TyOk P t i inf d z zv) : P.cellsOf t = i.size := by simp [Program.cellsOf, h.hinfo, h.hsize]
theorem TyOk.zeroRel (h : TyOk P t i inf d z zv) {K : Kr} : VRL K i.zero z.cells.toList := by
  rw [← h.hcells]
  exact (ofVal_sound h.hzv).cells

/-- a value read from cells that are known -/
theorem run_loadVar_cells (h : TyOk P t i inf d z zv) {K : Kr} (b off : Nat) {cs : List AV} {vs : List Value} {v : AV}
    (hv : i.val cs = some v) (hl : cs.length = i.size) (hr : VRL K cs vs) (hc : ∀ (j : Nat) u, vs[j]? = some u → w.cell? ⟨b, off + j, none⟩ = some u) :
    ∃ u, (loadVar t ⟨b, off, none⟩).run P w = .ok u w ∧ VR K v u := by
  rcases TI.val_spec hv with ⟨ha, rfl⟩ | ⟨ha, rfl⟩
  · refine ⟨.agg ⟨vs⟩, ?_, VR.agg' hr⟩
    have := run_loadCells_list (P := P) w ⟨b, off, none⟩ vs (fun j u e => by rw [Addr.add_lit]; exact hc j u e)
    rw [← hr.1, hl] at this
    simp [loadVar, h.run_isAgg, ha, h.run_size, this]
  · obtain ⟨u, r, rfl, hu, hr'⟩ := hr.inv_cons
    refine ⟨u, ?_, hu⟩
    have := hc 0 u rfl
    simp [loadVar, h.run_isAgg, ha, run_load] at this ⊢
    simp [this]
end types

/-! ### Read -/
section memory
variable {P : Program} {t : TypeId} {i : TI} {inf : TypeInfo} {d : TypeDesc} {z : Value} {zv : AV} {σ : Store} {w : World}
theorem cell_heap {c : Array Value} {ty : TypeId} {fr : Nat × Nat} {b j : Nat} (h : w.heap[b]? = some (.cells c ty fr)) : w.cell? ⟨b, j, none⟩ = c[j]? := by
  simp [World.cell?, h]
theorem frz_cell (hS : StoreRel P K σ w) {b j : Nat} {v : Value} (h : K.frz b j = some v) : w.cell? ⟨b, j, none⟩ = some v := by
  obtain ⟨c, ty, fr, h1, h2⟩ := hS.frz b j v h
  rw [cell_heap h1]; exact h2
/-- so many cells of a list, and what they stand for -/
theorem VRL.part {cs l : List AV} {vs : List Value} {off n : Nat} (h : VRL K cs vs) (hp : Ev.part cs off n = some l) :
    VRL K l ((vs.drop off).take n) ∧ l.length = n ∧ ∀ (j : Nat) u, ((vs.drop off).take n)[j]? = some u → vs[off + j]? = some u := by
  obtain ⟨rfl, h1, _⟩ := part_spec hp
  refine ⟨(h.drop off).take n, h1, fun j u e => ?_⟩
  rw [List.getElem?_take] at e
  split at e
  · simpa using e
  · cases e

theorem loadAt_sound (hT : TyOk P t i inf d z zv) (hS : StoreRel P K σ w) {a v : AV} {ua : Value} (ha : VR K a ua) (h : loadAt σ i a = some v) :
    ∃ u, (Instr.loadAt t ua).run P w = .ok u w ∧ VR K v u := by
  unfold loadAt at h
  split at h
  · rename_i o off
    split at h
    · rename_i cs ty imm hg
      cases ha with
      | ptr hL =>
        obtain ⟨c, fr, vs, hc⟩ := hS.objs o _ _ hg hL
        obtain ⟨l, hl, hv⟩ := Option.bind_eq_some_iff.1 h
        obtain ⟨hr, hlen, hget⟩ := hc.vals.part hl
        obtain ⟨u, hu, hvu⟩ := run_loadVar_cells w hT _ (_ + off) hv hlen hr (fun j u e => by
          rw [cell_heap hc.heap, Nat.add_assoc]; exact hc.cell _ u (hget j u e))
        exact ⟨u, by simp [Instr.loadAt, Instr.sureAddr, hu], hvu⟩
    · cases h
  · rename_i cs off
    cases ha with
    | cptr _ b a vs hl hf hv' =>
      obtain ⟨l, hl', hv⟩ := Option.bind_eq_some_iff.1 h
      have hrel : VRL K cs vs := ⟨hl, hv'⟩
      obtain ⟨hr, hlen, hget⟩ := hrel.part hl'
      obtain ⟨u, hu, hvu⟩ := run_loadVar_cells w hT _ (_ + off) hv hlen hr (fun j u e => by
        rw [Nat.add_assoc]; exact frz_cell hS (hf _ u (hget j u e)))
      exact ⟨u, by simp [Instr.loadAt, Instr.sureAddr, hu], hvu⟩
  · cases h

/-! ### Written -/
theorem splice_spec : ∀ {cs : List AV} {off : Nat} {news cs' : List AV}, splice cs off news = some cs' →
    cs' = cs.take off ++ news ++ cs.drop (off + news.length) ∧ (news ≠ [] → off + news.length ≤ cs.length)
  | cs, off, [], cs', h => by
    have : cs' = cs := by unfold splice at h; simpa using h.symm
    subst this; simp
  | cs, 0, v :: r, cs', h => by
    cases cs with
    | nil => simp [splice] at h
    | cons c t =>
      simp only [splice, Option.map_eq_some_iff] at h
      obtain ⟨s, hs, rfl⟩ := h
      obtain ⟨h1, h2⟩ := splice_spec hs
      refine ⟨by rw [h1]; simp, fun _ => ?_⟩
      by_cases hr : r = []
      · subst hr; simp
      · have := h2 hr; simp at this ⊢; omega
  | cs, n + 1, v :: r, cs', h => by
    cases cs with
    | nil => simp [splice] at h
    | cons c t =>
      simp only [splice, Option.map_eq_some_iff] at h
      obtain ⟨s, hs, rfl⟩ := h
      obtain ⟨h1, h2⟩ := splice_spec hs
      have := h2 (by simp)
      simp at this
      refine ⟨?_, fun _ => by simp; omega⟩
      rw [h1, show n + 1 + (v :: r).length = n + (v :: r).length + 1 by omega]
      simp
theorem allAtoms_of : ∀ {l : List AV}, (∀ a ∈ l, a.isAtom = true) → allAtoms l = true
  | [], _ => rfl
  | b :: r, h => by simp only [allAtoms, Bool.and_eq_true]; exact ⟨h b (by simp), allAtoms_of fun a ha => h a (by simp [ha])⟩

/-- Cells of an object of the store's own are written. -/
theorem write_cells (hS : StoreRel P K σ w) {o : Nat} {cs cs' news : List AV} {us : List Value} {ty : TypeId} {L : Loc} {off : Nat} (hg : σ.get o = some (.cells cs ty false)) (hL : K.loc o = some L)
    (hsp : splice cs off news = some cs') (hr : VRL K news us) (hat : allAtoms news = true) :
    ∃ w', (storeCells ⟨L.blk, L.fst + off, none⟩ us).run P w = .ok () w' ∧ Stp P (fun _ => False) K σ w K (σ.set o (.cells cs' ty false)) w' := by
  obtain ⟨c, fr, vs, hc⟩ := hS.objs o _ L hg hL
  obtain ⟨h1, h2⟩ := splice_spec hsp
  have hfr := hc.free rfl
  subst hfr
  have hat' : allAtoms cs' = true := allAtoms_of (by
    intro a ha
    rw [h1] at ha
    simp only [List.mem_append] at ha
    rcases ha with (ha | ha) | ha
    · exact allAtoms_mem hc.atoms a (List.mem_of_mem_take ha)
    · exact allAtoms_mem hat a ha
    · exact allAtoms_mem hc.atoms a (List.mem_of_mem_drop ha))
  have hvl : vs.length = cs.length := hc.vals.1.symm
  have hul : us.length = news.length := hr.1.symm
  -- what the cells hold behind it
  have hvals : VRL K cs' (vs.take off ++ us ++ vs.drop (off + us.length)) := by
    rw [h1, hul]
    exact ((hc.vals.take off).append hr).append (hc.vals.drop _)
  by_cases hn : news = []
  · subst hn
    have hu : us = [] := List.eq_nil_of_length_eq_zero (by simpa using hul)
    subst hu
    have e : cs' = cs := by rw [h1]; simp
    subst e
    exact ⟨w, by simp [storeCells], .write hS hg rfl hL rfl (fun _ _ => rfl) rfl rfl rfl ⟨c, _, vs, hc⟩⟩
  · have hle := h2 hn
    have hfit := hc.fits
    have hlen := hc.len
    have hrun := run_storeCells_at (P := P) L.blk (L.fst + off) ty us 0 c w hc.heap (by omega) (hr.oneCells hat)
    simp only [Nat.add_zero] at hrun
    refine ⟨_, hrun, .write hS hg rfl hL (by simp) (fun b hb => setRow_other w _ b _ hb) rfl rfl rfl ⟨_, (0, 0), _, ⟨setRow_heap w _ _ _ _ _ hc.heap, ?_, ?_, ?_, hvals, ?_, fun _ => rfl, (fun e => by cases e), hat', hc.esz⟩⟩⟩
    · simp; omega
    · intro e
      obtain ⟨o1, o2⟩ := hc.one e
      refine ⟨o1, ?_⟩
      rw [o2, h1]; simp; omega
    · rw [h1]; simp; omega
    · intro j v e
      have hj : j < cs.length := by
        have := (List.getElem?_eq_some_iff.1 e).1
        simp at this; omega
      simp only [List.getElem?_toArray, List.append_assoc] at e ⊢
      rw [List.getElem?_append] at e ⊢
      have hl1 : (vs.take off).length = off := by simp; omega
      have hl2 : (c.toList.take (L.fst + off)).length = L.fst + off := by simp; omega
      rw [hl1] at e
      rw [hl2]
      by_cases hlt : j < off
      · rw [if_pos hlt] at e
        rw [if_pos (by omega)]
        rw [List.getElem?_take, if_pos hlt] at e
        rw [List.getElem?_take, if_pos (by omega)]
        simpa using hc.cell j v e
      · rw [if_neg hlt] at e
        rw [if_neg (by omega), show L.fst + j - (L.fst + off) = j - off by omega]
        rw [List.getElem?_append] at e ⊢
        by_cases hlt' : j - off < us.length
        · rw [if_pos hlt'] at e ⊢; exact e
        · rw [if_neg hlt'] at e ⊢
          simp only [List.getElem?_drop] at e ⊢
          have := hc.cell _ v e
          rw [show off + us.length + (j - off - us.length) = j by omega] at this
          rw [show L.fst + off + us.length + (j - off - us.length) = L.fst + j by omega]
          simpa using this

theorem storeAt_sound (hT : TyOk P t i inf d z zv) (hS : StoreRel P K σ w) {a v : AV} {ua uv : Value} {σ' : Store} (ha : VR K a ua) (hv : VR K v uv) (h : storeAt σ i a v = some σ') :
    ∃ w', (Instr.storeAt t ua uv).run P w = .ok () w' ∧ Stp P (fun _ => False) K σ w K σ' w' := by
  unfold storeAt at h
  split at h
  · rename_i o off
    split at h
    · rename_i cs ty hg
      split at h
      · rename_i hcond
        simp only [Bool.and_eq_true, beq_iff_eq] at hcond
        simp only [Option.map_eq_some_iff] at h
        obtain ⟨cs', hsp, rfl⟩ := h
        cases ha with
        | ptr hL =>
          obtain ⟨w', hrun, hstp⟩ := write_cells hS hg hL hsp hv.cells hcond.2
          refine ⟨w', ?_, hstp⟩
          have hsz : uv.cells.size = i.size := by
            have := hv.cells.1
            simp at this; omega
          simp [Instr.storeAt, Instr.sureAddr, storeVar, hT.run_size, hsz, hrun]
      · cases h
    · cases h
  · cases h

/-- A new variable, a new row: its cells are what was put there. -/
theorem alloc_cells (hS : StoreRel P K σ w) {o : Nat} {cs : List AV} {us : List Value} {ty : TypeId} {w' : World} {c : Array Value} (hr : VRL K cs us) (hat : allAtoms cs = true) (hn : K.loc o = none) (ho : o < σ.next) (hg : σ.get o = none)
    (hw : w'.heap = w.heap.push (.cells c ty)) (hc : us.length ≤ c.size) (hone : K.one ty → us.length = c.size) (hcell : ∀ (j : Nat) v, us[j]? = some v → c[j]? = some v) (hos : w'.os = w.os) (hta : w'.tape = w.tape) (hou : w'.output = w.output) :
    Stp P (· = o) K σ w (K.put o ⟨w.heap.size, 0, c.size, P.cellsOf ty⟩) (σ.add o (.cells cs ty false)) w' :=
  .new hS hn ho hg hw rfl hos hta hou ⟨c, (0, 0), us, ⟨heap_push_new w w' _ hw, by simp, (fun e => ⟨rfl, by rw [hr.1]; exact (hone e).symm⟩), by rw [hr.1]; exact hc, hr.mono (Kr.put_le _ hn), (fun j v e => by simpa using hcell j v e), fun _ => rfl, (fun e => by cases e), hat, rfl⟩⟩
end memory

end Go.Ev
