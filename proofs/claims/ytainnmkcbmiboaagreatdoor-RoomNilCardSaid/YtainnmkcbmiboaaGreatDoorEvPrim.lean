/-
  Ev: strings.Builder's copyCheck and String, told of otherwise.
-/
import Derived.Test.YtainnmkcbmiboaaGreatDoorEvMeth
import Derived.Lib.Builder
namespace Go.Ev
open Go
variable {P : Program}

/-- Cells that never change any more, where the real row's mark turns with them. -/
theorem Stp.freezeW {K : Kr} {σ : Store} {w w' : World} (h : StoreRel P K σ w) {o : Nat} {cs : List AV} {ty : TypeId} {L : Loc}
    (hg : σ.get o = some (.cells cs ty false)) (hL : K.loc o = some L)
    (hs : w'.heap.size = w.heap.size) (hb : ∀ b, b ≠ L.blk → w'.heap[b]? = w.heap[b]?)
    (hblk : ∀ c t fr, w.heap[L.blk]? = some (.cells c t fr) → ∃ fr', w'.heap[L.blk]? = some (.cells c t fr'))
    (hos : w'.os = w.os) (hta : w'.tape = w.tape) (hou : w'.output = w.output) :
    ∃ K', Stp P (fun _ => False) K σ w K' (σ.set o (.cells cs ty true)) w' := by
  obtain ⟨K', hst, _, hloc⟩ := Stp.freeze h hg hL
  have hOwn : Own K σ L.blk := ⟨o, _, L, hg, rfl, hL, rfl⟩
  have hr := hst.rel
  have hL' : K'.loc o = some L := by rw [hloc]; exact hL
  have hgo : (σ.set o (.cells cs ty true)).get o = some (.cells cs ty true) := by rw [Store.get_set, if_pos rfl]
  refine ⟨K', hst.le, ⟨?_, hr.sep, hr.fresh, hr.got, ?_, hr.apart, ?_⟩, hst.next, hst.old, by omega, hst.gain, ?_, ?_, ?_, ?_, hos, hta, hou⟩
  · intro p z M h1 h2
    by_cases hp : M.blk = L.blk
    · have hpo : p = o := hr.sep p o z _ M L h1 hgo h2 hL' hp
      subst hpo
      rw [hgo] at h1; cases h1
      rw [hL'] at h2; cases h2
      obtain ⟨c, fr, vs, hc⟩ := hr.objs p _ L hgo hL'
      obtain ⟨fr', hf⟩ := hblk c ty fr hc.heap
      exact ⟨c, fr', vs, ⟨hf, hc.fits, hc.one, hc.len, hc.vals, hc.cell, (fun e => by cases e), hc.froz, hc.atoms, hc.esz⟩⟩
    · exact ObjRel.keep (.refl K') (hb _ hp) (hr.objs p z M h1 h2)
  · intro b j v e
    obtain ⟨c, t, fr, h1, h2⟩ := hr.frz b j v e
    by_cases hbl : b = L.blk
    · subst hbl
      obtain ⟨fr', hf⟩ := hblk c t fr h1
      exact ⟨c, t, fr', hf, h2⟩
    · exact ⟨c, t, fr, (hb b hbl).trans h1, h2⟩
  · intro p M e
    have := hr.blk p M e; omega
  · intro b _ hn
    exact hb b fun e => hn (e ▸ hOwn)
  · exact hst.own
  · exact hst.has
  · exact hst.froz

/-- What is asked of the two functions: what walks of their text give. -/
structure BuilderOk (P : Program) (cc st : FuncId) (B byte : TypeId) : Prop where
  ecc : Enters P cc
  est : Enters P st
  cell : P.cellsOf byte = 1
  fresh : ∀ (b off ty cells : Nat) (w : World), w.cell? ⟨b, off, none⟩ = some (.pointer none) → w.shape? b = some (ty, cells) → off < cells →
    liesAt P P.depth ty (cells / P.cellsOf ty) off B 1 = true → w.frozen? ⟨b, off, none⟩ = false →
    Calls P cc #[.pointer (some ⟨b, off, none⟩)] w fun e w' => e = .returned (.tuple #[]) ∧ w' = w.setCell ⟨b, off, none⟩ (.pointer (some ⟨b, off, none⟩))
  used : ∀ (b off : Nat) (w : World), w.cell? ⟨b, off, none⟩ = some (.pointer (some ⟨b, off, none⟩)) →
    Calls P cc #[.pointer (some ⟨b, off, none⟩)] w fun e w' => e = .returned (.tuple #[]) ∧ w' = w
  row : ∀ (b off g a cap cells : Nat) (l : List UInt8) (w : World), w.cell? ⟨b, off + 1, none⟩ = some (.slice (some ⟨g, a, none⟩) l.length cap) → l ≠ [] → l.length ≤ cap → w.shape? g = some (byte, cells) →
    a + l.length ≤ cells → l.length ≤ 9223372036854775807 → (∀ j x, l[j]? = some x → w.cell? ((⟨g, a, none⟩ : Addr).add j) = some (.int .u8 x.toNat)) →
    Calls P st #[.pointer (some ⟨b, off, none⟩)] w fun e w' => e = .returned (.string ⟨l.toArray⟩) ∧ w' = w.drew.freeze ⟨g, a, none⟩ l.length
  none : ∀ (b off : Nat) (w : World), w.cell? ⟨b, off + 1, none⟩ = some (.slice none 0 0) →
    Calls P st #[.pointer (some ⟨b, off, none⟩)] w fun e w' => e = .returned (.string ⟨#[]⟩) ∧ w' = w.drew

def ccOf (lies : TypeId → Nat → Nat → Bool) (one : TypeId → Bool) (args : List AV) (σ : Store) : Option (AV × Store) :=
  match args with
  | [.ptr o off] => match σ.get o with
    | some (.cells cs ty false) => match cs[off]? with
      | some .nilp => if one ty && lies ty cs.length off then (splice cs off [.ptr o off]).map fun cs' => (.tup [], σ.set o (.cells cs' ty false)) else none
      | some (.ptr p q) => if p.beq o && q.beq off then some (.tup [], σ) else none
      | _ => none
    | _ => none
  | _ => none
def takeBytes : Nat → List AV → Option (List UInt8)
  | 0, _ => some []
  | n + 1, .int .u8 (.ofNat b) :: r => if b < 256 then (takeBytes n r).map (UInt8.ofNat b :: ·) else none
  | _ + 1, _ => none
def strOf (byte : TypeId) (args : List AV) (σ : Store) : Option (AV × Store) :=
  match args with
  | [.ptr o off] => match σ.get o with
    | some (.cells cs _ _) => match cs[off + 1]? with
      | some .nils => some (.str [], σ)
      | some (.sl p q (len + 1) _) => match σ.get p with
        | some (.cells bs ty false) => if ty.beq byte && Nat.ble (len + 1) 9223372036854775807 then (takeBytes (len + 1) (bs.drop q)).map fun s => (.str s, σ.set p (.cells bs ty true)) else none
        | _ => none
      | _ => none
    | _ => none
  | _ => none

theorem takeBytes_spec : ∀ {n : Nat} {l : List AV} {s : List UInt8}, takeBytes n l = some s → s.length = n ∧ n ≤ l.length ∧ ∀ (j : Nat) x, s[j]? = some x → l[j]? = some (.int .u8 x.toNat)
  | 0, l, s, h => by simp [takeBytes] at h; subst h; simp
  | n + 1, [], s, h => by simp [takeBytes] at h
  | n + 1, c :: r, s, h => by
    unfold takeBytes at h
    split at h
    · rename_i hd; exact absurd hd (by omega)
    · rename_i n' b r' hn' hcr
      cases hn'
      cases hcr
      split at h
      · rename_i hb
        simp only [Option.map_eq_some_iff] at h
        obtain ⟨t, ht, rfl⟩ := h
        obtain ⟨h1, h2, h3⟩ := takeBytes_spec ht
        refine ⟨by simp [h1], by simp; omega, fun j x hj => ?_⟩
        cases j with
        | zero =>
          simp at hj; subst hj
          simp [Nat.mod_eq_of_lt hb]
        | succ j => simpa using h3 j x (by simpa using hj)
      · cases h
    · cases h

theorem calls_ends {f : FuncId} {us : Array Value} {w : World} {n : Nat} {R Q : Ending → World → Prop} (h : Calls P f us w R) (hq : ∀ e w', R e w' → Q e w') : CallsIn (fence none) n P f us w Q :=
  (callsIn_wide (n := n)).2 (h.mono hq)

theorem cc_sound {G : Info} {cc st : FuncId} {B byte : TypeId} (hB : BuilderOk P cc st B byte) {args : List AV} {σ σ' : Store} {v : AV}
    (h : ccOf (fun ty n off => liesAt P P.depth ty (n / P.cellsOf ty) off B 1) G.one args σ = some (v, σ')) {n : Nat} {K : Kr} {w : World} {us : List Value} (hS : StoreRel P K σ w) (hG : GlobRel G K) (hr : VRL K args us) :
    CallsIn (fence none) n P cc ⟨us⟩ w (Ends P K σ w (.val v) σ') := by
  unfold ccOf at h
  split at h
  · rename_i o off
    obtain ⟨u, us', rfl, hu, hr'⟩ := hr.inv_cons
    have := hr'.inv_nil
    subst this
    cases hu with
    | ptr hL =>
    rename_i L
    split at h
    · rename_i cs ty hg
      obtain ⟨c, fr, vs, hc⟩ := hS.objs o _ L hg hL
      have hfr := hc.free rfl
      subst hfr
      split at h
      · rename_i hcell
        split at h
        · rename_i hcond
          simp only [Bool.and_eq_true] at hcond
          obtain ⟨h1, h2⟩ := hcond
          simp only [Option.map_eq_some_iff, Prod.mk.injEq] at h
          obtain ⟨cs', hsp, rfl, rfl⟩ := h
          obtain ⟨f1, f2⟩ := hc.one (by rw [hG.one]; exact h1)
          obtain ⟨x, hx, hxv⟩ := hc.vals.get hcell
          cases hxv
          have hcx := hc.cell off _ hx
          have hoff : off < cs.length := (List.getElem?_eq_some_iff.1 hcell).1
          have hfit := hc.fits
          have hcl : w.cell? ⟨L.blk, L.fst + off, none⟩ = some (.pointer none) := by rw [cell_heap hc.heap]; exact hcx
          have hsh : w.shape? L.blk = some (ty, cs.length) := by simp [World.shape?, hc.heap]; omega
          have hfz : w.frozen? ⟨L.blk, L.fst + off, none⟩ = false := by simp [World.frozen?, hc.heap]
          refine calls_ends (hB.fresh L.blk (L.fst + off) ty cs.length w hcl hsh (by omega) (by rw [f1, Nat.zero_add]; exact h2) hfz) ?_
          rintro e w' ⟨rfl, rfl⟩
          obtain ⟨w2, hw2, hst⟩ := write_cells hS hg hL hsp (us := [.pointer (some ⟨L.blk, L.fst + off, none⟩)]) (.cons (.ptr hL) .nil) rfl
          have hrun : (storeCells ⟨L.blk, L.fst + off, none⟩ [.pointer (some ⟨L.blk, L.fst + off, none⟩)]).run P w = .ok () (w.setCell ⟨L.blk, L.fst + off, none⟩ (.pointer (some ⟨L.blk, L.fst + off, none⟩))) := by
            simp [storeCells, Addr.add, run_store P w _ _ _ (show (Value.pointer (some ⟨L.blk, L.fst + off, none⟩)).oneCell' = true from rfl), hcl, hfz]
          rw [hrun] at hw2
          cases hw2
          exact ⟨K, _, hst, rfl, .tup' .nil⟩
        · cases h
      · rename_i p q hcell
        split at h
        · rename_i hcond
          simp only [Bool.and_eq_true, Nat.beq_eq] at hcond
          obtain ⟨rfl, rfl⟩ := hcond
          cases h
          obtain ⟨x, hx, hxv⟩ := hc.vals.get hcell
          cases hxv with
          | ptr hL2 =>
          rw [hL] at hL2; cases hL2
          have hcx := hc.cell _ _ hx
          have hcl : w.cell? ⟨L.blk, L.fst + q, none⟩ = some (.pointer (some ⟨L.blk, L.fst + q, none⟩)) := by rw [cell_heap hc.heap]; exact hcx
          refine calls_ends (hB.used L.blk (L.fst + q) w hcl) ?_
          rintro e w' ⟨rfl, rfl⟩
          exact ⟨K, _, .refl hS, rfl, .tup' .nil⟩
        · cases h
      · cases h
    · cases h
  · cases h

theorem str_sound {cc st : FuncId} {B byte : TypeId} (hB : BuilderOk P cc st B byte) {args : List AV} {σ σ' : Store} {v : AV}
    (h : strOf byte args σ = some (v, σ')) {n : Nat} {K : Kr} {w : World} {us : List Value} (hS : StoreRel P K σ w) (hr : VRL K args us) :
    CallsIn (fence none) n P st ⟨us⟩ w (Ends P K σ w (.val v) σ') := by
  unfold strOf at h
  split at h
  · rename_i o off
    obtain ⟨u, us', rfl, hu, hr'⟩ := hr.inv_cons
    have := hr'.inv_nil
    subst this
    cases hu with
    | ptr hL =>
    rename_i L
    split at h
    · rename_i cs ty imm hg
      obtain ⟨c, fr, vs, hc⟩ := hS.objs o _ L hg hL
      split at h
      · rename_i hcell
        cases h
        obtain ⟨x, hx, hxv⟩ := hc.vals.get hcell
        cases hxv
        have hcl : w.cell? ⟨L.blk, L.fst + off + 1, none⟩ = some (.slice none 0 0) := by rw [cell_heap hc.heap]; exact hc.cell _ _ hx
        refine calls_ends (hB.none L.blk (L.fst + off) w hcl) ?_
        rintro e w' ⟨rfl, rfl⟩
        refine ⟨K, _, ?_, rfl, ?_⟩
        · exact ⟨.refl K, ⟨fun p z M h1 h2 => ObjRel.keep (w := w) (.refl K) rfl (hS.objs p z M h1 h2), hS.sep, hS.fresh, hS.got, hS.frz, hS.apart, hS.blk⟩, Nat.le_refl _, fun _ _ _ => rfl, Nat.le_refl _, fun _ _ _ h => h, fun _ _ _ => rfl, fun _ _ h => h, fun _ _ h => h, fun _ _ _ _ h => .inl h, rfl, rfl, rfl⟩
        · exact VR.str (K := K) ⟨#[]⟩
      · rename_i p q len lim hcell
        split at h
        · rename_i bs ty2 hgp
          split at h
          · rename_i hcond
            simp only [Bool.and_eq_true, Nat.beq_eq, Nat.ble_eq] at hcond
            obtain ⟨rfl, hle⟩ := hcond
            simp only [Option.map_eq_some_iff, Prod.mk.injEq] at h
            obtain ⟨s, hs, rfl, rfl⟩ := h
            obtain ⟨t1, t2, t3⟩ := takeBytes_spec hs
            obtain ⟨x, hx, hxv⟩ := hc.vals.get hcell
            cases hxv with
            | sl hLp hl hlim hno =>
            rename_i M cap
            obtain ⟨c2, fr2, vs2, hc2⟩ := hS.objs p _ M hgp hLp
            have hcl : w.cell? ⟨L.blk, L.fst + off + 1, none⟩ = some (.slice (some ⟨M.blk, M.fst + q, none⟩) s.length cap) := by rw [cell_heap hc.heap, t1]; exact hc.cell _ _ hx
            have hne : s ≠ [] := fun e => by rw [e] at t1; simp at t1
            have hsh : w.shape? M.blk = some (ty2, c2.size) := by simp [World.shape?, hc2.heap]
            have hfit := hc2.fits
            have hlen := hc2.len
            have hdl : (bs.drop q).length = bs.length - q := by simp
            have hb : M.fst + q + s.length ≤ c2.size := by omega
            have hcell2 : ∀ j x, s[j]? = some x → w.cell? ((⟨M.blk, M.fst + q, none⟩ : Addr).add j) = some (.int .u8 x.toNat) := by
              intro j x hj
              have h4 := t3 j x hj
              rw [List.getElem?_drop] at h4
              obtain ⟨y, hy, hyv⟩ := hc2.vals.get h4
              cases hyv
              have : ((⟨M.blk, M.fst + q, none⟩ : Addr).add j) = ⟨M.blk, M.fst + (q + j), none⟩ := by
                unfold Addr.add
                by_cases hj0 : j = 0
                · subst hj0; simp
                · simp [hj0]; omega
              rw [this, cell_heap hc2.heap]
              exact hc2.cell _ _ hy
            refine calls_ends (hB.row L.blk (L.fst + off) M.blk (M.fst + q) cap c2.size s w hcl hne (by omega) hsh hb (by omega) hcell2) ?_
            rintro e w' ⟨rfl, rfl⟩
            have hnz : ¬ s.length = 0 := by omega
            obtain ⟨K', hst⟩ := Stp.freezeW (P := P) (w' := w.drew.freeze ⟨M.blk, M.fst + q, none⟩ s.length) hS hgp hLp
              (by simp only [World.freeze, hnz, if_false]; first | rfl | simp | (simp; rfl))
              (fun b hbne => by
                simp only [World.freeze, hnz, if_false, Array.getElem?_modify]
                rw [if_neg (fun e => hbne e.symm)]; rfl)
              (fun c t fr hh => by
                have hh' : w.drew.heap[M.blk]? = some (.cells c t fr) := hh
                simp only [World.freeze, hnz, if_false, Array.getElem?_modify, hh']
                obtain ⟨lo, hi⟩ := fr
                exact ⟨_, rfl⟩)
              (by simp only [World.freeze, hnz, if_false]; first | rfl | simp | (simp; rfl)) (by simp only [World.freeze, hnz, if_false]; first | rfl | simp | (simp; rfl)) (by simp only [World.freeze, hnz, if_false]; first | rfl | simp | (simp; rfl))
            refine ⟨K', _, hst, rfl, ?_⟩
            have := VR.str (K := K') ⟨s.toArray⟩
            simpa using this
          · cases h
        · cases h
      · cases h
    · cases h
  · cases h

/-- BOTH TOGETHER. -/
def primOf (P : Program) (cc st : FuncId) (B byte : TypeId) (one : TypeId → Bool) (f : FuncId) : Option (List AV → Store → Option (AV × Store)) :=
  cond (Nat.beq f cc) (some (ccOf (fun ty n off => liesAt P P.depth ty (n / P.cellsOf ty) off B 1) one)) (cond (Nat.beq f st) (some (strOf byte)) none)
theorem primOf_ok {G : Info} {cc st : FuncId} {B byte : TypeId} (hB : BuilderOk P cc st B byte) (hG : G.prim = primOf P cc st B byte G.one) : PrimsOk P G := by
  intro f p h
  rw [hG] at h
  unfold primOf at h
  cases hf : Nat.beq f cc with
  | true =>
    rw [hf, cond_true] at h
    have : f = cc := by simpa using hf
    subst this
    cases h
    exact ⟨hB.ecc, fun args σ v σ' h n K w us hS hGl hr => cc_sound hB h hS hGl hr⟩
  | false =>
    rw [hf, cond_false] at h
    cases hf2 : Nat.beq f st with
    | true =>
      rw [hf2, cond_true] at h
      have : f = st := by simpa using hf2
      subst this
      cases h
      exact ⟨hB.est, fun args σ v σ' h n K w us hS _ hr => str_sound hB h hS hr⟩
    | false => rw [hf2] at h; cases h
end Go.Ev
