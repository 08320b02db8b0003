/-
  Ev: operations on values, one by one.
-/
import Derived.Test.YtainnmkcbmiboaaGreatDoorEvVal
namespace Go.Ev
open Go
variable {P : Program} {K : Kr} {G : Info} {σ : Store} {w : World}

/-! ### Binary and unary -/
/-- Comparing values of a flat type: what the evaluator answers, the model answers. -/
def FlatOk (P : Program) (G : Info) : Prop := ∀ t i, G.tt t = some i → i.flat.length = i.size → ∀ (K : Kr) cs ds us vs r x y, VRL K cs us → VRL K ds vs → cs.length = i.size → ds.length = i.size → cellsEq i.flat cs ds = some r →
  (∀ op w, (op = .eql ∨ op = .neq) → (eqGuard op t x y (.agg ⟨us⟩) (.agg ⟨vs⟩)).run P w = .ok () w) ∧ ∀ w, (Op.equal t (.agg ⟨us⟩) (.agg ⟨vs⟩)).run P w = .ok r w

theorem run_pureEq {s : Sem Value} {u : Value} (h : s = .pure u) (w : World) : s.run P w = .ok u w := by rw [h]; rfl
theorem bin_sound (hTT : TTOk P G.tt) (hF : FlatOk P G) {op : BinOp} {t : TypeId} {x y : Operand} {a b v : AV} {ua ub : Value} (ha : VR K a ua) (hb : VR K b ub)
    (h : bin G op t (isConstOp x || isConstOp y) a b = some v) :
    ∃ u, (do eqGuard op t x y ua ub; binOp op t ua ub : Sem Value).run P w = .ok u w ∧ VR K v u := by
  unfold bin at h
  split at h
  · obtain ⟨u, hu, hv⟩ := pureOf_sound (K := K) h
    rw [ha.int_inv, hb.int_inv]
    exact ⟨u, by rw [eqGuard_at_int]; exact run_pureEq hu w, hv⟩
  · obtain ⟨p, rfl, rfl⟩ := ha.str_inv
    obtain ⟨q, rfl, rfl⟩ := hb.str_inv
    obtain ⟨u, hu, hv⟩ := strOp_sound (P := P) (K := K) (w := w) (t := t) h
    exact ⟨u, by rw [eqGuard_at_string]; exact hu, hv⟩
  · split at h
    · split at h
      · rename_i i hi
        obtain ⟨inf, d, z, zv, hT⟩ := hTT t i hi
        simp only [Option.map_eq_some_iff] at h
        obtain ⟨r, hr, rfl⟩ := h
        obtain ⟨h1, h2, h3, h4⟩ := valEq_sound (P := P) (w := w) hT ha hb (fun hf cs ds us vs r a b c d e => hF t i hi hf K cs ds us vs r x y a b c d e) hr
        refine ⟨.bool r, ?_, .bool r⟩
        simp only [Sem.run_bind, h1 .eql (.inl rfl), Result.andThen_ok, h3, h2]
        rfl
      · cases h
    · split at h
      · rename_i i hi
        obtain ⟨inf, d, z, zv, hT⟩ := hTT t i hi
        simp only [Option.map_eq_some_iff] at h
        obtain ⟨r, hr, rfl⟩ := h
        obtain ⟨h1, h2, h3, h4⟩ := valEq_sound (P := P) (w := w) hT ha hb (fun hf cs ds us vs r a b c d e => hF t i hi hf K cs ds us vs r x y a b c d e) hr
        refine ⟨.bool !r, ?_, .bool !r⟩
        simp only [Sem.run_bind, h1 .neq (.inr rfl), Result.andThen_ok, h4, h2]
        rfl
      · cases h
    · cases h
theorem un_sound {op : UnOp} {a v : AV} {ua : Value} (ha : VR K a ua) (h : un op a = some v) : ∃ u, (Op.unary op ua).run P w = .ok u w ∧ VR K v u := by
  unfold un at h
  split at h
  · obtain ⟨u, hu, hv⟩ := pureOf_sound (K := K) h
    rw [ha.int_inv]; exact ⟨u, run_pureEq hu w, hv⟩
  · obtain ⟨u, hu, hv⟩ := pureOf_sound (K := K) h
    rw [ha.bool_inv]; exact ⟨u, run_pureEq hu w, hv⟩
  · cases h

/-! ### Slices -/
theorem VR.nils_inv {u : Value} (h : VR K .nils u) : u = .slice none 0 0 := by cases h; rfl
theorem VR.trOf {es : List (List AV)} {b a k cap : Nat} {vs : List Value} (hcap : es.length ≤ cap) (he : ∀ e ∈ es, e.length = k) (hr : VRL K (flat es) vs)
    (hf : ∀ (j : Nat) (v : Value), vs[j]? = some v → K.frz b (a + j) = some v) : VR K (.tr es) (.slice (some ⟨b, a, none⟩) es.length cap) :=
  .tr b a k cap vs hcap he hr.1 hf hr.2
theorem FR.sub {b a : Nat} {vs : List Value} (hf : ∀ (j : Nat) (v : Value), vs[j]? = some v → K.frz b (a + j) = some v) (n m : Nat) :
    ∀ (j : Nat) (v : Value), ((vs.drop n).take m)[j]? = some v → K.frz b (a + n + j) = some v := fun j v e => by
  rw [List.getElem?_take] at e
  split at e
  · simp only [List.getElem?_drop] at e
    rw [Nat.add_assoc]; exact hf _ v e
  · cases e
theorem VR.trSub {es : List (List AV)} {b a k cap l h : Nat} {vs : List Value} (hl : l ≤ h) (hh : h ≤ es.length) (hcap : h - l ≤ cap) (he : ∀ e ∈ es, e.length = k) (hr : VRL K (flat es) vs)
    (hf : ∀ (j : Nat) (v : Value), vs[j]? = some v → K.frz b (a + j) = some v) : VR K (.tr ((es.take h).drop l)) (.slice (some ⟨b, a + l * k, none⟩) (h - l) cap) := by
  have hlen : ((es.take h).drop l).length = h - l := by simp; omega
  have he' : ∀ e ∈ (es.take h).drop l, e.length = k := fun e hm => he e (List.mem_of_mem_take (List.mem_of_mem_drop hm))
  have hflat : flat ((es.take h).drop l) = ((flat es).drop (l * k)).take ((h - l) * k) := by
    rw [flat_drop (fun e hm => he e (List.mem_of_mem_take hm)), flat_take he, List.drop_take, Nat.sub_mul]
  have := VR.trOf (K := K) (es := (es.take h).drop l) (b := b) (a := a + l * k) (k := k) (cap := cap) (vs := (vs.drop (l * k)).take ((h - l) * k)) (by omega) he'
    (by rw [hflat]; exact (hr.drop _).take _) (FR.sub hf _ _)
  rw [hlen] at this
  exact this
theorem all_len {es : List (List AV)} {k : Nat} (h : es.all (fun c => c.length.beq k) = true) : ∀ e ∈ es, e.length = k := fun e he => Nat.eq_of_beq_eq_true (List.all_eq_true.1 h e he)
theorem add_lit' (b o n : Nat) : Addr.add ⟨b, o, none⟩ n = ⟨b, o + n, none⟩ := Addr.add_lit b o n
theorem run_slice_slice {t e : TypeId} (hu : P.underlying t = some (.slice e)) {k : Nat} (hk : ∀ w, (Go.sizeOf e).run P w = .ok k w) {a : Option Addr} {len cap l h m : Nat} {lo hi mx : Option Value}
    (hb : (Instr.sliceBounds true len cap lo hi mx).run P w = .ok (l, h, m) w) :
    (Instr.sliceAt t (.slice a len cap) lo hi mx).run P w = .ok (.slice (if m = l then a else a.map (·.add (l * k))) (h - l) (m - l)) w := by
  simp [Instr.sliceAt, Instr.slice, run_underlying hu, hb, hk]

theorem slice_sound (hTT : TTOk P G.tt) (hS : StoreRel P K σ w) {t : TypeId} {a v : AV} {ua : Value} {lo hi mx : Option AV} {ul uh um : Option Value} (ha : VR K a ua)
    (hl : BV K lo ul) (hh : BV K hi uh) (hm : BV K mx um) (h : sliceOf G σ t a lo hi mx = some v) : ∃ u, (Instr.sliceAt t ua ul uh um).run P w = .ok u w ∧ VR K v u := by
  unfold sliceOf at h
  split at h
  · cases h
  · rename_i i hi
    obtain ⟨inf, d, z, zv, hT⟩ := hTT t i hi
    have hund := hT.hund
    have hd := hT.hd
    split at h
    · -- a string
      rename_i s ei
      rw [ei] at hd
      cases td_str hd
      split at h
      · cases h
      · rename_i hmx
        split at h
        · rename_i l' h' m' hb
          cases h
          obtain ⟨p, rfl, rfl⟩ := ha.str_inv
          have hmn : mx = none := by cases mx <;> simp_all
          subst hmn
          cases hm
          obtain ⟨h1, h2, h3, hrun, h4⟩ := bounds_sound (P := P) (isSlice := false) hl hh .non hb (Nat.le_refl _) w
          have h4 := h4 rfl
          refine ⟨.string (p.extract l' h'), ?_, ?_⟩
          · rw [size_list] at hrun
            simp [Instr.sliceAt, Instr.slice, run_underlying hund, hrun]
          · have := VR.str (K := K) (p.extract l' h')
            have e : (p.extract l' h').data.toList = (p.data.toList.take h').drop l' := by simp [List.drop_take]
            rw [e] at this; exact this
        · cases h
    · -- nil
      rename_i e ei
      rw [ei] at hd
      cases td_slice hd
      split at h
      · rename_i k bb hk hb
        cases h
        obtain ⟨l', h', m'⟩ := bb
        rw [ha.nils_inv]
        obtain ⟨h1, h2, h3, hrun, h4⟩ := bounds_sound (P := P) (isSlice := true) hl hh hm hb (Nat.le_refl _) w
        have : m' = 0 := by omega
        have : h' = 0 := by omega
        have : l' = 0 := by omega
        subst_vars
        refine ⟨.slice none 0 0, ?_, .nils⟩
        rw [run_slice_slice hund (run_sizeOfTy hTT hk) hrun]
        simp
      · cases h
    · -- into the store
      rename_i e o off len lim ei
      rw [ei] at hd
      cases td_slice hd
      split at h
      · rename_i k l' h' m' hk hb
        split at h
        · rename_i hok
          cases h
          cases ha with
          | sl0 ad hlim hno =>
            have hz : limBy 0 lim = 0 := by cases lim with | none => rfl | some c => exact hlim c rfl
            rw [hz] at hb
            obtain ⟨h1, h2, h3, hrun, h4⟩ := bounds_sound (P := P) (isSlice := true) hl hh hm hb (Nat.le_refl _) w
            have : m' = 0 := by omega
            have : h' = 0 := by omega
            have : l' = 0 := by omega
            subst_vars
            refine ⟨.slice (some ad) 0 0, ?_, ?_⟩
            · rw [run_slice_slice hund (run_sizeOfTy hTT hk) hrun]
              simp
            · refine .sl0 ad (fun q hq => ?_) (fun hq => ?_)
              · cases mx with
                | none => cases lim with
                  | none => simp at hq
                  | some c => simp at hq; have := hlim c rfl; omega
                | some x => simp at hq; omega
              · cases mx with
                | none => cases lim with
                  | none => simpa using hno rfl
                  | some c => simp at hq
                | some x => simp at hq
          | sl hL hlen hlim hno =>
            rename_i L C
            have hz : limBy len lim ≤ C := by cases lim with | none => exact hlen | some c => exact Nat.le_of_eq (hlim c rfl).symm
            obtain ⟨h1, h2, h3, hrun, h4⟩ := bounds_sound (P := P) (isSlice := true) hl hh hm hb hz w
            have hlim' : ∀ q, (if mx.isSome then some (m' - l') else lim.map (· - l')) = some q → (if mx.isSome then m' else C) - l' = q := fun q hq => by
              cases mx with
              | none => cases lim with
                | none => simp at hq
                | some c => simp at hq; have := hlim c rfl; simp; omega
              | some x => simp at hq; simp; omega
            obtain ⟨M, hM⟩ : ∃ M, M = (if mx.isSome then m' else C) := ⟨_, rfl⟩
            have hle : m' ≤ M := by rw [hM]; split <;> omega
            rw [← hM] at hrun hlim'
            refine ⟨_, run_slice_slice hund (run_sizeOfTy hTT hk) hrun, ?_⟩
            have hfull : (if mx.isSome then some (m' - l') else lim.map (· - l')) = none → off + l' * k + (M - l') * L.esz = L.cap := by
              intro hn
              rw [hM]
              cases mx with
              | some x => simp at hn
              | none =>
                cases lim with
                | some c => simp at hn
                | none =>
                  have h4 := h4 rfl
                  simp only [limBy] at h4
                  have hno := hno rfl
                  simp only [Option.isSome_none, Bool.false_eq_true, if_false, Bool.false_or, Bool.or_eq_true] at hok ⊢
                  have hlC : l' ≤ C := by omega
                  rcases hok with h0 | h0
                  · have := Nat.eq_of_beq_eq_true h0
                    subst this; simpa using hno
                  · have hkE : k = L.esz := by
                      unfold rowOf at h0
                      split at h0
                      · rename_i cs ty imm hg
                        obtain ⟨c, fr, vs, hc⟩ := hS.objs o _ L hg hL
                        split at h0
                        · rename_i n hn
                          have : n = k := Nat.eq_of_beq_eq_true h0
                          subst this
                          unfold sizeOfTy at hn
                          simp only [Option.map_eq_some_iff] at hn
                          obtain ⟨j, hj, rfl⟩ := hn
                          obtain ⟨_, _, _, _, hT'⟩ := hTT _ _ hj
                          rw [← hT'.cellsOf, hc.esz]
                        · cases h0
                      · cases h0
                    subst hkE
                    obtain ⟨D, rfl⟩ : ∃ D, C = l' + D := ⟨C - l', by omega⟩
                    rw [Nat.add_sub_cancel_left, ← hno, Nat.add_mul]
                    omega
            have hfull' : (if mx.isSome then some (m' - l') else lim.map (· - l')) = none → (off + l' * k) + (M - l') * L.esz = L.cap := hfull
            by_cases hq : M = l'
            · rw [if_pos hq]
              have hzero : h' - l' = 0 := by omega
              rw [hzero, show M - l' = 0 by omega]
              exact .sl0 _ (fun q e => by have := hlim' q e; omega) (fun hn => ⟨L, hL, by have := hfull hn; rw [hq, Nat.sub_self, Nat.zero_mul] at this; omega⟩)
            · rw [if_neg hq]
              simp only [Option.map_some, add_lit', Nat.add_assoc]
              exact .sl hL (by omega) hlim' hfull'
        · cases h
      · cases h
    · -- frozen
      rename_i e es ei
      rw [ei] at hd
      cases td_slice hd
      split at h
      · rename_i k l' h' m' hk hb
        split at h
        · rename_i hall
          cases h
          have hall := all_len hall
          have main : ∀ (ad : Addr) (C : Nat), es.length ≤ C → (h' - l' ≠ 0 → ∃ b a vs, ad = ⟨b, a, none⟩ ∧ VRL K (flat es) vs ∧ ∀ (j : Nat) (v : Value), vs[j]? = some v → K.frz b (a + j) = some v) →
              ∃ u, (Instr.sliceAt t (.slice (some ad) es.length C) ul uh um).run P w = .ok u w ∧ VR K (.tr ((es.take h').drop l')) u := by
            intro ad C hC hin
            obtain ⟨h1, h2, h3, hrun, h4⟩ := bounds_sound (P := P) (isSlice := true) hl hh hm hb hC w
            refine ⟨_, run_slice_slice hund (run_sizeOfTy hTT hk) hrun, ?_⟩
            by_cases hz : h' - l' = 0
            · have : (es.take h').drop l' = [] := by
                apply List.drop_eq_nil_of_le
                simp; omega
              rw [this, hz]
              have hsome : ∀ (c : Prop) [Decidable c] (x y : Addr), (if c then some x else some y) = some (if c then x else y) := fun c _ x y => by split <;> rfl
              simp only [Option.map_some, hsome]
              exact .tr0 _ _
            · obtain ⟨b, a, vs, rfl, hr, hf⟩ := hin hz
              rw [if_neg (by split <;> omega)]
              simp only [Option.map_some, add_lit']
              exact VR.trSub h1 (by omega) (by split <;> omega) hall hr hf
          cases ha with
          | tr b a esz cap vs hcap he hl' hf hv =>
            exact main ⟨b, a, none⟩ cap hcap fun _ => ⟨b, a, vs, rfl, ⟨hl', hv⟩, hf⟩
          | tr0 ad cap =>
            refine main ad cap (Nat.zero_le _) fun hz => ?_
            obtain ⟨h1, h2, h3, hrun, h4⟩ := bounds_sound (P := P) (isSlice := true) hl hh hm hb (Nat.le_refl _) w
            simp at h3
            omega
        · cases h
      · cases h
    · -- an array in the store
      rename_i n e o off ei
      rw [ei] at hd
      cases td_arr hd
      split at h
      · rename_i k l' h' m' hk hb
        cases h
        cases ha with
        | ptr hL =>
          rename_i L
          obtain ⟨h1, h2, h3, hrun, h4⟩ := bounds_sound (P := P) (isSlice := false) hl hh hm hb (Nat.le_refl _) w
          have hmm : (if mx.isSome then m' else n) = m' := by
            cases mx with
            | none => simp; exact (h4 rfl).symm
            | some x => rfl
          rw [hmm] at hrun
          refine ⟨.slice (some (if m' = l' then ⟨L.blk, L.fst + off, none⟩ else ⟨L.blk, L.fst + off + l' * k, none⟩)) (h' - l') (m' - l'), ?_, ?_⟩
          · simp [Instr.sliceAt, run_underlying hund, Instr.sureAddr, hrun, run_sizeOfTy hTT hk, add_lit']
          · split
            · rename_i hq
              have : h' - l' = 0 := by omega
              rw [this, show m' - l' = 0 by omega]
              exact .sl0 _ (fun q e => (Option.some.inj e).symm) (fun e => by cases e)
            · rw [Nat.add_assoc]
              exact .sl hL (by omega) (fun q e => Option.some.inj e) (fun e => by cases e)
      · cases h
    · -- a frozen array
      rename_i n e cs off ei
      rw [ei] at hd
      cases td_arr hd
      split at h
      · rename_i k l' h' m' hk hb
        simp only [Option.map_eq_some_iff] at h
        obtain ⟨es, hes, rfl⟩ := h
        cases ha with
        | cptr _ b a vs hl' hf hv =>
          obtain ⟨h1, h2, h3, hrun, h4⟩ := bounds_sound (P := P) (isSlice := false) hl hh hm hb (Nat.le_refl _) w
          have hmm : (if mx.isSome then m' else n) = m' := by
            cases mx with
            | none => simp; exact (h4 rfl).symm
            | some x => rfl
          rw [hmm] at hrun
          obtain ⟨g1, g2, g3, g4⟩ := chunks_spec hes
          refine ⟨.slice (some (if m' = l' then ⟨b, a + off, none⟩ else ⟨b, a + off + l' * k, none⟩)) (h' - l') (m' - l'), ?_, ?_⟩
          · simp [Instr.sliceAt, run_underlying hund, Instr.sureAddr, hrun, run_sizeOfTy hTT hk, add_lit']
          · split
            · rename_i hq
              have : h' - l' = 0 := by omega
              rw [this] at g1 ⊢
              have : es = [] := List.eq_nil_of_length_eq_zero g1
              subst this
              exact .tr0 _ _
            · rw [Nat.add_assoc, ← g1]
              refine VR.trOf (k := k) (by omega) g2 (vs := (vs.drop (off + l' * k)).take ((h' - l') * k)) ?_ (FR.sub hf _ _)
              rw [g4]
              have hr : VRL K cs vs := ⟨hl', hv⟩
              exact (hr.drop _).take _
      · cases h
    · cases h
end Go.Ev
