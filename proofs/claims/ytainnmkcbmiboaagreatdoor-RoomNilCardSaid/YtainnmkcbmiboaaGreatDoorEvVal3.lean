/-
  Ev: places and parts of values.
-/
import Derived.Test.YtainnmkcbmiboaaGreatDoorEvVal2
namespace Go.Ev
open Go
variable {P : Program} {K : Kr} {G : Info} {σ : Store} {w : World}

/-! ### A part of a struct, of an array -/
section part
variable {t : TypeId} {i : TI} {inf : TypeInfo} {d : TypeDesc} {z : Value} {zv : AV}
theorem part_sound (hT : TyOk P t i inf d z zv) {cs : List AV} {us : List Value} {off : Nat} {v : AV} (hr : VRL K cs us) (h : (part cs off i.size).bind i.val = some v) :
    ∃ u, (Go.part t ⟨us⟩ off).run P w = .ok u w ∧ VR K v u := by
  obtain ⟨l, hl, hv⟩ := Option.bind_eq_some_iff.1 h
  obtain ⟨h1, h2, h3⟩ := hr.part hl
  rcases TI.val_spec hv with ⟨ha, rfl⟩ | ⟨ha, rfl⟩
  · refine ⟨.agg ⟨(us.drop off).take i.size⟩, ?_, VR.agg' h1⟩
    simp [Go.part, hT.run_isAgg, ha, hT.run_size]
  · obtain ⟨u, r, hur, hu, _⟩ := h1.inv_cons
    have := h3 0 u (by rw [hur]; rfl)
    refine ⟨u, ?_, hu⟩
    simp only [Nat.add_zero] at this
    simp [Go.part, hT.run_isAgg, ha, this]
end part

theorem fieldOf_spec (hTT : TTOk P G.tt) {t : TypeId} {f off : Nat} {ft : TypeId} {i : TI} (h : fieldOf G t f = some (off, ft, i)) :
    ∃ gs : Array Field, P.underlying t = some (.struct gs) ∧ (∃ g, gs[f]? = some g ∧ g.offset = off ∧ g.type = ft) ∧ G.tt ft = some i := by
  unfold fieldOf at h
  split at h
  · rename_i fs _ _ _ _ hi
    obtain ⟨inf, d, z, zv, hT⟩ := hTT t _ hi
    obtain ⟨gs, rfl, hfs⟩ := td_struct hT.hd
    split at h
    · rename_i off' ft' hf
      simp only [Option.map_eq_some_iff] at h
      obtain ⟨j, hj, e⟩ := h
      cases e
      refine ⟨gs, hT.hund, ?_, hj⟩
      rw [hfs, List.getElem?_map, Option.map_eq_some_iff] at hf
      obtain ⟨g, hg, e⟩ := hf
      cases e
      exact ⟨g, by simpa using hg, rfl, rfl⟩
    · cases h
  · cases h
theorem field_sound (hTT : TTOk P G.tt) {t : TypeId} {a v : AV} {ua : Value} {f : Nat} (ha : VR K a ua) (h : fieldVal G t a f = some v) : ∃ u, (Instr.field t ua f).run P w = .ok u w ∧ VR K v u := by
  unfold fieldVal at h
  split at h
  · rename_i off ft i cs hf
    obtain ⟨gs, hund, ⟨g, hg, rfl, rfl⟩, hi⟩ := fieldOf_spec hTT hf
    obtain ⟨inf, d, z, zv, hT⟩ := hTT _ _ hi
    cases ha with
    | agg hl hv =>
      obtain ⟨u, hu, hvu⟩ := part_sound (P := P) (w := w) hT ⟨hl, hv⟩ h
      exact ⟨u, by simp [Instr.field, run_underlying hund, hg, asAgg, hu], hvu⟩
  · cases h
theorem fieldAddr_sound (hTT : TTOk P G.tt) {t : TypeId} {a v : AV} {ua : Value} {f : Nat} (ha : VR K a ua) (h : fieldAddrOf G t a f = some v) : ∃ u, (Instr.fieldAt t ua f).run P w = .ok u w ∧ VR K v u := by
  unfold fieldAddrOf at h
  split at h
  · rename_i off ft i hf
    obtain ⟨gs, hund, ⟨g, hg, rfl, rfl⟩, hi⟩ := fieldOf_spec hTT hf
    obtain ⟨inf, d, z, zv, hT⟩ := hTT _ _ hi
    split at h
    · cases h
    · rename_i hsz
      split at h
      · cases h
        cases ha with
        | ptr hL =>
          exact ⟨_, by simp [Instr.fieldAt, run_underlying hund, hg, Instr.sureAddr, fieldPlace, hT.run_size, hsz, add_lit']; rfl, by rw [Nat.add_assoc]; exact .ptr hL⟩
      · cases h
        cases ha with
        | cptr _ b a vs hl hf hv =>
          exact ⟨_, by simp [Instr.fieldAt, run_underlying hund, hg, Instr.sureAddr, fieldPlace, hT.run_size, hsz, add_lit']; rfl, by rw [Nat.add_assoc]; exact .cptr _ b a vs hl hf hv⟩
      · cases h
  · cases h

theorem VR.nat_inv {a : AV} {u : Value} {n : Nat} (h : VR K a u) (hn : natOf a = some n) : ∃ k, u = .int k n := by
  obtain ⟨k, rfl⟩ := natOf_spec hn
  exact ⟨k, h.int_inv⟩
theorem sizeOfTy_inv {t : TypeId} {k : Nat} (h : sizeOfTy G t = some k) : ∃ i, G.tt t = some i ∧ i.size = k := by
  unfold sizeOfTy at h
  simpa using h

theorem indexAddr_sound (hTT : TTOk P G.tt) {t : TypeId} {a b v : AV} {ua ub : Value} (ha : VR K a ua) (hb : VR K b ub) (h : indexAddrOf G t a b = some v) :
    ∃ u, (Instr.indexAt t ua ub).run P w = .ok u w ∧ VR K v u := by
  unfold indexAddrOf at h
  split at h
  · rename_i n i hn hi
    obtain ⟨inf, d, z, zv, hT⟩ := hTT _ _ hi
    have hund := hT.hund
    have hd := hT.hd
    obtain ⟨kk, rfl⟩ := hb.nat_inv hn
    split at h
    · rename_i len e o off ei
      rw [ei] at hd; cases td_arr hd
      split at h
      · rename_i k hk
        split at h
        · rename_i hlt
          cases h
          cases ha with
          | ptr hL =>
            have : (n : Int) < (len : Int) := by omega
            exact ⟨_, by simp [Instr.indexAt, asIntOf, run_underlying hund, Instr.sureAddr, hlt, run_sizeOfTy hTT hk, add_lit']; rfl, by rw [Nat.add_assoc]; exact .ptr hL⟩
        · cases h
      · cases h
    · rename_i len e cs off ei
      rw [ei] at hd; cases td_arr hd
      split at h
      · rename_i k hk
        split at h
        · rename_i hlt
          cases h
          cases ha with
          | cptr _ b a vs hl hf hv =>
            have : (n : Int) < (len : Int) := by omega
            exact ⟨_, by simp [Instr.indexAt, asIntOf, run_underlying hund, Instr.sureAddr, hlt, run_sizeOfTy hTT hk, add_lit']; rfl, by rw [Nat.add_assoc]; exact .cptr _ b a vs hl hf hv⟩
        · cases h
      · cases h
    · rename_i e o off len lim ei
      rw [ei] at hd; cases td_slice hd
      split at h
      · rename_i k hk
        split at h
        · rename_i hlt
          cases h
          have : (n : Int) < (len : Int) := by omega
          cases ha with
          | sl hL hl h1 h2 =>
            exact ⟨_, by simp [Instr.indexAt, asIntOf, run_underlying hund, Instr.sureAddr, hlt, run_sizeOfTy hTT hk, add_lit']; rfl, by rw [Nat.add_assoc]; exact .ptr hL⟩
          | sl0 ad hl _ => omega
        · cases h
      · cases h
    · rename_i e es ei
      rw [ei] at hd; cases td_slice hd
      split at h
      · rename_i k cs hk hcs
        split at h
        · rename_i hall
          cases h
          have hall := all_len hall
          have hlt : n < es.length := (List.getElem?_eq_some_iff.1 hcs).1
          have : (n : Int) < (es.length : Int) := by omega
          cases ha with
          | tr b a esz cap vs hcap he hl hf hv =>
            refine ⟨.pointer (some ⟨b, a + n * k, none⟩), by simp [Instr.indexAt, asIntOf, run_underlying hund, Instr.sureAddr, hlt, run_sizeOfTy hTT hk, add_lit'], ?_⟩
            have hr : VRL K (flat es) vs := ⟨hl, hv⟩
            have hsub : VRL K cs ((vs.drop (n * k)).take k) := by
              rw [← flat_at hall hcs]
              exact (hr.drop _).take _
            exact .cptr 0 b (a + n * k) _ hsub.1 (FR.sub hf _ _) hsub.2
          | tr0 ad cap => simp at hlt
        · cases h
      · cases h
    · cases h
  · cases h

theorem index_sound (hTT : TTOk P G.tt) {t : TypeId} {a b v : AV} {ua ub : Value} (ha : VR K a ua) (hb : VR K b ub) (h : indexOf G t a b = some v) :
    ∃ u, (Instr.index t ua ub).run P w = .ok u w ∧ VR K v u := by
  unfold indexOf at h
  split at h
  · rename_i n i hn hi
    obtain ⟨inf, d, z, zv, hT⟩ := hTT _ _ hi
    have hund := hT.hund
    have hd := hT.hd
    obtain ⟨kk, rfl⟩ := hb.nat_inv hn
    split at h
    · rename_i len e cs ei
      rw [ei] at hd; cases td_arr hd
      split at h
      · rename_i j hj
        obtain ⟨inf', d', z', zv', hT'⟩ := hTT _ _ hj
        split at h
        · rename_i hlt
          cases ha with
          | agg hl hv =>
            obtain ⟨u, hu, hvu⟩ := part_sound (P := P) (w := w) hT' ⟨hl, hv⟩ h
            have : (n : Int) < (len : Int) := by omega
            exact ⟨u, by simp [Instr.index, asIntOf, run_underlying hund, hlt, hT'.run_size, hu], hvu⟩
        · cases h
      · cases h
    · rename_i s ei
      rw [ei] at hd; cases td_str hd
      split at h
      · rename_i b hb'
        cases h
        obtain ⟨p, rfl, rfl⟩ := ha.str_inv
        refine ⟨.int .u8 b.toNat, ?_, .int _ _⟩
        have : p[n]? = some b := by
          obtain ⟨hlt, e⟩ := List.getElem?_eq_some_iff.1 hb'
          have hlt' : n < p.size := hlt
          rw [getElem?_pos p n hlt', ← e]
          rfl
        simp [Instr.index, asIntOf, run_underlying hund, this]
      · cases h
    · cases h
  · cases h

theorem extract_sound {cs : List AV} {v : AV} {u : Value} {ix : Nat} (ha : VR K (.tup cs) u) (h : cs[ix]? = some v) : ∃ u', (Instr.extract u ix).run P w = .ok u' w ∧ VR K v u' := by
  cases ha with
  | tup hl hv =>
    obtain ⟨u', hu, hv'⟩ := VRL.get (K := K) ⟨hl, hv⟩ h
    exact ⟨u', by simp [Instr.extract, hu], hv'⟩

/-! ### Conversions -/
theorem bytesOfCells_spec : ∀ {es : List (List AV)} {s : List UInt8}, bytesOfCells es = some s → ∃ ns : List Int, es = ns.map (fun n => [AV.int .u8 n]) ∧ s = ns.map fun n => UInt8.ofNat n.toNat
  | [], s, h => by simp [bytesOfCells] at h; subst h; exact ⟨[], rfl, rfl⟩
  | [.int .u8 n] :: r, s, h => by
    simp only [bytesOfCells, Option.map_eq_some_iff] at h
    obtain ⟨s', hs, rfl⟩ := h
    obtain ⟨ns, h1, h2⟩ := bytesOfCells_spec hs
    exact ⟨n :: ns, by simp [h1], by simp [h2]⟩
  | e :: r, s, h => by
    by_cases he : ∃ n, e = [.int .u8 n]
    · obtain ⟨n, rfl⟩ := he
      simp only [bytesOfCells, Option.map_eq_some_iff] at h
      obtain ⟨s', hs, rfl⟩ := h
      obtain ⟨ns, h1, h2⟩ := bytesOfCells_spec hs
      exact ⟨n :: ns, by simp [h1], by simp [h2]⟩
    · rw [bytesOfCells.eq_3] at h
      · cases h
      · intro h'; cases h'
      · intro n r' h'; cases h'; exact he ⟨n, rfl⟩
theorem foldl_push : ∀ (ns : List Int) (r : ByteArray), ns.foldl (fun r n => r.push (UInt8.ofNat n.toNat)) r = ⟨r.data ++ (ns.map fun n => UInt8.ofNat n.toNat).toArray⟩
  | [], r => by simp
  | b :: l, r => by
    simp only [List.foldl_cons]
    rw [foldl_push l]
    simp [ByteArray.push]

end Go.Ev
