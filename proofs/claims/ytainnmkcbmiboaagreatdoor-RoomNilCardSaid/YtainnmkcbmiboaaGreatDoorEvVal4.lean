/-
  Ev: a slice's elements; conversions; values put together.
-/
import Derived.Test.YtainnmkcbmiboaaGreatDoorEvVal3
namespace Go.Ev
open Go
variable {P : Program} {K : Kr} {G : Info} {σ : Store} {w : World}

theorem cell_same {w' : World} (h : w'.heap = w.heap) (b j : Nat) : w'.cell? ⟨b, j, none⟩ = w.cell? ⟨b, j, none⟩ := by simp [World.cell?, h]
theorem sound_len {k : Nat} {es : List (List AV)} (h : sound k es = true) : ∀ e ∈ es, e.length = k := fun e he => by
  have := List.all_eq_true.1 h e he
  simp only [Bool.and_eq_true] at this
  exact Nat.eq_of_beq_eq_true this.1
theorem sound_atoms {k : Nat} : ∀ {es : List (List AV)}, sound k es = true → allAtoms (flat es) = true
  | [], _ => rfl
  | e :: r, h => by
    simp only [sound, List.all_cons, Bool.and_eq_true] at h
    refine allAtoms_of fun a ha => ?_
    simp only [flat, List.mem_append] at ha
    rcases ha with ha | ha
    · exact allAtoms_mem h.1.2 a ha
    · exact allAtoms_mem (sound_atoms (k := k) (by simpa [sound] using h.2)) a ha
theorem flat_take_le {es : List (List AV)} {k n : Nat} (h : ∀ e ∈ es.take n, e.length = k) (hn : n ≤ es.length) : flat (es.take n) = (flat es).take (n * k) := by
  have h1 : flat es = flat (es.take n) ++ flat (es.drop n) := by rw [← flat_append, List.take_append_drop]
  have h2 : (flat (es.take n)).length = n * k := by rw [flat_length h]; simp [Nat.min_eq_left hn]
  rw [h1, List.take_append, h2, Nat.sub_self, show (flat (es.take n)).take (n * k) = flat (es.take n) from List.take_of_length_le (by omega)]
  simp

/-- What a slice's first elements are, in any world of the same heap. -/
theorem elems_sound (hS : StoreRel P K σ w) {k n : Nat} {a : AV} {u : Value} {es : List (List AV)} (ha : VR K a u) (h : elemsOf σ k n a = some es) (hstr : ∀ s, a ≠ .str s) (hlen : ∀ e ∈ es, e.length = k) :
    ∃ base len cap us, u = .slice base len cap ∧ n ≤ len ∧ len ≤ cap ∧ (∀ m, lenOf a = some m → m = len) ∧ es.length = n ∧ VRL K (flat es) us ∧ us.length = n * k ∧ (base = none → n = 0) ∧
      ∀ w' : World, w'.heap = w.heap → ∀ ad, base = some ad → ∀ (j : Nat) v, us[j]? = some v → w'.cell? (ad.add j) = some v := by
  unfold elemsOf at h
  split at h
  · split at h
    · rename_i hn
      cases h
      cases ha
      exact ⟨none, 0, 0, [], rfl, by omega, Nat.le_refl _, fun m e => (by simp [lenOf] at e; exact e.symm), by simp [hn], .nil, by simp [hn], fun _ => hn, fun _ _ ad e => by cases e⟩
    · cases h
  · rename_i o off len lim
    split at h
    · rename_i hn
      split at h
      · rename_i cs ty imm hg
        obtain ⟨h1, h2, h3, h4⟩ := chunks_spec h
        cases ha with
        | sl hL hl hlim hno =>
          rename_i L C
          obtain ⟨c, fr, vs, hc⟩ := hS.objs o _ L hg hL
          have hr : VRL K (flat es) ((vs.drop off).take (n * k)) := by rw [h4]; exact (hc.vals.drop _).take _
          refine ⟨some ⟨L.blk, L.fst + off, none⟩, len, C, (vs.drop off).take (n * k), rfl, hn, hl, fun m e => (by simp [lenOf] at e; exact e.symm), h1, hr, ?_, (fun e => by cases e), ?_⟩
          · rw [← hr.1, flat_length h2, h1]
          · intro w' hw ad e j v hv
            cases e
            rw [add_lit', cell_same hw, cell_heap hc.heap, Nat.add_assoc]
            rw [List.getElem?_take] at hv
            split at hv
            · simp only [List.getElem?_drop] at hv; exact hc.cell _ v hv
            · cases hv
        | sl0 ad hlim hno =>
          have : n = 0 := by omega
          subst this
          have : es = [] := List.eq_nil_of_length_eq_zero h1
          subst this
          exact ⟨some ad, 0, 0, [], rfl, by omega, Nat.le_refl _, fun m e => (by simp [lenOf] at e; exact e.symm), rfl, .nil, by simp, (fun e => by cases e), fun _ _ _ _ j v hv => by simp at hv⟩
      · cases h
    · cases h
  · rename_i es'
    split at h
    · rename_i hn
      cases h
      cases ha with
      | tr b a esz cap vs hcap he hl hf hv =>
        have hr : VRL K (flat es') vs := ⟨hl, hv⟩
        have hr' : VRL K (flat (es'.take n)) (vs.take (n * k)) := by rw [flat_take_le hlen hn]; exact hr.take _
        refine ⟨some ⟨b, a, none⟩, es'.length, cap, vs.take (n * k), rfl, hn, hcap, fun m e => (by simp [lenOf] at e; exact e.symm), by simp [Nat.min_eq_left hn], hr', ?_, (fun e => by cases e), ?_⟩
        · rw [← hr'.1, flat_length hlen]; simp [Nat.min_eq_left hn]
        · intro w' hw ad e j v hv'
          cases e
          rw [add_lit', cell_same hw]
          rw [List.getElem?_take] at hv'
          split at hv'
          · exact frz_cell hS (hf _ v hv')
          · cases hv'
      | tr0 ad cap =>
        have : n = 0 := by simpa using hn
        subst this
        exact ⟨some ad, 0, cap, [], rfl, by omega, Nat.zero_le _, fun m e => (by simp [lenOf] at e; exact e.symm), rfl, .nil, by simp, (fun e => by cases e), fun _ _ _ _ j v hv => by simp at hv⟩
    · cases h
  · rename_i s
    exact absurd rfl (hstr s)
  · cases h

/-! ### Conversions -/
theorem conv_sound (hTT : TTOk P G.tt) (hS : StoreRel P K σ w) {s t : TypeId} {a v : AV} {u : Value} (ha : VR K a u) (h : conv G σ s t a = some v) :
    ∃ u', (convert s t u).run P w = .ok u' w ∧ VR K v u' := by
  unfold conv at h
  split at h
  · rename_i i j hi hj
    obtain ⟨_, d, _, _, hT⟩ := hTT _ _ hi
    obtain ⟨_, d', _, _, hT'⟩ := hTT _ _ hj
    have hu := hT.hund
    have hu' := hT'.hund
    have hd := hT.hd
    have hd' := hT'.hd
    split at h
    · rename_i k k' n ei ej
      rw [ei] at hd; rw [ej] at hd'
      cases td_int hd; cases td_int hd'
      cases h; rw [ha.int_inv]
      exact ⟨_, by simp [convert, run_underlying hu, run_underlying hu', Conv.intToInt], .int _ _⟩
    · rename_i k' n ei ej
      rw [ei] at hd; rw [ej] at hd'
      cases td_int hd; cases td_str hd'
      cases h; rw [ha.int_inv]
      exact ⟨_, by simp [convert, run_underlying hu, run_underlying hu', Conv.intToString], .str _⟩
    · rename_i x ei ej
      rw [ei] at hd; rw [ej] at hd'
      cases td_str hd; cases td_str hd'
      cases h
      obtain ⟨p, rfl, rfl⟩ := ha.str_inv
      exact ⟨_, by simp [convert, run_underlying hu, run_underlying hu'], .str _⟩
    · rename_i e ei ej
      rw [ei] at hd; rw [ej] at hd'
      cases td_slice hd; cases td_str hd'
      split at h
      · rename_i _ _ _ _ n he hn
        obtain ⟨_, d'', _, _, hTe⟩ := hTT _ _ he
        have hde := hTe.hd
        cases td_int hde
        have hue := hTe.hund
        split at h
        · cases h
        · rename_i hns
          split at h
          · rename_i es hes
            split at h
            · rename_i hsnd
              simp only [Option.map_eq_some_iff] at h
              obtain ⟨bs, hbs, rfl⟩ := h
              obtain ⟨ns, rfl, rfl⟩ := bytesOfCells_spec hbs
              obtain ⟨base, len, cap, us, rfl, h1, h2, h3, h4, h5, h6, h7, h8⟩ := elems_sound hS ha hes (fun s e => hns s e) (sound_len hsnd)
              have hlen := h3 n hn
              subst hlen
              have hfl : flat (ns.map fun n => [AV.int .u8 n]) = ns.map (AV.int .u8) := by
                clear h1 h2 h3 h4 h5 h6 h8 hbs hsnd hes
                induction ns with
                | nil => rfl
                | cons x r ih => simp [flat, ih]
              rw [hfl] at h5
              have hus : us = ns.map (Value.int .u8) := by
                apply List.ext_getElem?
                intro j
                by_cases hj : j < ns.length
                · have e1 : (ns.map (AV.int .u8))[j]? = some (.int .u8 ns[j]) := by simp [hj]
                  obtain ⟨v, hv, hvr⟩ := h5.get e1
                  rw [hv, hvr.int_inv]; simp [hj]
                · have hl := h5.1
                  simp at hl
                  rw [List.getElem?_eq_none (by omega), List.getElem?_eq_none (by simp; omega)]
              subst hus
              cases base with
              | none =>
                have : n = 0 := h7 rfl
                subst this
                have : ns = [] := by simpa using h4
                subst this
                refine ⟨.string .empty, ?_, ?_⟩
                · rw [run_convert_bytes_string w s t e none 0 cap hu hue hu']; simp [Conv.bytesToString]
                · exact VR.str (K := K) .empty
              | some ad =>
                have hload := run_loadCells_list (P := P) w ad (ns.map (Value.int .u8)) (h8 w rfl ad rfl)
                have hnl : ns.length = n := by simpa using h4
                simp only [List.length_map, hnl] at hload
                refine ⟨_, (run_convert_bytes_string w s t e (some ad) n cap hu hue hu').trans (run_bytesToString w ad n cap ns hload), ?_⟩
                rw [foldl_push]
                have := VR.str (K := K) ⟨(ByteArray.empty.data ++ (ns.map fun n => UInt8.ofNat n.toNat).toArray)⟩
                have he0 : ByteArray.empty.data = #[] := rfl
                simpa [he0] using this
            · cases h
          · cases h
      · cases h
    · cases h
  · cases h
end Go.Ev
