/-
  Ev: append, copy, clear.
-/
import Derived.Test.YtainnmkcbmiboaaGreatDoorEvEff
import Derived.Deep.Upon
namespace Go.Ev
open Go
variable {P : Program} {K : Kr} {G : Info} {σ σ' : Store} {w : World}

theorem flat_str (s : List UInt8) : flat (s.map fun b => [AV.int .u8 b.toNat]) = s.map fun b => AV.int .u8 b.toNat := by
  induction s with
  | nil => rfl
  | cons x r ih => simp [flat, ih]
theorem src_sound (hTT : TTOk P G.tt) (hS : StoreRel P K σ w) {tx : TypeId} {j : TI} (hj : G.tt tx = some j) (hjd : (∃ e, j.d = .slice e) ∨ j.d = .str) {k n : Nat} {x : AV} {ux : Value} {new : List (List AV)} (hx : VR K x ux)
    (hn : lenOf x = some n) (he : elemsOf σ k n x = some new) (hs : sound k new = true) : ∃ us, VRL K (flat new) us ∧ Src P k tx ux n us w ∧ new.length = n := by
  obtain ⟨_, d, _, _, hT⟩ := hTT _ _ hj
  have hd := hT.hd
  have hkind : (∃ e', P.underlying tx = some (.slice e')) ∨ P.underlying tx = some .string := by
    rcases hjd with ⟨e, h⟩ | h
    · rw [h] at hd; cases td_slice hd; exact .inl ⟨e, hT.hund⟩
    · rw [h] at hd; cases td_str hd; exact .inr hT.hund
  by_cases hstr : ∃ s, x = .str s
  · obtain ⟨s, rfl⟩ := hstr
    obtain ⟨p, rfl, rfl⟩ := hx.str_inv
    simp only [lenOf, Option.some.injEq] at hn
    subst hn
    simp only [elemsOf, Nat.le_refl, if_true, List.take_length, Option.some.injEq] at he
    subst he
    have hsz : (byteCells p).length = p.data.toList.length := by simp [byteCells]
    refine ⟨byteCells p, ?_, ⟨hkind, fun _ => rfl, ?_, ?_, ?_, fun u hu => ?_⟩, by simp⟩
    · rw [flat_str]
      refine ⟨by simp [byteCells], fun j c v h1 h2 => ?_⟩
      simp only [byteCells, List.getElem?_map, Option.map_eq_some_iff] at h1 h2
      obtain ⟨b, hb, rfl⟩ := h1
      obtain ⟨b', hb', rfl⟩ := h2
      rw [hb] at hb'; cases hb'
      exact .int _ _
    · simp [Builtin.firstCells, byteCells]
      apply Array.ext'; simp
    · simp [Builtin.firstCells, byteCells]
      apply Array.ext'; simp
    · rw [hsz]
      cases hp : p.data.toList with
      | nil => simp
      | cons b r =>
        rw [hp] at hs
        simp only [sound, List.map_cons, List.all_cons, Bool.and_eq_true, List.length_singleton] at hs
        have := Nat.eq_of_beq_eq_true hs.1.1
        rw [← this]; simp
    · obtain ⟨_, _, rfl⟩ := List.mem_map.1 hu
      rfl
  · obtain ⟨base, len, cap, us, rfl, h1, h2, h3, h4, h5, h6, h7, h8⟩ := elems_sound hS hx he (fun s e => hstr ⟨s, e⟩) (sound_len hs)
    have := h3 n hn
    subst this
    have hone := h5.oneCells (sound_atoms hs)
    cases base with
    | none =>
      have : n = 0 := h7 rfl
      subst this
      have hu : us = [] := List.eq_nil_of_length_eq_zero (by simpa using h6)
      subst hu
      exact ⟨[], h5, ⟨hkind, fun _ => rfl, run_firstCells_none w k 0 0 cap, run_firstCells_none w.drew k 0 0 cap, by simp, fun _ h => by cases h⟩, h4⟩
    | some ad =>
      exact ⟨us, h5, ⟨hkind, fun _ => rfl, run_firstCells_some w k n ad n cap us h6 (h8 w rfl ad rfl), run_firstCells_some w.drew k n ad n cap us h6 (h8 w.drew rfl ad rfl), h6, hone⟩, h4⟩

/-- append where there is room: its cells are written. -/
theorem run_append_here {t tx ty e : TypeId} {i : TypeInfo} (ht : P.underlying t = some (.slice e)) (hi : P.info? e = some i) {a : Addr} {sLen sCap : Nat} {x : Value} {n : Nat} {news : List Value} {w' : World} (hs : Src P i.size tx x n news w)
    (hroom : sLen + n ≤ sCap) (hst : (storeCells (a.add (sLen * i.size)) news).run P w = .ok () w') :
    (Builtin.append_ #[t, tx] ty #[.slice (some a) sLen sCap, x]).run P w = .ok (.slice (some a) (sLen + n) sCap) w' := by
  rcases hs.kind with ⟨e', hk⟩ | hk <;> simp [Builtin.append_, run_underlying ht, run_underlying hk, sizeOf, typeInfo, hi, hs.len, hroom, hs.cells, hst]

theorem StoreRel.drew (hS : StoreRel P K σ w) : StoreRel P K σ w.drew :=
  ⟨fun o x L a b => ObjRel.keep (w := w) (.refl K) rfl (hS.objs o x L a b), hS.sep, hS.fresh, hS.got, hS.frz, hS.apart, hS.blk⟩
theorem grown_ge (w : World) (need old : Nat) (e : TypeId) : need ≤ grownCap w need old e := by
  simp only [grownCap, Question.cut]; omega

theorem append_sound (hTT : TTOk P G.tt) (hG : GlobRel G K) (hS : StoreRel P K σ w) {o : Nat} (hn : K.loc o = none) (ho : o < σ.next) (hg : σ.get o = none) {t tx ty e : TypeId} {it j : TI} (hit : G.tt t = some it) (hd : it.d = .slice e) (hj : G.tt tx = some j)
    (hjd : (∃ e, j.d = .slice e) ∨ j.d = .str) {s x v : AV} {us ux : Value} (hs : VR K s us) (hx : VR K x ux) (h : appendOf G σ o e s x = some (v, σ')) :
    Does P (· = o) K σ w (Builtin.append_ #[t, tx] ty #[us, ux]) v σ' := by
  obtain ⟨inf, d, z, zv, hT⟩ := hTT _ _ hit
  have hd' := hT.hd
  rw [hd] at hd'
  cases td_slice hd'
  have hut := hT.hund
  unfold appendOf at h
  split at h
  · cases h
  rename_i hone
  have hone : ¬ K.one e := by rw [hG.one]; exact hone
  split at h
  · rename_i i m n hi hm hn'
    obtain ⟨inf', d', z', zv', hT'⟩ := hTT _ _ hi
    split at h
    · cases h
    · rename_i new hnew
      split at h
      · cases h
      · rename_i hsnd
        have hsnd : sound i.size new = true := by simpa using hsnd
        obtain ⟨news, hr, hsrc, hnl⟩ := src_sound hTT hS hj hjd hx hn' hnew hsnd
        have hat := sound_atoms hsnd
        split at h
        · -- nothing
          rename_i h0
          subst h0
          have hns : ∀ q, s ≠ .str q := by rintro q rfl; cases h
          have hvs : v = s ∧ σ' = σ := by
            split at h
            · cases h
            · cases h; exact ⟨rfl, rfl⟩
          obtain ⟨rfl, rfl⟩ := hvs
          have hnn : news = [] := List.eq_nil_of_length_eq_zero (by simpa using hsrc.newsLen)
          subst hnn
          have hcase : ∃ base len cap, us = .slice base len cap ∧ len ≤ cap := by
            cases hs with
            | nils => exact ⟨_, _, _, rfl, Nat.le_refl _⟩
            | sl _ hl _ _ => exact ⟨_, _, _, rfl, hl⟩
            | sl0 => exact ⟨_, _, _, rfl, Nat.le_refl _⟩
            | tr b a esz cap vs hcap => exact ⟨_, _, _, rfl, hcap⟩
            | tr0 ad cap => exact ⟨_, _, _, rfl, Nat.zero_le _⟩
            | str p => exact absurd rfl (hns _)
            | _ => simp [lenOf] at hm
          obtain ⟨base, len, cap, rfl, hle⟩ := hcase
          exact ⟨_, w, K, run_append_nothing w t tx ty e inf' hut hT'.hinfo base len cap hle ux (by rw [hT'.hsize]; exact hsrc), hs, (Stp.refl hS)⟩
        · rename_i h0
          split at h
          · rename_i hsm
            simp only [Bool.and_eq_true, decide_eq_true_eq] at hsm
            obtain ⟨⟨hby, h63⟩, hk0⟩ := hsm
            have hsrc' : Src P inf'.size tx ux n news w := by rw [hT'.hsize]; exact hsrc
            have hnews : news.length = n * i.size := hsrc.newsLen
            have hzs : z'.cells.size = i.size := by have := (hT'.zeroRel (K := K)).1; rw [hT'.hlen] at this; simp at this; exact this.symm
            -- a new row
            have grow : ∀ (base : Option Addr) (sLen sCap : Nat) (olds : List AV) (uolds : List Value) (K0 : Kr) (σ0 : Store), StoreRel P K0 σ0 w → K0.one = K.one → K0.loc o = none → o < σ0.next → σ0.get o = none → VRL K0 olds uolds → allAtoms olds = true → VRL K0 (flat new) news →
                uolds.length = sLen * i.size → (∀ ad, base = some ad → ∀ (j : Nat) q, uolds[j]? = some q → w.cell? (ad.add j) = some q) → (base = none → sLen = 0) → sCap < sLen + n → sLen = m →
                Does P (· = o) K0 σ0 w (Builtin.append_ #[t, tx] ty #[.slice base sLen sCap, ux]) (.sl o 0 (sLen + n) none) (σ0.add o (.cells (olds ++ flat new) e false)) := by
              intro base sLen sCap olds uolds K0 σ0 hS0 hK0 hn0 ho0 hg0 hro hao hrn hlo hcell hbn hlt hsm
              have hold : (Builtin.firstCells inf'.size sLen (.slice base sLen sCap)).run P w.drew = .ok uolds.toArray w.drew := by
                rw [hT'.hsize]
                cases base with
                | none =>
                  have : sLen = 0 := hbn rfl
                  subst this
                  have : uolds = [] := List.eq_nil_of_length_eq_zero (by simpa using hlo)
                  subst this
                  exact run_firstCells_none w.drew i.size 0 0 sCap
                | some ad => exact run_firstCells_some w.drew i.size sLen ad sLen sCap uolds hlo (by simpa using hcell ad rfl)
              subst hsm
              have hneed : ((sLen + n : Nat) : Int) ≤ 9223372036854775807 := by omega
              have hfit : Builtin.nextslicecap (sLen + n) sCap * inf'.bytes ≤ 281474976710656 := growslice_fits hlt (by
                rw [hT'.hbytes]
                have : (sLen + n) * i.bytes ≤ (sLen + n) * 2 * i.bytes := Nat.mul_le_mul_right _ (by omega)
                omega)
              have hrun := run_append_grow_src (P := P) w t tx ty e inf' z' hut hT'.hinfo hT'.hzero base sLen sCap uolds hold ux n news hsrc' hlt hneed hfit
              have hge := grown_ge w (sLen + n) sCap e
              obtain ⟨K', g1, g2⟩ := newRow_slice (P := P) (cs := olds ++ flat new) (us := uolds ++ news) (e := e) (c := (uolds ++ news).toArray ++ Builtin.zeroCells z'.cells (grownCap w (sLen + n) sCap e - (sLen + n)))
                (len := sLen + n) (cap := grownCap w (sLen + n) sCap e) (k := i.size) (lim := none)
                (w' := w.drew.alloc (.cells ((uolds ++ news).toArray ++ Builtin.zeroCells z'.cells (grownCap w (sLen + n) sCap e - (sLen + n))) e)) hS0 hn0 ho0 hg0 (hro.append hrn)
                (allAtoms_of fun a ha => by
                  rcases List.mem_append.1 ha with ha | ha
                  · exact allAtoms_mem hao a ha
                  · exact allAtoms_mem hat a ha) rfl rfl rfl rfl (by simp) (fun e => absurd (hK0 ▸ e) hone) (fun j q hq => by
                    rw [Array.getElem?_append_left (by simp; have := (List.getElem?_eq_some_iff.1 hq).1; simpa using this)]
                    simpa using hq) hT'.cellsOf (by
                      simp only [Array.size_append, List.size_toArray, List.length_append, hlo, hnews, Builtin.zeroCells, Array.size_map, Array.size_range, hzs]
                      rw [← Nat.add_mul, ← Nat.add_mul]
                      congr 1; omega) hge (fun _ e => by cases e)
              exact ⟨_, _, K', hrun, g1, g2⟩
            split at h
            · -- nil
              cases h
              cases hs
              simp only [lenOf, Option.some.injEq] at hm
              subst hm
              have := grow none 0 0 [] [] K σ hS rfl hn ho hg .nil rfl hr (by simp) (fun _ e => by cases e) (fun _ => rfl) (by omega) rfl
              simpa using this
            · rename_i s o' off len lim
              simp only [lenOf, Option.some.injEq] at hm
              subst hm
              split at h
              · rename_i cs ty' imm hgo
                split at h
                · cases h
                · rename_i hty
                  have hty : ty' = e := by simpa using hty
                  subst hty
                  -- in place
                  have here : ∀ (L : Loc) (C : Nat) (cs' : List AV) (lim' : Option Nat), imm = false → K.loc o' = some L → us = .slice (some ⟨L.blk, L.fst + off, none⟩) len C → len + n ≤ C → (∀ q, lim' = some q → C = q) → (lim' = none → off + C * L.esz = L.cap) →
                      splice cs (off + len * i.size) (flat new) = some cs' →
                      Does P (· = o) K σ w (Builtin.append_ #[t, tx] ty #[us, ux]) (.sl o' off (len + n) lim') (σ.set o' (.cells cs' ty' false)) := by
                    rintro L C cs' lim' rfl hL rfl hroom hl1 hl2 hsp
                    obtain ⟨w', hst, hstp⟩ := write_cells hS hgo hL hsp hr hat
                    refine ⟨_, w', K, run_append_here hut hT'.hinfo hsrc' hroom (by rw [add_lit', hT'.hsize, Nat.add_assoc]; exact hst), .sl hL hroom hl1 hl2, hstp.weaken fun _ _ h => h.elim⟩
                  split at h
                  · rename_i c
                    split at h
                    · rename_i hroom
                      split at h
                      · cases h
                      · rename_i himm
                        simp only [Option.map_eq_some_iff] at h
                        obtain ⟨cs', hsp, he⟩ := h
                        cases he
                        cases hs with
                        | sl hL hl hlim hno =>
                          rename_i L C
                          have := hlim c rfl
                          subst this
                          exact here L C cs' (some C) (by simpa using himm) hL rfl hroom (fun q e => Option.some.inj e) (fun e => by cases e) hsp
                        | sl0 ad hlim hno =>
                          have := hlim c rfl
                          omega
                    · rename_i hroom
                      simp only [Option.map_eq_some_iff] at h
                      obtain ⟨old, hold, he⟩ := h
                      cases he
                      cases hs with
                      | sl hL hl hlim hno =>
                        rename_i L C
                        have := hlim c rfl
                        subst this
                        obtain ⟨cc, fr, vs, hc⟩ := hS.objs o' _ L hgo hL
                        obtain ⟨p1, p2, p3⟩ := hc.vals.part hold
                        refine grow (some ⟨L.blk, L.fst + off, none⟩) len C old _ K σ hS rfl hn ho hg p1 (allAtoms_of fun a ha => ?_) hr (by rw [← p1.1, p2]) (fun ad e j q hq => ?_) (fun e => by cases e) (by omega) rfl
                        · obtain ⟨rfl, _, _⟩ := part_spec hold
                          exact allAtoms_mem hc.atoms a (List.mem_of_mem_drop (List.mem_of_mem_take ha))
                        · cases e
                          rw [add_lit', cell_heap hc.heap, Nat.add_assoc]
                          exact hc.cell _ q (p3 j q hq)
                      | sl0 ad hlim hno =>
                        have := hlim c rfl
                        subst this
                        have : old = [] := by
                          obtain ⟨rfl, _, _⟩ := part_spec hold
                          simp
                        subst this
                        exact grow (some ad) 0 0 [] [] K σ hS rfl hn ho hg .nil rfl hr (by simp) (fun _ _ j q hq => by simp at hq) (fun e => by cases e) (by omega) rfl
                  · split at h
                    · cases h
                    · rename_i himm
                      have himm : imm = false := by simpa using himm
                      subst himm
                      split at h
                      · rename_i hroom
                        simp only [Option.map_eq_some_iff] at h
                        obtain ⟨cs', hsp, he⟩ := h
                        cases he
                        cases hs with
                        | sl hL hl hlim hno =>
                          rename_i L C
                          obtain ⟨cc, fr, vs, hc⟩ := hS.objs o' _ L hgo hL
                          have he := hc.esz
                          rw [hT'.cellsOf] at he
                          have hcap := hno rfl
                          have hlen := hc.len
                          refine here L C cs' none rfl hL rfl ?_ (fun q e => by cases e) (fun _ => hcap) hsp
                          rw [← he] at hcap
                          exact Nat.le_of_mul_le_mul_right (by omega : (len + n) * i.size ≤ C * i.size) hk0
                        | sl0 ad hlim hno =>
                          obtain ⟨L, hL, hcap⟩ := hno rfl
                          obtain ⟨cc, fr, vs, hc⟩ := hS.objs o' _ L hgo hL
                          have hlen := hc.len
                          have : 0 < (0 + n) * i.size := Nat.mul_pos (by omega) hk0
                          omega
                      · split at h
                        · rename_i hend
                          have hend := Nat.eq_of_beq_eq_true hend
                          cases h
                          have hne : o' ≠ o := fun e => by rw [e, hg] at hgo; cases hgo
                          -- the old object is let go; a new row
                          have hkill : ∀ L, K.loc o' = some L → Stp P (fun _ => False) K σ w K (σ.kill o') w := fun L hL => .drop hS (Nat.le_refl _) (fun p q e => by
                            rw [Store.get_kill] at e
                            split at e
                            · cases e
                            · exact e)
                          have big : ∀ (L : Loc) (base : Option Addr) (C : Nat) (uolds : List Value), K.loc o' = some L → us = .slice base len C → VRL K (cs.drop off) uolds → allAtoms cs = true → uolds.length = len * i.size →
                              (∀ ad, base = some ad → ∀ (j : Nat) q, uolds[j]? = some q → w.cell? (ad.add j) = some q) → (base = none → len = 0) → C < len + n →
                              Does P (· = o) K σ w (Builtin.append_ #[t, tx] ty #[us, ux]) (.sl o 0 (len + n) none) ((σ.kill o').add o (.cells (cs.drop off ++ flat new) ty' false)) := by
                            rintro L base C uolds hL rfl h1 h2 h3 h4 h5 h6
                            have hk := hkill L hL
                            obtain ⟨u, w', K', r1, r2, r3⟩ := grow base len C (cs.drop off) uolds K (σ.kill o') hk.rel rfl hn ho (by rw [Store.get_kill, if_neg hne]; exact hg) h1 (allAtoms_of fun a ha => allAtoms_mem h2 a (List.mem_of_mem_drop ha)) hr h3 h4 h5 h6 rfl
                            exact ⟨u, w', K', r1, r2, (hk.trans r3).weaken fun p _ h => h.elim False.elim id⟩
                          cases hs with
                          | sl hL hl hlim hno =>
                            rename_i L C
                            obtain ⟨cc, fr, vs, hc⟩ := hS.objs o' _ L hgo hL
                            have hcap := hno rfl
                            have he := hc.esz
                            rw [hT'.cellsOf] at he
                            have hfr := hc.free rfl
                            subst hfr
                            have hlen := hc.len
                            have hfit := hc.fits
                            by_cases hroom : len + n ≤ C
                            · -- in place, under the new number
                              have hw0 : (len + n) * i.size ≤ C * i.size := Nat.mul_le_mul_right _ hroom
                              rw [Nat.add_mul] at hw0
                              rw [← he] at hcap
                              have hst := run_storeCells_at P L.blk (L.fst + off + len * i.size) ty' news 0 cc w hc.heap (by rw [hnews]; omega) hsrc.one
                              simp only [Nat.add_zero] at hst
                              refine ⟨_, _, K.put o ⟨L.blk, L.fst + off, L.cap - off, L.esz⟩, run_append_here hut hT'.hinfo hsrc' hroom (by rw [add_lit', hT'.hsize]; exact hst), ?_, ?_⟩
                              · have := VR.sl (K := K.put o ⟨L.blk, L.fst + off, L.cap - off, L.esz⟩) (o := o) (off := 0) (len := len + n) (lim := none) (cap := C) (L := ⟨L.blk, L.fst + off, L.cap - off, L.esz⟩) (Kr.put_same _ _ _) hroom (fun _ e => by cases e) (fun _ => by simp only; rw [← he]; omega)
                                simpa using this
                              · refine .move hS hgo rfl hL hn ho hg rfl (by simp) (fun b hb => setRow_other w _ b _ hb) rfl rfl rfl ⟨_, (0, 0), vs.drop off ++ news, ⟨setRow_heap w _ _ _ _ _ hc.heap, ?_, (fun e => absurd e hone), ?_, ?_, ?_, fun _ => rfl, (fun e => by cases e), ?_, ?_⟩⟩
                                · simp; omega
                                · have := hr.1
                                  simp; omega
                                · exact ((hc.vals.drop off).append hr).mono (Kr.put_le _ hn)
                                · intro j q hq
                                  have hvl : vs.length = cs.length := hc.vals.1.symm
                                  have hdl : (vs.drop off).length = len * i.size := by simp; omega
                                  simp only [List.getElem?_toArray, List.append_assoc]
                                  have hl2 : (cc.toList.take (L.fst + off + len * i.size)).length = L.fst + off + len * i.size := by simp; omega
                                  rw [List.getElem?_append] at hq ⊢
                                  rw [hdl] at hq
                                  rw [hl2]
                                  by_cases hj : j < len * i.size
                                  · rw [if_pos hj] at hq
                                    rw [if_pos (by omega), List.getElem?_take, if_pos (by omega)]
                                    simp only [List.getElem?_drop] at hq
                                    have := hc.cell _ q hq
                                    rw [← Nat.add_assoc] at this
                                    simpa using this
                                  · rw [if_neg hj] at hq
                                    have hjn := (List.getElem?_eq_some_iff.1 hq).1
                                    rw [if_neg (by omega), show L.fst + off + j - (L.fst + off + len * i.size) = j - len * i.size by omega, List.getElem?_append, if_pos hjn]
                                    exact hq
                                · exact allAtoms_of fun a ha => by
                                    rcases List.mem_append.1 ha with ha | ha
                                    · exact allAtoms_mem hc.atoms a (List.mem_of_mem_drop ha)
                                    · exact allAtoms_mem hat a ha
                                · exact hc.esz
                            · refine big L (some ⟨L.blk, L.fst + off, none⟩) C (vs.drop off) hL rfl (hc.vals.drop off) hc.atoms ?_ (fun ad e j q hq => ?_) (fun e => by cases e) (by omega)
                              · have hvl : vs.length = cs.length := hc.vals.1.symm
                                simp; omega
                              · cases e
                                rw [add_lit', cell_heap hc.heap, Nat.add_assoc]
                                simp only [List.getElem?_drop] at hq
                                exact hc.cell _ q hq
                          | sl0 ad hlim hno =>
                            obtain ⟨L, hL, hcap⟩ := hno rfl
                            obtain ⟨cc, fr, vs, hc⟩ := hS.objs o' _ L hgo hL
                            have hdrop : cs.drop off = [] := List.drop_eq_nil_of_le (by omega)
                            exact big L (some ad) 0 [] hL rfl (by rw [hdrop]; exact .nil) hc.atoms (by simp) (fun _ _ j q hq => by simp at hq) (fun e => by cases e) (by omega)
                        · cases h
              · cases h
            · cases h
          · cases h
  · cases h
end Go.Ev
