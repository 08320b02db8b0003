/-
  Ev: values put together; type assertions; lengths.
-/
import Derived.Test.YtainnmkcbmiboaaGreatDoorEvVal4
import Derived.Laws.MakeOwn
import Derived.Great.BuildSlice
namespace Go.Ev
open Go
variable {P : Program} {K : Kr} {G : Info} {σ : Store} {w : World}

theorem splice_get {cs news cs' : List AV} {off : Nat} (h : splice cs off news = some cs') (hle : off + news.length ≤ cs.length) (j : Nat) :
    cs'[j]? = if off ≤ j ∧ j < off + news.length then news[j - off]? else cs[j]? := by
  obtain ⟨rfl, _⟩ := splice_spec h
  have hl : (cs.take off).length = off := by simp; omega
  rw [List.append_assoc, List.getElem?_append, hl]
  by_cases h1 : j < off
  · rw [if_pos h1, if_neg (by omega), List.getElem?_take, if_pos h1]
  · rw [if_neg h1, List.getElem?_append]
    by_cases h2 : j - off < news.length
    · rw [if_pos h2, if_pos (by omega)]
    · rw [if_neg h2, if_neg (by omega), List.getElem?_drop]
      congr 1; omega

def PartsRel (K : Kr) : List (Nat × AV) → List (Nat × Value) → Prop
  | [], [] => True
  | a :: r, b :: s => a.1 = b.1 ∧ VR K a.2 b.2 ∧ PartsRel K r s
  | _, _ => False
theorem partsOf_sound {env : Env} {a : Act} : ∀ {xs : List (Nat × Operand)} {l : List (Nat × AV)}, (∀ x ∈ xs, ∀ v, opd G env x.2 = some v → VR K v (a.eval x.2)) → partsOf G env xs = some l → PartsRel K l (xs.map fun x => (x.1, a.eval x.2))
  | [], l, _, h => by simp [partsOf] at h; subst h; trivial
  | (i, x) :: r, l, hx, h => by
    simp only [partsOf] at h
    split at h
    · rename_i v l' h1 h2
      cases h
      exact ⟨rfl, hx (i, x) (by simp) v h1, partsOf_sound (fun y hy => hx y (by simp [hy])) h2⟩
    · cases h
theorem fill_sound {place place' : Nat → Option (Nat × Nat)} (hp : ∀ i x, place i = some x → place' i = some x) : ∀ {parts : List (Nat × AV)} {uparts : List (Nat × Value)} {cells cs : List AV} {us : Array Value},
    PartsRel K parts uparts → VRL K cells us.toList → fillL place cells parts = some cs → allAtoms cells = true → ∃ us', Instr.fill place' us uparts = some us' ∧ VRL K cs us'.toList ∧ allAtoms cs = true ∧ cs.length = cells.length
  | [], [], cells, cs, us, _, hr, h, ha => by simp [fillL] at h; subst h; exact ⟨us, rfl, hr, ha, rfl⟩
  | [], _ :: _, _, _, _, h, _, _, _ => h.elim
  | _ :: _, [], _, _, _, h, _, _, _ => h.elim
  | (i, v) :: r, (i', u) :: s, cells, cs, us, ⟨hi, hv, hrest⟩, hr, h, ha => by
    simp only at hi hv
    subst hi
    simp only [fillL] at h
    split at h
    · cases h
    · rename_i off size hpl
      split at h
      · rename_i hc
        simp only [Bool.and_eq_true, beq_iff_eq, Nat.ble_eq] at hc
        obtain ⟨⟨hsz, hat⟩, hle⟩ := hc
        split at h
        · rename_i cs1 hsp
          have hc := hv.cells
          have hcl : u.cells.size = size := by have := hc.1; simp at this; omega
          have hul : us.size = cells.length := by have := hr.1; simp at this; omega
          obtain ⟨f1, f2⟩ := Great.foldl_set off u.cells.toList 0 us
          have hr1 : VRL K cs1 (u.cells.toList.zipIdx.foldl (fun cs (x : Value × Nat) => cs.setIfInBounds (off + x.2) x.1) us).toList := by
            have hg := splice_get hsp (by omega)
            refine ⟨?_, fun j c x h1 h2 => ?_⟩
            · have : cs1.length = cells.length := by
                have := (splice_spec hsp).1
                rw [this]; simp; omega
              simp only [Array.length_toList]
              omega
            · rw [hg] at h1
              rw [Array.getElem?_toList, f2] at h2
              simp only [Nat.add_zero] at h2
              have hl2 : u.cells.toList.length = v.cells.length := by simp; omega
              by_cases hin : off ≤ j ∧ j < off + v.cells.length
              · rw [if_pos hin] at h1
                rw [if_pos ⟨hin.1, by omega, by omega⟩] at h2
                exact hc.2 _ c x h1 h2
              · rw [if_neg hin] at h1
                rw [if_neg (by omega)] at h2
                exact hr.2 j c x h1 (by simpa using h2)
          have ha1 : allAtoms cs1 = true := by
            have := (splice_spec hsp).1
            refine allAtoms_of fun a ha' => ?_
            rw [this] at ha'
            simp only [List.mem_append] at ha'
            rcases ha' with (ha' | ha') | ha'
            · exact allAtoms_mem ha a (List.mem_of_mem_take ha')
            · exact allAtoms_mem hat a ha'
            · exact allAtoms_mem ha a (List.mem_of_mem_drop ha')
          have hl1 : cs1.length = cells.length := by
            rw [(splice_spec hsp).1]; simp; omega
          obtain ⟨us', h1, h2, h3, h4⟩ := fill_sound hp hrest hr1 h ha1
          refine ⟨us', ?_, h2, h3, h4.trans hl1⟩
          simp only [Instr.fill, hp _ _ hpl]
          rw [if_neg (by simp; omega)]
          rw [← Array.foldl_toList, Array.toList_zipIdx]
          exact h1
        · cases h
      · cases h

/-! ### Cells of zeros -/
theorem repl_get {z : List AV} {k : Nat} (hz : z.length = k) : ∀ (n j : Nat), (repl n z)[j]? = if j < n * k then z[j % k]? else none
  | 0, j => by simp [repl]
  | n + 1, j => by
    simp only [repl, List.getElem?_append, repl_get hz n, hz]
    by_cases h : j < k
    · rw [if_pos h, if_pos (by rw [Nat.add_mul]; omega), Nat.mod_eq_of_lt h]
    · rw [if_neg h]
      have e : (j - k) % k = j % k := by
        conv => rhs; rw [show j = (j - k) + k by omega, Nat.add_mod_right]
      rw [e, Nat.add_mul]
      by_cases h2 : j - k < n * k
      · rw [if_pos h2, if_pos (by omega)]
      · rw [if_neg h2, if_neg (by omega)]
theorem repl_length {z : List AV} {k : Nat} (hz : z.length = k) (n : Nat) : (repl n z).length = n * k := by
  induction n with
  | zero => simp [repl]
  | succ n ih => simp only [repl, List.length_append, ih, hz, Nat.add_mul]; omega
theorem made_rel {zs : List AV} {z : Array Value} {k : Nat} (hr : VRL K zs z.toList) (hk : zs.length = k) (n : Nat) : VRL K (repl n zs) (madeCells z (n * k)).toList := by
  have hzs : z.size = k := by have := hr.1; simp at this; omega
  refine ⟨by rw [repl_length hk]; simp [madeCells], fun j c v h1 h2 => ?_⟩
  rw [repl_get hk] at h1
  split at h1
  · rename_i hj
    have hk0 : 0 < k := by
      rcases Nat.eq_zero_or_pos k with h | h
      · subst h; simp at hj
      · exact h
    have hm : j % k < z.size := by rw [hzs]; exact Nat.mod_lt _ hk0
    have : (madeCells z (n * k)).toList[j]? = some z[j % k] := by
      rw [Array.getElem?_toList]
      simp only [madeCells, Array.getElem?_map, Array.getElem?_range, if_pos hj, Option.map_some, hzs]
      rw [getElem!_pos z (j % k) hm]
    rw [this] at h2
    cases h2
    exact hr.2 _ c _ h1 (by simp [hm])
  · cases h1
theorem repl_atoms {z : List AV} (h : allAtoms z = true) : ∀ n, allAtoms (repl n z) = true
  | 0 => rfl
  | n + 1 => allAtoms_of fun a ha => by
    simp only [repl, List.mem_append] at ha
    rcases ha with ha | ha
    · exact allAtoms_mem h a ha
    · exact allAtoms_mem (repl_atoms h n) a ha

/-! ### A struct, an array -/
theorem mapM_sizes (hTT : TTOk P G.tt) : ∀ {gs : List Field}, (gs.all fun f => (G.tt f.type).isSome) = true → gs.mapM (fun f => (P.info? f.type).map fun i => (f.offset, i.size)) = some (gs.map fun f => (f.offset, P.cellsOf f.type))
  | [], _ => by simp
  | f :: r, h => by
    simp only [List.all_cons, Bool.and_eq_true] at h
    obtain ⟨i, hi⟩ := Option.isSome_iff_exists.1 h.1
    obtain ⟨inf, _, _, _, hT⟩ := hTT _ _ hi
    simp [List.mapM_cons, hT.hinfo, mapM_sizes hTT h.2, Program.cellsOf]
theorem build_sound (hTT : TTOk P G.tt) {t : TypeId} {parts : List (Nat × AV)} {uparts : Array (Nat × Value)} {v : AV} (hp : PartsRel K parts uparts.toList) (h : buildOf G t parts = some v) :
    ∃ u, (Instr.build t uparts).run P w = .ok u w ∧ VR K v u := by
  unfold buildOf at h
  split at h
  · rename_i i hi
    obtain ⟨inf, d, z, zv, hT⟩ := hTT _ _ hi
    have hd := hT.hd
    have hz := hT.zeroRel (K := K)
    split at h
    · rename_i fs ei
      rw [ei] at hd
      obtain ⟨gs, rfl, rfl⟩ := td_struct hd
      split at h
      · rename_i hall
        simp only [Option.map_eq_some_iff] at h
        obtain ⟨cs, hcs, rfl⟩ := h
        have hall' : (gs.toList.all fun f => (G.tt f.type).isSome) = true := by simpa [List.all_map] using hall
        have hm := mapM_sizes (P := P) hTT hall'
        obtain ⟨us, h1, h2, _, _⟩ := fill_sound (K := K) (place' := ((gs.toList.map fun f => (f.offset, P.cellsOf f.type)).toArray[·]?)) (fun i x hx => by
          unfold structPlace at hx
          split at hx
          · rename_i off ft hf
            simp only [Option.map_eq_some_iff] at hx
            obtain ⟨s, hs, rfl⟩ := hx
            rw [List.getElem?_map, Option.map_eq_some_iff] at hf
            obtain ⟨g, hg, e⟩ := hf
            cases e
            obtain ⟨j, hj, rfl⟩ := sizeOfTy_inv hs
            obtain ⟨_, _, _, _, hTj⟩ := hTT _ _ hj
            rw [List.getElem?_toArray, List.getElem?_map, hg, ← hTj.cellsOf]
            rfl
          · cases hx) hp hz hcs hT.hatoms
        refine ⟨.agg us, run_build w t uparts us ?_, VR.agg' h2⟩
        simp [Program.built, hT.hinfo, hT.hund, hT.hzero, hm]
        simpa using h1
      · cases h
    · rename_i n e ei
      rw [ei] at hd
      cases td_arr hd
      split at h
      · rename_i k hk
        simp only [Option.map_eq_some_iff] at h
        obtain ⟨cs, hcs, rfl⟩ := h
        obtain ⟨j, hj, rfl⟩ := sizeOfTy_inv hk
        obtain ⟨inf', _, _, _, hTj⟩ := hTT _ _ hj
        obtain ⟨us, h1, h2, _, _⟩ := fill_sound (K := K) (place' := fun i => some (i * inf'.size, inf'.size)) (fun i x hx => by rw [hTj.hsize]; exact hx) hp hz hcs hT.hatoms
        refine ⟨.agg us, run_build w t uparts us ?_, VR.agg' h2⟩
        simp [Program.built, hT.hinfo, hT.hund, hT.hzero, hTj.hinfo, h1]
      · cases h
    · cases h
  · cases h

/-! ### Interfaces -/
theorem iface_sound (hTT : TTOk P G.tt) {t : TypeId} {i : TI} (hi : G.tt t = some i) (hne : ¬ i.isIface = true) {a : AV} {u : Value} (ha : VR K a u) : (Instr.makeInterface t u).run P w = .ok (.iface t u) w ∧ VR K (.iface t a) (.iface t u) := by
  obtain ⟨inf, d, z, zv, hT⟩ := hTT _ _ hi
  refine ⟨?_, .iface ha⟩
  have hni := td_not_iface (d := d) (by rw [hT.hd]; intro e; exact hne (by simp [TI.isIface, e]))
  have hu := hT.hund
  cases d <;> first | (exact absurd rfl (hni _)) | simp [Instr.makeInterface, run_underlying hu]
theorem zero_sound {t : TypeId} {i : TI} {inf : TypeInfo} {d : TypeDesc} {z : Value} {zv v : AV} (hT : TyOk P t i inf d z zv) (h : i.val i.zero = some v) : VR K v z := by
  rw [hT.hval] at h; cases h
  exact ofVal_sound hT.hzv
theorem typeAssert_sound (hTT : TTOk P G.tt) {xt t : TypeId} {ok : Bool} {i : TI} (hi : G.tt t = some i) {a v : AV} {u : Value} (ha : VR K a u)
    (h : assertOf t ok i a = some v) : ∃ u', (Instr.typeAssert u xt t ok).run P w = .ok u' w ∧ VR K v u' := by
  unfold assertOf at h
  split at h
  · cases h
  rename_i hne
  obtain ⟨inf, d, z, zv, hT⟩ := hTT _ _ hi
  have hni := td_not_iface (d := d) (by rw [hT.hd]; intro e; exact hne (by simp [TI.isIface, e]))
  have hu := hT.hund
  have two : ∀ {x : AV} {y : Value} (b : Bool), VR K x y → VR K (.tup [x, .bool b]) (.tuple #[y, .bool b]) := fun b h => VR.tup' (.cons h (.cons (.bool b) .nil))
  cases ha with
  | iface hx =>
    rename_i s x y
    simp only at h
    split at h
    · rename_i hst
      have := Nat.eq_of_beq_eq_true hst
      subst this
      cases h
      cases ok with
      | true => exact ⟨.tuple #[y, .bool true], by cases d <;> first | (exact absurd rfl (hni _)) | simp [Instr.typeAssert, run_underlying hu], two true hx⟩
      | false => exact ⟨y, by cases d <;> first | (exact absurd rfl (hni _)) | simp [Instr.typeAssert, run_underlying hu], hx⟩
    · rename_i hst
      have hne' : ¬ s = t := fun e => hst (by subst e; simp)
      split at h
      · rename_i hok
        subst hok
        simp only [Option.map_eq_some_iff] at h
        obtain ⟨z', hz', rfl⟩ := h
        exact ⟨.tuple #[z, .bool false], by cases d <;> first | (exact absurd rfl (hni _)) | simp [Instr.typeAssert, run_underlying hu, hne', hT.run_zero], two false (zero_sound hT hz')⟩
      · cases h
  | nili =>
    simp only at h
    split at h
    · rename_i hok
      subst hok
      simp only [Option.map_eq_some_iff] at h
      obtain ⟨z', hz', rfl⟩ := h
      exact ⟨.tuple #[z, .bool false], by cases d <;> first | (exact absurd rfl (hni _)) | simp [Instr.typeAssert, run_underlying hu, hT.run_zero], two false (zero_sound hT hz')⟩
    · cases h
  | _ => cases h
end Go.Ev
