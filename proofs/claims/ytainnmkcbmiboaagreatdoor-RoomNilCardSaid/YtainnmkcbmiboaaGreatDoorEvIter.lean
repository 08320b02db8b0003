/-
  Ev: iterators; what is frozen.
-/
import Derived.Test.YtainnmkcbmiboaaGreatDoorEvMaps
namespace Go.Ev
open Go
variable {P : Program} {K : Kr} {G : Info} {σ σ' : Store} {w : World}

theorem get0_drop (s : ByteArray) (pos k : Nat) : get0 (s.data.toList.drop pos) k = (s.get! (pos + k)).toNat := by
  unfold get0
  rw [List.getElem?_drop]
  have : s.get! (pos + k) = s.data[pos + k]! := rfl
  rw [this, Array.getElem?_toList]
  by_cases h : pos + k < s.data.size
  · rw [Array.getElem?_eq_getElem h, getElem!_pos s.data (pos + k) h]
  · rw [Array.getElem?_eq_none (by omega), getElem!_neg s.data (pos + k) h]
    rfl
theorem decode_eq (s : ByteArray) (pos : Nat) : decodeRune (s.data.toList.drop pos) = Utf8.decode s pos := by
  have hlen : (s.data.toList.drop pos).length = s.size - pos := by rw [List.length_drop, size_list]
  have hc : ∀ k, (Nat.ble (k + 1) (s.data.toList.drop pos).length && ((s.get! (pos + k)).toNat / 64).beq 2) = (decide (pos + k < s.size) && (s.get! (pos + k)).toNat / 64 == 2) := by
    intro k
    rw [hlen]
    have h1 : Nat.ble (k + 1) (s.size - pos) = decide (pos + k < s.size) := by
      rw [Bool.eq_iff_iff, Nat.ble_eq, decide_eq_true_eq]; omega
    rw [h1]
    congr 1
    generalize (s.get! (pos + k)).toNat / 64 = q
    rw [Bool.eq_iff_iff, Nat.beq_eq, beq_iff_eq]
  unfold decodeRune Utf8.decode
  simp only [get0_drop, hc 1, hc 2, hc 3, Utf8.runeError]

theorem range_sound (hTT : TTOk P G.tt) (hS : StoreRel P K σ w) {o : Nat} (hn : K.loc o = none) (ho : o < σ.next) (hg : σ.get o = none) {t : TypeId} {i : TI} (hi : G.tt t = some i) {a v : AV} {ua : Value} (ha : VR K a ua)
    (h : rangeOf σ o i a = some (v, σ')) : Does P (· = o) K σ w (Instr.range t ua) v σ' := by
  unfold rangeOf at h
  obtain ⟨_, d, _, _, hT⟩ := hTT _ _ hi
  have hd := hT.hd
  have hu := hT.hund
  have hnew : ∀ (ob : Obj) (x : AObj), (∀ w', w'.heap = w.heap.push ob → ObjRel P (K.put o ⟨w.heap.size, 0, 0, 0⟩) w' ⟨w.heap.size, 0, 0, 0⟩ x) → (Instr.range t ua).run P w = .ok (.pointer (some ⟨w.heap.size, 0, none⟩)) (w.alloc ob) →
      Does P (· = o) K σ w (Instr.range t ua) (.ptr o 0) (σ.add o x) := fun ob x hx hrun =>
    ⟨_, _, K.put o ⟨w.heap.size, 0, 0, 0⟩, hrun, .ptr (L := ⟨w.heap.size, 0, 0, 0⟩) (Kr.put_same _ _ _), .new (ob := ob) hS hn ho hg rfl rfl rfl rfl rfl (hx _ rfl)⟩
  split at h
  · rename_i s ei
    rw [ei] at hd; cases td_str hd
    cases h
    obtain ⟨p, rfl, rfl⟩ := VR.str_inv ha
    exact hnew (.stringIter p 0) _ (fun w' hw => ⟨rfl, p, heap_push_new w w' _ hw, rfl⟩) (by simp [Instr.range, run_underlying hu])
  · rename_i ei
    rw [ei] at hd; cases td_map hd
    cases h
    cases ha
    exact hnew (.mapIter none 0 #[] 0) _ (fun w' hw => ⟨rfl, none, heap_push_new w w' _ hw, trivial⟩) (by simp [Instr.range, run_underlying hu])
  · rename_i m ei
    rw [ei] at hd; cases td_map hd
    split at h
    · rename_i es c hgm
      cases h
      cases ha with
      | @map _ L hL =>
        obtain ⟨ms, h1, h2⟩ := hS.objs _ _ L hgm hL
        exact hnew (.mapIter (some L.blk) c #[] c) _ (fun w' hw => ⟨rfl, some L.blk, heap_push_new w w' _ hw, L, (Kr.put_le (K := K) ⟨w.heap.size, 0, 0, 0⟩ hn).loc _ _ hL, rfl⟩) (by simp [Instr.range, run_underlying hu, getObj, Sem.run, h1])
    · cases h
  · cases h

theorem next_str_sound (hS : StoreRel P K σ w) {o : Nat} {a : Value} {ty : TypeId} (ha : VR K (.ptr o 0) a) {s : List UInt8} {pos : Nat} (hg : σ.get o = some (.iter s pos)) {v : AV}
    (h : nextText σ o s pos = some (v, σ')) : Does P (fun _ => False) K σ w (Instr.next a true ty) v σ' := by
  unfold nextText at h
  cases ha with
  | ptr hL =>
    rename_i L
    obtain ⟨h0, b, h1, rfl⟩ := hS.objs o _ L hg hL
    have hblk := hS.blk o L hL
    simp only [size_list] at h
    split at h
    · rename_i hlt
      rw [decode_eq] at h
      cases h
      refine ⟨.tuple #[.bool true, .int .i64 pos, .int .i32 (Utf8.decode b pos).1], { w with heap := w.heap.setIfInBounds L.blk (.stringIter b (pos + (Utf8.decode b pos).2)) }, K, ?_, ?_, .setMap hS hg rfl hL hblk ⟨h0, b, heap_set_same hblk, rfl⟩⟩
      · have : pos < b.size := hlt
        simp [Instr.next, h0, getObj, Sem.run, h1, this, run_setObj h1 (fun _ _ _ e => by cases e), goInt]
      · exact VR.tup' (.cons (.bool _) (.cons (.int _ _) (.cons (.int _ _) .nil)))
    · rename_i hlt
      cases h
      refine ⟨.tuple #[.bool false], w, K, ?_, VR.tup' (.cons (.bool _) .nil), .refl hS⟩
      have : ¬ pos < b.size := hlt
      simp [Instr.next, h0, getObj, Sem.run, h1, this]

/-! ### A map's iterator -/
theorem hasNat_contains : ∀ (l : List Nat) (n : Nat), hasNat l n = l.contains n
  | [], _ => rfl
  | m :: r, n => by
    simp only [hasNat, List.contains_cons, hasNat_contains r n]
    congr 1
    rw [Bool.eq_iff_iff, Nat.beq_eq, beq_iff_eq]
    exact eq_comm
theorem EsRel.isEmpty {es : List (Nat × AV × AV)} {ms : List MapEntry} (h : EsRel K es ms) : es.isEmpty = ms.isEmpty := by
  cases es with
  | nil => rw [h.inv_nil]; rfl
  | cons e r => obtain ⟨m, s, rfl, _, _⟩ := h.inv_cons; rfl
theorem EsRel.all {p : Nat → Bool} {es : List (Nat × AV × AV)} {ms : List MapEntry} (h : EsRel K es ms) : (es.all fun e => p e.1) = ms.all fun m => p m.born := by
  induction es generalizing ms with
  | nil => rw [h.inv_nil]; rfl
  | cons e r ih => obtain ⟨m, s, rfl, hm, hr⟩ := h.inv_cons; simp only [List.all_cons, hm.1, ih hr]
theorem ble_decide (a b : Nat) : Nat.ble a b = decide (b ≥ a) := by rw [Bool.eq_iff_iff, Nat.ble_eq, decide_eq_true_eq]
theorem nble_decide (a b : Nat) : (!Nat.ble a b) = decide (b < a) := by rw [Bool.eq_iff_iff, Bool.not_eq_true', ← Bool.not_eq_true, Nat.ble_eq, decide_eq_true_eq]; omega
theorem mapStep_spec {es : List (Nat × AV × AV)} {since last : Nat} {seen : List Nat} {r : Option (Nat × AV × AV)} (h : mapStep es since seen last = some r) :
    (!seen.isEmpty && !es.isEmpty && es.all fun e => Nat.ble last e.1) = false ∧
    (((es.filter fun e => !(hasNat seen e.1)).filter fun e => !(Nat.ble since e.1)) = [] ∧ ((es.filter fun e => !(hasNat seen e.1)).filter fun e => Nat.ble since e.1) = [] ∧ r = none ∨
      ∃ e, ((es.filter fun e => !(hasNat seen e.1)).filter fun e => !(Nat.ble since e.1)) = [e] ∧ ((es.filter fun e => !(hasNat seen e.1)).filter fun e => Nat.ble since e.1) = [] ∧ r = some e) := by
  unfold mapStep at h
  split at h
  · cases h
  · rename_i ht
    refine ⟨by simpa using ht, ?_⟩
    simp only at h
    generalize ((es.filter fun e => !(hasNat seen e.1)).filter fun e => !(Nat.ble since e.1)) = old at h ⊢
    generalize ((es.filter fun e => !(hasNat seen e.1)).filter fun e => Nat.ble since e.1) = new at h ⊢
    cases old with
    | nil => cases new with
      | nil => simp at h; exact .inl ⟨rfl, rfl, h.symm⟩
      | cons x y => simp at h
    | cons x y => cases y with
      | nil => cases new with
        | nil => simp at h; exact .inr ⟨x, rfl, rfl, h.symm⟩
        | cons a b => simp at h
      | cons a b => simp at h
theorem next_map_sound (hS : StoreRel P K σ w) {o m : Nat} {a : Value} {ty : TypeId} (ha : VR K (.ptr o 0) a) {es : List (Nat × AV × AV)} {since c last : Nat} {seen : List Nat} (hg : σ.get o = some (.miter (some m) since seen last)) (hm : σ.get m = some (.map es c)) {v : AV}
    (h : nextMap σ o m es since c last seen = some (v, σ')) : Does P (fun _ => False) K σ w (Instr.next a false ty) v σ' := by
  unfold nextMap at h
  cases ha with
  | ptr hL =>
    rename_i L
    obtain ⟨h0, r, h1, h2⟩ := hS.objs o _ L hg hL
    have hblk := hS.blk o L hL
    cases r with
    | none => exact h2.elim
    | some r =>
      obtain ⟨L', hL', rfl⟩ := h2
      obtain ⟨ms, h3, h4⟩ := hS.objs m _ L' hm hL'
      have hleft : EsRel K (es.filter fun e => !(hasNat seen e.1)) (ms.filter fun e => !seen.contains e.born) := by
        have := h4.filter (p := fun n => !(hasNat seen n))
        simpa only [hasNat_contains] using this
      have hold : EsRel K ((es.filter fun e => !(hasNat seen e.1)).filter fun e => !(Nat.ble since e.1)) ((ms.filter fun e => !seen.contains e.born).filter fun e => decide (e.born < since)) := by
        have := hleft.filter (p := fun n => !(Nat.ble since n))
        simpa only [nble_decide] using this
      have hnew : EsRel K ((es.filter fun e => !(hasNat seen e.1)).filter fun e => Nat.ble since e.1) ((ms.filter fun e => !seen.contains e.born).filter fun e => decide (e.born ≥ since)) := by
        have := hleft.filter (p := fun n => Nat.ble since n)
        simpa only [ble_decide] using this
      have htest : (!(⟨seen⟩ : Array Nat).isEmpty && !(⟨ms⟩ : Array MapEntry).isEmpty && (⟨ms⟩ : Array MapEntry).all fun e => decide (e.born ≥ last)) = (!seen.isEmpty && !es.isEmpty && es.all fun e => Nat.ble last e.1) := by
        rw [h4.isEmpty, h4.all (p := fun n => Nat.ble last n)]
        simp only [ble_decide]
        cases seen <;> cases ms <;> simp
      have hfil : ∀ (l : List MapEntry) (p : MapEntry → Bool), (⟨l⟩ : Array MapEntry).filter p = ⟨l.filter p⟩ := fun l p => by apply Array.ext'; simp
      have hcon : ∀ n, (⟨seen⟩ : Array Nat).contains n = seen.contains n := fun n => by simp
      cases hms : mapStep es since seen last with
      | none => simp [hms] at h
      | some r =>
        rw [hms] at h
        obtain ⟨ht, hr⟩ := mapStep_spec hms
        rw [← htest] at ht
        rcases hr with ⟨e1, e2, rfl⟩ | ⟨e, e1, e2, rfl⟩
        · rw [e1] at hold; rw [e2] at hnew
          have g1 := hold.inv_nil
          have g2 := hnew.inv_nil
          cases h
          refine ⟨.tuple #[.bool false], w, K, ?_, VR.tup' (.cons (.bool _) .nil), .refl hS⟩
          simp only [Instr.next, h0, getObj, Sem.run_bind, Sem.run, h1, h3, Result.andThen, ht, Bool.false_eq_true, if_false, hfil, hcon, g1, g2]
          simp [choose, Sem.run, Question.forced]
        · rw [e1] at hold; rw [e2] at hnew
          obtain ⟨me, mr, g1, ⟨g3, g4, g5⟩, g6⟩ := hold.inv_cons
          have := g6.inv_nil
          subst this
          have g2 := hnew.inv_nil
          obtain ⟨eb, ek, ev⟩ := e
          cases h
          refine ⟨.tuple #[.bool true, me.key, me.val], { w with heap := w.heap.setIfInBounds L.blk (.mapIter (some L'.blk) since ⟨seen ++ [eb]⟩ c) }, K, ?_, VR.tup' (.cons (.bool _) (.cons g4 (.cons g5 .nil))), .setMap hS hg rfl hL hblk ⟨h0, some L'.blk, heap_set_same hblk, L', hL', rfl⟩⟩
          simp only [Instr.next, h0, getObj, Sem.run_bind, Sem.run, h1, h3, Result.andThen, ht, Bool.false_eq_true, if_false, hfil, hcon, g1, g2]
          have g3' : me.born = eb := g3
          simp [choose, Sem.run, Question.forced, run_setObj h1 (fun _ _ _ e => by cases e), g3']
theorem entry_sound (hS : StoreRel P K σ w) {o m : Nat} {a : Value} (ha : VR K (.ptr o 0) a) {es : List (Nat × AV × AV)} {since c last b : Nat} {seen : List Nat} (hg : σ.get o = some (.miter (some m) since seen last)) (hm : σ.get m = some (.map es c)) (hl : seen.getLast? = some b)
    (hc : c = last) {e : Nat × AV × AV} (he : es.find? (fun e => e.1.beq b) = some e) : ∃ u, (Instr.entry a).run P w = .ok u w ∧ VR K (.tup [e.2.1, e.2.2]) u := by
  cases ha with
  | ptr hL =>
    rename_i L
    obtain ⟨h0, r, h1, h2⟩ := hS.objs o _ L hg hL
    cases r with
    | none => exact h2.elim
    | some r =>
      obtain ⟨L', hL', rfl⟩ := h2
      obtain ⟨ms, h3, h4⟩ := hS.objs m _ L' hm hL'
      have hf : ∃ me, ms.find? (fun e => e.born == b) = some me ∧ ERel K e me := by
        clear h3 hm
        induction es generalizing ms with
        | nil => simp at he
        | cons x r ih =>
          obtain ⟨m', ns, rfl, hx, hr⟩ := h4.inv_cons
          have hxb : (m'.born == b) = x.1.beq b := by rw [hx.1, Bool.eq_iff_iff, Nat.beq_eq, beq_iff_eq]
          simp only [List.find?_cons, hxb] at he ⊢
          split at he
          · cases he; exact ⟨m', rfl, hx⟩
          · exact ih he _ hr
      obtain ⟨me, hme, _, hk, hv⟩ := hf
      refine ⟨.tuple #[me.key, me.val], ?_, VR.tup' (.cons hk (.cons hv .nil))⟩
      subst hc
      have hb : (⟨seen⟩ : Array Nat).back? = some b := by simpa [List.getLast?_eq_getElem?] using hl
      have hfa : (⟨ms⟩ : Array MapEntry).find? (fun e => e.born == b) = some me := by rw [← Array.find?_toList]; exact hme
      simp [Instr.entry, h0, getObj, Sem.run, h1, h3, hb, hfa]

/-! ### Frozen -/
theorem mapS_sound {α β γ : Type} {f : Store → α → Option (β × Store)} {R : Kr → α → γ → Prop} {R' : Kr → β → γ → Prop}
    (hmono : ∀ K K' a v, K.Le K' → R K a v → R K' a v) (hmono' : ∀ K K' b v, K.Le K' → R' K b v → R' K' b v)
    (hf : ∀ (K : Kr) (σ : Store) a b σ' v, StoreRel P K σ w → f σ a = some (b, σ') → R K a v → ∃ K', Stp P (fun _ => False) K σ w K' σ' w ∧ K'.loc = K.loc ∧ R' K' b v) :
    ∀ {l : List α} {r : List β} {K : Kr} {σ σ' : Store} {vs : List γ}, StoreRel P K σ w → mapS f σ l = some (r, σ') → l.length = vs.length → (∀ (j : Nat) a v, l[j]? = some a → vs[j]? = some v → R K a v) →
      ∃ K', Stp P (fun _ => False) K σ w K' σ' w ∧ K'.loc = K.loc ∧ r.length = vs.length ∧ ∀ (j : Nat) b v, r[j]? = some b → vs[j]? = some v → R' K' b v
  | [], r, K, σ, σ', vs, hS, h, hl, _ => by
    simp only [mapS, Option.some.injEq, Prod.mk.injEq] at h
    obtain ⟨rfl, rfl⟩ := h
    exact ⟨K, .refl hS, rfl, hl, fun j b v h => by simp at h⟩
  | a :: l, r, K, σ, σ', [], hS, h, hl, _ => by simp at hl
  | a :: l, r, K, σ, σ', v :: vs, hS, h, hl, hr => by
    simp only [mapS] at h
    split at h
    · rename_i y σ1 h1
      split at h
      · rename_i l' σ2 h2
        cases h
        obtain ⟨K1, s1, e1, r1⟩ := hf K σ a y σ1 v hS h1 (hr 0 a v rfl rfl)
        obtain ⟨K2, s2, e2, l2, r2⟩ := mapS_sound hmono hmono' hf s1.rel h2 (by simpa using hl) (fun j a' v' ha hv => hmono _ _ _ _ s1.le (hr (j + 1) a' v' (by simpa using ha) (by simpa using hv)))
        refine ⟨K2, (s1.trans s2).weaken fun _ _ h => h.elim id id, e2.trans e1, by simp [l2], fun j b u hb hu => ?_⟩
        cases j with
        | zero => simp at hb hu; subst hb; subst hu; exact hmono' _ _ _ _ s2.le r1
        | succ j => simp at hb hu; exact r2 j b u hb hu
      · cases h
    · cases h

theorem VRL.parts : ∀ {es : List (List AV)} {us : List Value}, VRL K (flat es) us → ∃ vss : List (List Value), es.length = vss.length ∧ (∀ (j : Nat) e v, es[j]? = some e → vss[j]? = some v → VRL K e v) ∧ vss.flatten = us
  | [], us, h => ⟨[], rfl, fun j e v h => by simp at h, by rw [VRL.inv_nil h]; rfl⟩
  | e :: r, us, h => by
    simp only [flat] at h
    have h1 : VRL K e (us.take e.length) := by
      have := h.take e.length
      simpa using this
    have h2 : VRL K (flat r) (us.drop e.length) := by
      have := h.drop e.length
      simpa using this
    obtain ⟨vss, g1, g2, g3⟩ := VRL.parts h2
    refine ⟨us.take e.length :: vss, by simp [g1], fun j e' v he hv => ?_, by simp [g3]⟩
    cases j with
    | zero => simp at he hv; subst he; subst hv; exact h1
    | succ j => simp at he hv; exact g2 j e' v he hv
theorem VRL.whole : ∀ {es : List (List AV)} {vss : List (List Value)}, es.length = vss.length → (∀ (j : Nat) e v, es[j]? = some e → vss[j]? = some v → VRL K e v) → VRL K (flat es) vss.flatten
  | [], vss, h, _ => by rw [List.eq_nil_of_length_eq_zero h.symm]; exact .nil
  | e :: r, [], h, _ => by simp at h
  | e :: r, v :: vss, h, hr => by
    simp only [flat, List.flatten_cons]
    exact (hr 0 e v rfl rfl).append (VRL.whole (by simpa using h) fun j e' v' he hv => hr (j + 1) e' v' (by simpa using he) (by simpa using hv))

theorem frz_sound (hTT : TTOk P G.tt) : ∀ (n : Nat) (K : Kr) (σ : Store) (v v' : AV) (σ' : Store) (u : Value), StoreRel P K σ w → frzV G n σ v = some (v', σ') → VR K v u → ∃ K', Stp P (fun _ => False) K σ w K' σ' w ∧ K'.loc = K.loc ∧ VR K' v' u
  | 0, K, σ, v, v', σ', u, hS, h, hv => by simp [frzV] at h
  | n + 1, K, σ, v, v', σ', u, hS, h, hv => by
    have ih := frz_sound hTT n
    have many : ∀ {cs r : List AV} {K : Kr} {σ σ' : Store} {us : List Value}, StoreRel P K σ w → mapS (frzV G n) σ cs = some (r, σ') → VRL K cs us → ∃ K', Stp P (fun _ => False) K σ w K' σ' w ∧ K'.loc = K.loc ∧ VRL K' r us := fun hS h hr =>
      mapS_sound (R := VR) (R' := VR) (fun _ _ _ _ hk h => h.mono hk) (fun _ _ _ _ hk h => h.mono hk) (fun K σ a b σ' v hS h hv => ih K σ a b σ' v hS h hv) hS h hr.1 hr.2
    have stay : v' = v → σ' = σ → ∃ K', Stp P (fun _ => False) K σ w K' σ' w ∧ K'.loc = K.loc ∧ VR K' v' u := by
      rintro rfl rfl; exact ⟨K, .refl hS, rfl, hv⟩
    cases v with
    | sl o off len lim =>
      cases len with
      | zero =>
        simp only [frzV, Option.some.injEq, Prod.mk.injEq] at h
        obtain ⟨rfl, rfl⟩ := h
        have : ∃ ad cap, u = .slice (some ad) 0 cap := by cases hv <;> exact ⟨_, _, rfl⟩
        obtain ⟨ad, cap, rfl⟩ := this
        exact ⟨K, .refl hS, rfl, .tr0 ad cap⟩
      | succ len =>
        simp only [frzV] at h
        split at h
        · rename_i cs ty imm hg
          split at h
          · cases h
          · rename_i i hi
            split at h
            · cases h
            · rename_i es hes
              simp only [Option.map_eq_some_iff, Prod.exists, Prod.mk.injEq] at h
              obtain ⟨r, σ1, hm, rfl, rfl⟩ := h
              obtain ⟨g1, g2, g3, g4⟩ := chunks_spec hes
              cases hv with
              | sl hL hcap hlim hno =>
                rename_i L cap
                obtain ⟨K1, s1, ⟨vs, hvs, hfz⟩, e1⟩ := Stp.freeze hS hg hL
                have hr : VRL K1 (flat es) ((vs.drop off).take ((len + 1) * i.size)) := by rw [g4]; exact (hvs.drop _).take _
                obtain ⟨vss, w1, w2, w3⟩ := hr.parts
                obtain ⟨K2, s2, e2, l2, r2⟩ := mapS_sound (R := fun K (e : List AV) (v : List Value) => VRL K e v) (R' := fun K (e : List AV) (v : List Value) => VRL K e v) (fun _ _ _ _ hk h => h.mono hk) (fun _ _ _ _ hk h => h.mono hk)
                  (fun K σ a b σ' v hS h hv => many hS h hv) s1.rel hm w1 w2
                refine ⟨K2, (s1.trans s2).weaken fun _ _ h => h.elim id id, e2.trans e1, ?_⟩
                have hfl := VRL.whole l2 r2
                rw [w3] at hfl
                have hrl : r.length = len + 1 := by omega
                have hk : ∀ e ∈ r, e.length = i.size := by
                  intro e he
                  obtain ⟨j, hj, rfl⟩ := List.mem_iff_getElem.1 he
                  have hj2 : j < vss.length := by omega
                  have hj3 : j < es.length := by omega
                  have a1 := (r2 j r[j] vss[j] (List.getElem?_eq_getElem hj) (List.getElem?_eq_getElem hj2)).1
                  have a2 := (w2 j es[j] vss[j] (List.getElem?_eq_getElem hj3) (List.getElem?_eq_getElem hj2)).1
                  rw [a1, ← a2]; exact g2 _ (List.getElem_mem hj3)
                have := VR.trOf (K := K2) (es := r) (b := L.blk) (a := L.fst + off) (k := i.size) (cap := cap) (by omega) hk hfl
                  (FR.sub (fun j v e => s2.le.frz _ _ _ (hfz j v e)) off ((len + 1) * i.size))
                rw [hrl] at this
                exact this
        · cases h
    | agg cs =>
      simp only [frzV, Option.map_eq_some_iff, Prod.exists, Prod.mk.injEq] at h
      obtain ⟨r, σ1, hm, rfl, rfl⟩ := h
      cases hv with
      | agg hl hr =>
        obtain ⟨K', s1, e1, r1⟩ := many hS hm ⟨hl, hr⟩
        exact ⟨K', s1, e1, VR.agg' r1⟩
    | tup cs =>
      simp only [frzV, Option.map_eq_some_iff, Prod.exists, Prod.mk.injEq] at h
      obtain ⟨r, σ1, hm, rfl, rfl⟩ := h
      cases hv with
      | tup hl hr =>
        obtain ⟨K', s1, e1, r1⟩ := many hS hm ⟨hl, hr⟩
        exact ⟨K', s1, e1, VR.tup' r1⟩
    | iface t x =>
      simp only [frzV, Option.map_eq_some_iff, Prod.exists, Prod.mk.injEq] at h
      obtain ⟨r, σ1, hm, rfl, rfl⟩ := h
      cases hv with
      | iface hx =>
        obtain ⟨K', s1, e1, r1⟩ := ih K σ x r σ1 _ hS hm hx
        exact ⟨K', s1, e1, .iface r1⟩
    | _ =>
      simp only [frzV, Option.some.injEq, Prod.mk.injEq] at h
      exact stay h.1.symm h.2.symm
theorem next_nil_sound (hS : StoreRel P K σ w) {o : Nat} {a : Value} {ty : TypeId} (ha : VR K (.ptr o 0) a) {since last : Nat} {seen : List Nat} (hg : σ.get o = some (.miter none since seen last)) : ∃ u, (Instr.next a false ty).run P w = .ok u w ∧ VR K (.tup [.bool false]) u := by
  cases ha with
  | ptr hL =>
    rename_i L
    obtain ⟨h0, r, h1, h2⟩ := hS.objs o _ L hg hL
    cases r with
    | some r => exact h2.elim
    | none => exact ⟨.tuple #[.bool false], by simp [Instr.next, h0, getObj, Sem.run, h1], VR.tup' (.cons (.bool _) .nil)⟩
end Go.Ev
