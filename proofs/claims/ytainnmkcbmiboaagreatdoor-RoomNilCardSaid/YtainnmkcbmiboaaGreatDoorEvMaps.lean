/-
  Ev: maps of integers' and strings' keys.
-/
import Derived.Test.YtainnmkcbmiboaaGreatDoorEvMap
namespace Go.Ev
open Go
variable {P : Program} {K : Kr} {G : Info} {σ σ' : Store} {w : World}

section es
variable {e : Nat × AV × AV} {es : List (Nat × AV × AV)} {ms : List MapEntry}
theorem EsRel.nil : EsRel K [] [] := ⟨rfl, fun j e m h => by simp at h⟩
theorem EsRel.cons {m : MapEntry} (h : ERel K e m) (hs : EsRel K es ms) : EsRel K (e :: es) (m :: ms) :=
  ⟨by simp [hs.1], fun j c' v' h1 h2 => by
    cases j with
    | zero => simp at h1 h2; subst h1; subst h2; exact h
    | succ j => simp at h1 h2; exact hs.2 j c' v' h1 h2⟩
theorem EsRel.inv_nil (h : EsRel K [] ms) : ms = [] := List.eq_nil_of_length_eq_zero h.1.symm
theorem EsRel.inv_cons (h : EsRel K (e :: es) ms) : ∃ m r, ms = m :: r ∧ ERel K e m ∧ EsRel K es r := by
  cases ms with
  | nil => exact absurd h.1 (by simp)
  | cons v r =>
    exact ⟨v, r, rfl, h.2 0 e v rfl rfl, by have := h.1; simpa using this, fun j c' v' h1 h2 => h.2 (j + 1) c' v' (by simpa using h1) (by simpa using h2)⟩
theorem EsRel.append {fs : List (Nat × AV × AV)} {ns : List MapEntry} (h : EsRel K es ms) (k : EsRel K fs ns) : EsRel K (es ++ fs) (ms ++ ns) := by
  induction es generalizing ms with
  | nil => rw [h.inv_nil]; exact k
  | cons c r ih => obtain ⟨v, s, rfl, hv, hr⟩ := h.inv_cons; exact .cons hv (ih hr)
theorem EsRel.filter {p : Nat → Bool} (h : EsRel K es ms) : EsRel K (es.filter fun e => p e.1) (ms.filter fun m => p m.born) := by
  induction es generalizing ms with
  | nil => rw [h.inv_nil]; exact .nil
  | cons c r ih =>
    obtain ⟨v, s, rfl, hv, hr⟩ := h.inv_cons
    simp only [List.filter_cons, hv.1]
    split
    · exact .cons hv (ih hr)
    · exact ih hr
end es

/-! ### A key looked for -/
def KeyKind (d : TypeDesc) (k : AV) : Prop := (∃ i j n, d = .int i ∧ k = .int j n) ∨ (d = .string ∧ ∃ s, k = .str s)
theorem keyFits_spec (hTT : TTOk P G.tt) {t : TypeId} {k : AV} (h : keyFits G t k = true) : ∃ d, P.underlying t = some d ∧ KeyKind d k := by
  unfold keyFits at h
  split at h
  · rename_i i hi
    obtain ⟨_, d, _, _, hT⟩ := hTT _ _ hi
    have hd := hT.hd
    split at h
    · rename_i ei; rw [ei] at hd; cases td_int hd; exact ⟨_, hT.hund, .inl ⟨_, _, _, rfl, rfl⟩⟩
    · rename_i ei; rw [ei] at hd; cases td_str hd; exact ⟨_, hT.hund, .inr ⟨rfl, _, rfl⟩⟩
    · cases h
  · cases h
theorem sameNow_sound {d : TypeDesc} {k a : AV} {uk ua : Value} {b : Bool} (hk : KeyKind d k) (h1 : VR K k uk) (h2 : VR K a ua) (h : keyEq k a = some b) : Instr.sameNow d uk ua = some b ∧ (b = true → uk = ua) := by
  rcases hk with ⟨i, j, n, rfl, rfl⟩ | ⟨rfl, s, rfl⟩
  · cases a with
    | int k' m' =>
      simp only [keyEq, atomEq] at h
      split at h
      · rename_i hkk
        have := kindEq_eq hkk
        subst this
        cases h
        rw [h1.int_inv, h2.int_inv, intEq_eq]
        refine ⟨by simp [Instr.sameNow], fun hb => by rw [show n = m' from by simpa using hb]⟩
      · cases h
    | _ => cases h
  · cases a with
    | str s' =>
      simp only [keyEq, atomEq, Option.some.injEq] at h
      subst h
      obtain ⟨p, rfl, rfl⟩ := h1.str_inv
      obtain ⟨q, rfl, rfl⟩ := h2.str_inv
      rw [bytesEq_eq]
      refine ⟨by simp only [Instr.sameNow]; rw [beq_toListBytes, toList_list, toList_list], fun hb => ?_⟩
      have : p.data.toList = q.data.toList := by simpa using hb
      congr 1
      apply ByteArray.ext
      exact Array.ext' this
    | _ => cases h
theorem findKey_sound {d : TypeDesc} {k : AV} {uk : Value} (hk : KeyKind d k) (h1 : VR K k uk) : ∀ {es : List (Nat × AV × AV)} {ms : List MapEntry} {r : Option AV} (i : Nat), EsRel K es ms → findKey k es = some r →
    ∃ q, Instr.findNow d uk ms i = some q ∧ match r, q with
      | none, none => True
      | some v, some (_, u) => VR K v u
      | _, _ => False
  | [], ms, r, i, hs, h => by
    rw [hs.inv_nil]
    simp [findKey] at h; subst h
    exact ⟨none, rfl, trivial⟩
  | (b, a, v) :: es, ms, r, i, hs, h => by
    obtain ⟨m, ns, rfl, ⟨hb, ha, hv⟩, hr⟩ := hs.inv_cons
    simp only [findKey] at h
    split at h
    · rename_i heq
      cases h
      exact ⟨some (i, m.val), by simp [Instr.findNow, (sameNow_sound hk h1 ha heq).1], hv⟩
    · rename_i heq
      obtain ⟨q, h2, h3⟩ := findKey_sound hk h1 (i + 1) hr h
      exact ⟨q, by simp [Instr.findNow, (sameNow_sound hk h1 ha heq).1, h2], h3⟩
    · cases h
/-- put: what stands there is replaced in place, or it comes behind all -/
theorem putKey_sound {d : TypeDesc} {k v : AV} {uk uv : Value} (hk : KeyKind d k) (h1 : VR K k uk) (hv : VR K v uv) {c : Nat} : ∀ {es es' : List (Nat × AV × AV)} {c' : Nat} {ms : List MapEntry} (i : Nat), EsRel K es ms → putKey c k v es = some (es', c') →
    (∃ (j : Nat) (m : MapEntry), ms[j]? = some m ∧ m.key = uk ∧ Instr.findNow d uk ms i = some (some (i + j, m.val)) ∧ c' = c ∧ EsRel K es' (ms.modify j fun e => { e with key := uk, val := uv })) ∨
    (Instr.findNow d uk ms i = some none ∧ c' = c + 1 ∧ EsRel K es' (ms ++ [{ key := uk, val := uv, born := c }]))
  | [], es', c', ms, i, hs, h => by
    rw [hs.inv_nil]
    simp [putKey] at h
    obtain ⟨rfl, rfl⟩ := h
    exact .inr ⟨rfl, rfl, .cons ⟨rfl, h1, hv⟩ .nil⟩
  | (b, a, u) :: es, es', c', ms, i, hs, h => by
    obtain ⟨m, ns, rfl, ⟨hb, ha, hu⟩, hr⟩ := hs.inv_cons
    simp only [putKey] at h
    split at h
    · rename_i heq
      cases h
      obtain ⟨g1, g2⟩ := sameNow_sound hk h1 ha heq
      refine .inl ⟨0, m, rfl, (g2 rfl).symm, by simp [Instr.findNow, g1], rfl, ?_⟩
      simp only [List.modify_zero_cons]
      exact .cons ⟨hb, h1, hv⟩ hr
    · rename_i heq
      obtain ⟨g1, g2⟩ := sameNow_sound hk h1 ha heq
      simp only [Option.map_eq_some_iff, Prod.exists] at h
      obtain ⟨es1, c1, h2, h3⟩ := h
      cases h3
      rcases putKey_sound hk h1 hv (i + 1) hr h2 with ⟨j, m', e1, e2, e3, e4, e5⟩ | ⟨e1, e2, e3⟩
      · refine .inl ⟨j + 1, m', by simpa using e1, e2, ?_, e4, ?_⟩
        · simp only [Instr.findNow, g1, e3]; congr 3; omega
        · simp only [List.modify_succ_cons]
          exact .cons ⟨hb, ha, hu⟩ e5
      · refine .inr ⟨by simp [Instr.findNow, g1, e1], e2, .cons ⟨hb, ha, hu⟩ e3⟩
    · cases h
theorem delKey_sound {d : TypeDesc} {k : AV} {uk : Value} (hk : KeyKind d k) (h1 : VR K k uk) : ∀ {es es' : List (Nat × AV × AV)} {ms : List MapEntry} (i : Nat), EsRel K es ms → delKey k es = some es' →
    (∃ (j : Nat) (u : Value), Instr.findNow d uk ms i = some (some (i + j, u)) ∧ j < ms.length ∧ EsRel K es' (ms.eraseIdx j)) ∨ (Instr.findNow d uk ms i = some none ∧ EsRel K es' ms)
  | [], es', ms, i, hs, h => by
    rw [hs.inv_nil]
    simp [delKey] at h
    subst h
    exact .inr ⟨rfl, .nil⟩
  | (b, a, u) :: es, es', ms, i, hs, h => by
    obtain ⟨m, ns, rfl, ⟨hb, ha, hu⟩, hr⟩ := hs.inv_cons
    simp only [delKey] at h
    split at h
    · rename_i heq
      cases h
      exact .inl ⟨0, m.val, by simp [Instr.findNow, (sameNow_sound hk h1 ha heq).1], by simp, by simpa using hr⟩
    · rename_i heq
      have g1 := (sameNow_sound hk h1 ha heq).1
      simp only [Option.map_eq_some_iff] at h
      obtain ⟨es1, h2, rfl⟩ := h
      rcases delKey_sound hk h1 (i + 1) hr h2 with ⟨j, x, e1, e2, e3⟩ | ⟨e1, e2⟩
      · refine .inl ⟨j + 1, x, ?_, by simp; omega, ?_⟩
        · simp only [Instr.findNow, g1, e1]; congr 3; omega
        · simp only [List.eraseIdx_cons_succ]
          exact .cons ⟨hb, ha, hu⟩ e3
      · exact .inr ⟨by simp [Instr.findNow, g1, e1], .cons ⟨hb, ha, hu⟩ e2⟩
    · cases h

theorem run_checkKey {d : TypeDesc} {t : TypeId} {k : AV} {uk : Value} (hu : P.underlying t = some d) (hk : KeyKind d k) (h1 : VR K k uk) (empty : Bool) (n : Nat) : (Instr.checkKey empty (n + 1) t uk).run P w = .ok () w := by
  rcases hk with ⟨i, j, m, rfl, rfl⟩ | ⟨rfl, s, rfl⟩
  · rw [h1.int_inv]; simp [Instr.checkKey, run_underlying hu]
  · obtain ⟨p, rfl, rfl⟩ := h1.str_inv; simp [Instr.checkKey, run_underlying hu]
theorem run_checkKey' {d : TypeDesc} {t : TypeId} {k : AV} {uk : Value} (hu : P.underlying t = some d) (hk : KeyKind d k) (h1 : VR K k uk) (empty : Bool) : (Instr.checkKey empty 10000 t uk).run P w = .ok () w := run_checkKey hu hk h1 empty 9999
theorem run_findKey' {kt : TypeId} {d : TypeDesc} {k : Value} {l : List MapEntry} {a : Option (Nat × Value)} (hd : P.underlying kt = some d) (h : Instr.findNow d k l 0 = some a) : (Instr.findKey kt k l).run P w = .ok a w := by
  simp [Instr.findKey, run_underlying hd, h]

/-- the entries of a map -/
def mapEs (σ : Store) : AV → Option (List (Nat × AV × AV))
  | .map o => match σ.get o with | some (.map es _) => some es | _ => none
  | .nilm => some []
  | _ => none
theorem lookup_sound (hTT : TTOk P G.tt) (hS : StoreRel P K σ w) {t kt e : TypeId} {it i : TI} (hit : G.tt t = some it) (hd : it.d = .map kt e) (hi : G.tt e = some i) {m k v : AV} {um uk : Value} {ok : Bool} (hm : VR K m um) (hkv : VR K k uk)
    (hf : keyFits G kt k = true) {es : List (Nat × AV × AV)} (hes : mapEs σ m = some es) {r : Option AV} (hv : (match r with | some v => some v | none => i.val i.zero) = some v) (hr : findKey k es = some r) :
    ∃ u, (Instr.lookup t um uk ok).run P w = .ok u w ∧ VR K (if ok then .tup [v, .bool r.isSome] else v) u := by
  obtain ⟨_, d, _, _, hT⟩ := hTT _ _ hit
  have hd' := hT.hd
  rw [hd] at hd'
  cases td_map hd'
  obtain ⟨_, _, z, zv, hTe⟩ := hTT _ _ hi
  obtain ⟨dk, hku, hkk⟩ := keyFits_spec hTT hf
  have hmap : ∃ ms : List MapEntry, EsRel K es ms ∧ ((um = .map none ∧ ms = []) ∨ ∃ b c, um = .map (some b) ∧ w.heap[b]? = some (.map ⟨ms⟩ c)) := by
    unfold mapEs at hes
    split at hes
    · rename_i o
      split at hes
      · rename_i es0 c0 hg
        cases hes
        cases hm with
        | map hL =>
          rename_i L
          obtain ⟨ms, h1, h2⟩ := hS.objs o _ L hg hL
          exact ⟨ms, h2, .inr ⟨L.blk, c0, rfl, h1⟩⟩
      · cases hes
    · cases hes
      cases hm
      exact ⟨[], .nil, .inl ⟨rfl, rfl⟩⟩
    · cases hes
  obtain ⟨ms, hE, hum⟩ := hmap
  obtain ⟨q, hq1, hq2⟩ := findKey_sound hkk hkv 0 hE hr
  have hfind : ∀ w', (Instr.findKey kt uk ms).run P w' = .ok q w' := fun w' => run_findKey' hku hq1
  have hchk : ∀ b w', (Instr.checkKey b 10000 kt uk).run P w' = .ok () w' := fun b w' => run_checkKey' hku hkk hkv b
  have key : ∀ y, (match q with | some (_, v) => Result.ok (v, true) w | none => Result.ok (z, false) w) = Result.ok y w → (Instr.lookup t um uk ok).run P w = .ok (if ok then .tuple #[y.1, .bool y.2] else y.1) w := by
    intro y hy
    rcases hum with ⟨rfl, rfl⟩ | ⟨b, c, rfl, hb⟩
    · cases q with
      | none => simp at hy; subst hy; simp [Instr.lookup, run_underlying hT.hund, hchk, hfind, hTe.run_zero]
      | some p => simp at hy; subst hy; simp [Instr.lookup, run_underlying hT.hund, hchk, hfind]
    · cases q with
      | none => simp at hy; subst hy; simp [Instr.lookup, run_underlying hT.hund, getObj, Sem.run, hb, hchk, hfind, hTe.run_zero]
      | some p => simp at hy; subst hy; simp [Instr.lookup, run_underlying hT.hund, getObj, Sem.run, hb, hchk, hfind]
  have two : ∀ {x : AV} {y : Value} (b : Bool), VR K x y → VR K (if ok then .tup [x, .bool b] else x) (if ok then .tuple #[y, .bool b] else y) := fun b h => by
    cases ok
    · exact h
    · exact VR.tup' (.cons h (.cons (.bool b) .nil))
  cases r with
  | none =>
    cases q with
    | some p => exact hq2.elim
    | none => exact ⟨_, key (z, false) rfl, two false (zero_sound hTe hv)⟩
  | some v' =>
    cases hv
    cases q with
    | none => exact hq2.elim
    | some p => exact ⟨_, key (p.2, true) rfl, two true hq2⟩

theorem sameBits_refl {d : TypeDesc} {k : AV} {uk : Value} (hk : KeyKind d k) (h1 : VR K k uk) (n : Nat) : Instr.sameBits n uk uk = true := by
  rcases hk with ⟨i, j, m, rfl, rfl⟩ | ⟨rfl, s, rfl⟩
  · rw [h1.int_inv]; simp [Instr.sameBits]
  · obtain ⟨p, rfl, rfl⟩ := h1.str_inv
    simp only [Instr.sameBits]
    rw [beq_toListBytes]; simp

/-- a map's own block written -/
theorem Stp.setMap (hS : StoreRel P K σ w) {o : Nat} {x y : AObj} {L : Loc} {ob : Obj} (hg : σ.get o = some x) (hm : x.mut = true) (hL : K.loc o = some L) (_ : L.blk < w.heap.size)
    (hy : ObjRel P K { w with heap := w.heap.setIfInBounds L.blk ob } L y) : Stp P (fun _ => False) K σ w K (σ.set o y) { w with heap := w.heap.setIfInBounds L.blk ob } :=
  .write hS hg hm hL (by simp) (fun b hb' => by simp [Ne.symm hb']) rfl rfl rfl hy
theorem run_setObj {b : Nat} {ob ob' : Obj} (h : w.heap[b]? = some ob) (hn : ∀ c e f, ob ≠ .cells c e f) : (setObj b ob').run P w = .ok () { w with heap := w.heap.setIfInBounds b ob' } := by
  cases ob <;> first | (exact absurd rfl (hn _ _ _)) | simp [setObj, Sem.run, h]
theorem heap_set_same {b : Nat} {ob : Obj} (h : b < w.heap.size) : ({ w with heap := w.heap.setIfInBounds b ob } : World).heap[b]? = some ob := by
  simp [h]

theorem mapUpdate_sound (hTT : TTOk P G.tt) (hS : StoreRel P K σ w) {t kt e : TypeId} {it : TI} (hit : G.tt t = some it) (hd : it.d = .map kt e) {o : Nat} {k v : AV} {um uk uv : Value} (hm : VR K (.map o) um) (hkv : VR K k uk) (hvv : VR K v uv)
    (hf : keyFits G kt k = true) {es es' : List (Nat × AV × AV)} {c c' : Nat} (hg : σ.get o = some (.map es c)) (hp : putKey c k v es = some (es', c')) :
    ∃ w', (Instr.mapUpdate t um uk uv).run P w = .ok () w' ∧ Stp P (fun _ => False) K σ w K (σ.set o (.map es' c')) w' := by
  obtain ⟨_, d, _, _, hT⟩ := hTT _ _ hit
  have hd' := hT.hd
  rw [hd] at hd'
  cases td_map hd'
  obtain ⟨dk, hku, hkk⟩ := keyFits_spec hTT hf
  cases hm with
  | map hL =>
    rename_i L
    obtain ⟨ms, h1, h2⟩ := hS.objs o _ L hg hL
    have hblk := hS.blk o L hL
    have hchk : ∀ b w', (Instr.checkKey b 10000 kt uk).run P w' = .ok () w' := fun b w' => run_checkKey' hku hkk hkv b
    rcases putKey_sound hkk hkv hvv 0 h2 hp with ⟨j, m, e1, e2, e3, e4, e5⟩ | ⟨e1, e2, e3⟩
    · subst e4
      simp only [Nat.zero_add] at e3
      have hfind : ∀ w', (Instr.findKey kt uk ms).run P w' = .ok (some (j, m.val)) w' := fun w' => run_findKey' hku e3
      refine ⟨{ w with heap := w.heap.setIfInBounds L.blk (.map ⟨ms.modify j fun e => { e with key := uk, val := uv }⟩ c') }, ?_, .setMap hS hg rfl hL hblk ⟨_, heap_set_same hblk, e5⟩⟩
      have hst : (Instr.keyThatStays uk uk).run P w = .ok uk w := by simp [Instr.keyThatStays, sameBits_refl hkk hkv]
      simp [Instr.mapUpdate, run_underlying hT.hund, getObj, Sem.run, h1, hchk, hfind, e1, e2, hst, run_setObj h1 (fun _ _ _ e => by cases e)]
    · subst e2
      have hfind : ∀ w', (Instr.findKey kt uk ms).run P w' = .ok none w' := fun w' => run_findKey' hku e1
      refine ⟨{ w with heap := w.heap.setIfInBounds L.blk (.map ⟨ms ++ [{ key := uk, val := uv, born := c }]⟩ (c + 1)) }, ?_, .setMap hS hg rfl hL hblk ⟨_, heap_set_same hblk, e3⟩⟩
      simp [Instr.mapUpdate, run_underlying hT.hund, getObj, Sem.run, h1, hchk, hfind, run_setObj h1 (fun _ _ _ e => by cases e)]

theorem delete_sound (hTT : TTOk P G.tt) (hS : StoreRel P K σ w) {t kt e : TypeId} {it : TI} {ts : Array TypeId} {ty : TypeId} (ht : ts[0]? = some t) (hit : G.tt t = some it) (hd : it.d = .map kt e) {o : Nat} {k : AV} {um uk : Value} (hm : VR K (.map o) um) (hkv : VR K k uk)
    (hf : keyFits G kt k = true) {es es' : List (Nat × AV × AV)} {c : Nat} (hg : σ.get o = some (.map es c)) (hp : delKey k es = some es') :
    Does P (fun _ => False) K σ w (Builtin.delete_ ts ty #[um, uk]) (.tup []) (σ.set o (.map es' c)) := by
  obtain ⟨_, d, _, _, hT⟩ := hTT _ _ hit
  have hd' := hT.hd
  rw [hd] at hd'
  cases td_map hd'
  obtain ⟨dk, hku, hkk⟩ := keyFits_spec hTT hf
  cases hm with
  | map hL =>
    rename_i L
    obtain ⟨ms, h1, h2⟩ := hS.objs o _ L hg hL
    have hblk := hS.blk o L hL
    have hchk : ∀ b w', (Instr.checkKey b 10000 kt uk).run P w' = .ok () w' := fun b w' => run_checkKey' hku hkk hkv b
    have unit : VR K (.tup []) (.tuple #[]) := VR.tup' .nil
    rcases delKey_sound hkk hkv 0 h2 hp with ⟨j, u, e1, e2, e3⟩ | ⟨e1, e2⟩
    · simp only [Nat.zero_add] at e1
      have hfind : ∀ w', (Instr.findKey kt uk ms).run P w' = .ok (some (j, u)) w' := fun w' => run_findKey' hku e1
      refine ⟨.tuple #[], { w with heap := w.heap.setIfInBounds L.blk (.map ⟨ms.eraseIdx j⟩ c) }, K, ?_, unit, .setMap hS hg rfl hL hblk ⟨_, heap_set_same hblk, e3⟩⟩
      have he : (⟨ms⟩ : Array MapEntry).eraseIdxIfInBounds j = ⟨ms.eraseIdx j⟩ := by
        apply Array.ext'
        simp
      simp [Builtin.delete_, ht, run_underlying hT.hund, getObj, Sem.run, h1, hchk, hfind, run_setObj h1 (fun _ _ _ e => by cases e)]
    · have hfind : ∀ w', (Instr.findKey kt uk ms).run P w' = .ok none w' := fun w' => run_findKey' hku e1
      refine ⟨.tuple #[], { w with heap := w.heap.setIfInBounds L.blk (.map ⟨ms⟩ c) }, K, ?_, unit, .setMap hS hg rfl hL hblk ⟨_, heap_set_same hblk, e2⟩⟩
      simp [Builtin.delete_, ht, run_underlying hT.hund, getObj, Sem.run, h1, hchk, hfind, run_setObj h1 (fun _ _ _ e => by cases e)]
end Go.Ev
