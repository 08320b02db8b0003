/-
  Ev: structs of booleans, integers and texts: equal where all their cells are.
-/
import Derived.Test.YtainnmkcbmiboaaGreatDoorEvInfo
namespace Go.Ev
open Go
variable {P : Program} {K : Kr}

def fieldsKinds (P : Program) (kinds : TypeId → Option (List Nat)) : List Field → Nat → Nat → Option (List Nat)
  | [], off, size => cond (Nat.beq off size) (some []) none
  | f :: r, off, size => cond (!(f.name == "_") && Nat.beq f.offset off) (match kinds f.type with
    | some k => cond (Nat.beq k.length (P.cellsOf f.type)) ((fieldsKinds P kinds r (off + P.cellsOf f.type) size).map (k ++ ·)) none
    | none => none) none
def kindsOf (P : Program) : Nat → TypeId → Option (List Nat)
  | 0, _ => none
  | n + 1, t => match P.info? t, P.underlying t with
    | some _, some .bool => some [0]
    | some _, some (.int _) => some [1]
    | some _, some .string => some [2]
    | some _, some (.struct fs) => cond (P.stoodInHeld t) none (fieldsKinds P (kindsOf P n) fs.toList 0 (P.cellsOf t))
    | _, _ => none

theorem cellsEq_append : ∀ {k l : List Nat} {a b c d : List AV} {r : Bool}, a.length = k.length → c.length = k.length → cellsEq (k ++ l) (a ++ b) (c ++ d) = some r → (cellsEq k a c = some true ∧ cellsEq l b d = some r) ∨ (cellsEq k a c = some false ∧ r = false)
  | [], l, [], b, [], d, r, _, _, h => .inl ⟨rfl, h⟩
  | [], _, _ :: _, _, _, _, _, hl, _, _ => by simp at hl
  | [], _, [], _, _ :: _, _, _, _, hl, _ => by simp at hl
  | _ :: _, _, [], _, _, _, _, hl, _, _ => by simp at hl
  | _ :: _, _, _ :: _, _, [], _, _, _, hl, _ => by simp at hl
  | q :: k, l, x :: a, b, y :: c, d, r, hl, hl', h => by
    cases hxy : cellEq q x y with
    | none => simp [cellsEq, hxy] at h
    | some z =>
      cases z with
      | true =>
        have e1 : cellsEq (q :: k ++ l) (x :: a ++ b) (y :: c ++ d) = cellsEq (k ++ l) (a ++ b) (c ++ d) := by simp [cellsEq, hxy]
        have e2 : cellsEq (q :: k) (x :: a) (y :: c) = cellsEq k a c := by simp [cellsEq, hxy]
        rw [e1] at h
        rw [e2]
        exact cellsEq_append (by simpa using hl) (by simpa using hl') h
      | false =>
        have e1 : cellsEq (q :: k ++ l) (x :: a ++ b) (y :: c ++ d) = some false := by simp [cellsEq, hxy]
        have e2 : cellsEq (q :: k) (x :: a) (y :: c) = some false := by simp [cellsEq, hxy]
        rw [e1] at h
        cases h
        exact .inr ⟨e2, rfl⟩

/-- a value of a type, by its cells -/
def Of (P : Program) (t : TypeId) (us : List Value) (x : Value) : Prop :=
  match P.underlying t with
  | some (.struct _) => x = .agg ⟨us⟩
  | _ => us = [x]

theorem kinds_part {n : Nat} {t : TypeId} {k : List Nat} (h : kindsOf P n t = some k) (hk : P.cellsOf t = k.length) {us : List Value} {off : Nat} (hle : off + k.length ≤ us.length) (w : World) :
    ∃ x, (Go.part t ⟨us⟩ off).run P w = .ok x w ∧ Of P t ((us.drop off).take k.length) x := by
  cases n with
  | zero => simp [kindsOf] at h
  | succ n =>
    simp only [kindsOf] at h
    have atom : ∀ dd inf, P.info? t = some inf → P.underlying t = some dd → (match dd with | .struct _ | .array _ _ => true | _ => false) = false → k.length = 1 → (∀ fs, dd ≠ .struct fs) → ∃ x, (Go.part t ⟨us⟩ off).run P w = .ok x w ∧ Of P t ((us.drop off).take k.length) x := by
      intro dd inf hi hu hna h1 hns
      have hlt : off < us.length := by omega
      refine ⟨us[off], ?_, ?_⟩
      · have hagg : (isAgg t).run P w = .ok false w := by
          simp only [isAgg, Sem.run_bind, run_underlying hu, Result.andThen_ok]
          cases dd <;> first | rfl | simp at hna
        simp [Go.part, hagg, hlt]
      · unfold Of
        rw [hu]
        have : (us.drop off).take k.length = [us[off]] := by
          rw [h1, List.drop_eq_getElem_cons hlt]; rfl
        cases dd <;> first | exact this | exact absurd rfl (hns _)
    split at h
    · rename_i inf hi hu; cases h; exact atom _ inf hi hu rfl rfl (fun _ e => by cases e)
    · rename_i inf _ hi hu; cases h; exact atom _ inf hi hu rfl rfl (fun _ e => by cases e)
    · rename_i inf hi hu; cases h; exact atom _ inf hi hu rfl rfl (fun _ e => by cases e)
    · rename_i inf fs hi hu
      refine ⟨.agg ⟨(us.drop off).take k.length⟩, ?_, by unfold Of; rw [hu]⟩
      have hagg : (isAgg t).run P w = .ok true w := by
        simp only [isAgg, Sem.run_bind, run_underlying hu, Result.andThen_ok]; rfl
      have hsz : (Go.sizeOf t).run P w = .ok k.length w := by
        have : P.cellsOf t = inf.size := by simp [Program.cellsOf, hi]
        simp [Go.sizeOf, typeInfo, hi, ← hk, this]
      simp [Go.part, hagg, hsz]
    · cases h

theorem one_cell {a b : AV} {q : Nat} {r : Bool} {x y : Value} (ha : VR K a x) (hb : VR K b y) (h : cellEq q a b = some r) :
    (q = 0 ∧ ∃ p s, x = .bool p ∧ y = .bool s ∧ r = (p == s)) ∨ (q = 1 ∧ ∃ k n m, x = .int k n ∧ y = .int k m ∧ r = (n == m)) ∨ (q = 2 ∧ ∃ p s : ByteArray, x = .string p ∧ y = .string s ∧ r = (p.toList == s.toList)) := by
  unfold cellEq at h
  split at h
  · cases h; exact .inl ⟨rfl, _, _, ha.bool_inv, hb.bool_inv, rfl⟩
  · split at h
    · rename_i hk
      have := kindEq_eq hk
      subst this
      cases h
      exact .inr (.inl ⟨rfl, _, _, _, ha.int_inv, hb.int_inv, intEq_eq _ _⟩)
    · cases h
  · cases h
    obtain ⟨p, rfl, rfl⟩ := ha.str_inv
    obtain ⟨q, rfl, rfl⟩ := hb.str_inv
    exact .inr (.inr ⟨rfl, _, _, rfl, rfl, by rw [bytesEq_eq, toList_list, toList_list]⟩)
  · cases h

theorem kinds_equal : ∀ (n : Nat) (t : TypeId) (ks : List Nat), kindsOf P n t = some ks → ∀ (d : Nat), n ≤ d → ∀ (cs ds : List AV) (us vs : List Value) (x y : Value) (r : Bool) (w : World), VRL K cs us → VRL K ds vs → cs.length = ks.length → ds.length = ks.length → Of P t us x → Of P t vs y →
    cellsEq ks cs ds = some r → (Op.equalIn d t x y).run P w = .ok r w
  | 0, t, ks, h => by simp [kindsOf] at h
  | n + 1, t, ks, h => by
    intro d hd cs ds us vs x y r w h1 h2 hl1 hl2 hx hy he
    obtain ⟨d, rfl⟩ : ∃ e, d = e + 1 := ⟨d - 1, by omega⟩
    have single : ∀ q, ks = [q] → (∀ fs, P.underlying t ≠ some (.struct fs)) → ∃ a b, VR K a x ∧ VR K b y ∧ cellEq q a b = some r := by
      rintro q rfl hns
      have ex1 : ∀ (l : List AV), l.length = [q].length → ∃ a, l = [a] := fun l hl => by
        cases l with
        | nil => simp at hl
        | cons a r => cases r with
          | nil => exact ⟨a, rfl⟩
          | cons _ _ => simp at hl
      obtain ⟨a, rfl⟩ := ex1 cs hl1
      obtain ⟨b, rfl⟩ := ex1 ds hl2
      obtain ⟨u, rfl, hu⟩ := one_inv h1
      obtain ⟨v, rfl, hv⟩ := one_inv h2
      have hx' : u = x := by
        unfold Of at hx
        revert hx
        split
        · rename_i hh; exact absurd hh (hns _)
        · intro hx; simpa using hx
      have hy' : v = y := by
        unfold Of at hy
        revert hy
        split
        · rename_i hh; exact absurd hh (hns _)
        · intro hy; simpa using hy
      subst hx' hy'
      refine ⟨a, b, hu, hv, ?_⟩
      cases hab : cellEq q a b with
      | none => simp [cellsEq, hab] at he
      | some z => cases z <;> simp [cellsEq, hab] at he <;> simp [he]
    simp only [kindsOf] at h
    split at h
    · rename_i hi hu
      cases h
      obtain ⟨a, b, ha, hb, hc⟩ := single 0 rfl (fun fs e => by rw [hu] at e; cases e)
      rcases one_cell ha hb hc with ⟨_, p, s, rfl, rfl, rfl⟩ | ⟨h, _⟩ | ⟨h, _⟩
      · exact run_equalIn_bool' w d t p s hu
      · cases h
      · cases h
    · rename_i k hi hu
      cases h
      obtain ⟨a, b, ha, hb, hc⟩ := single 1 rfl (fun fs e => by rw [hu] at e; cases e)
      rcases one_cell ha hb hc with ⟨h, _⟩ | ⟨_, k', p, s, rfl, rfl, rfl⟩ | ⟨h, _⟩
      · cases h
      · exact run_equalIn_int w d t k' k p s hu
      · cases h
    · rename_i hi hu
      cases h
      obtain ⟨a, b, ha, hb, hc⟩ := single 2 rfl (fun fs e => by rw [hu] at e; cases e)
      rcases one_cell ha hb hc with ⟨h, _⟩ | ⟨h, _⟩ | ⟨_, p, s, rfl, rfl, rfl⟩
      · cases h
      · cases h
      · exact run_equalIn_string w d t p s hu
    · rename_i inf fs hi hu
      cases hst : P.stoodInHeld t with
      | true => rw [hst] at h; cases h
      | false =>
        rw [hst, cond_false] at h
        unfold Of at hx hy
        rw [hu] at hx hy
        simp only at hx hy
        subst hx hy
        have hf : P.fieldsOf t = fs := by simp [Program.fieldsOf, hu]
        rw [run_equalIn_struct w d t ⟨us⟩ ⟨vs⟩ (by rw [hf]; exact hu) hst, hf]
        have key : ∀ (l : List Field) (off : Nat) (k : List Nat), fieldsKinds P (kindsOf P n) l off (P.cellsOf t) = some k → off + k.length = us.length → off + k.length = vs.length → ∀ r, cellsEq k (cs.drop off) (ds.drop off) = some r → (Op.eqFields d ⟨us⟩ ⟨vs⟩ l).run P w = .ok r w := by
          intro l
          induction l with
          | nil =>
            intro off k hk ho1 ho2 r hr
            simp only [fieldsKinds] at hk
            cases hb : Nat.beq off (P.cellsOf t) with
            | false => rw [hb] at hk; cases hk
            | true =>
              rw [hb, cond_true] at hk
              cases hk
              have e1 : cs.drop off = [] := List.drop_eq_nil_of_le (by have := h1.1; simp at ho1; omega)
              have e2 : ds.drop off = [] := List.drop_eq_nil_of_le (by have := h2.1; simp at ho2; omega)
              rw [e1, e2] at hr
              simp [cellsEq] at hr
              subst hr
              simp [Op.eqFields]
          | cons f l ih =>
            intro off k hk ho1 ho2 r hr
            simp only [fieldsKinds] at hk
            cases hc : (!(f.name == "_") && Nat.beq f.offset off) with
            | false => rw [hc] at hk; cases hk
            | true =>
              rw [hc, cond_true] at hk
              simp only [Bool.and_eq_true, Bool.not_eq_true', Nat.beq_eq] at hc
              obtain ⟨hname, hoff⟩ := hc
              have hname : f.name ≠ "_" := by simpa using hname
              split at hk
              · rename_i kf hkf
                cases hb : Nat.beq kf.length (P.cellsOf f.type) with
                | false => rw [hb] at hk; cases hk
                | true =>
                  rw [hb, cond_true] at hk
                  have hb := Nat.eq_of_beq_eq_true hb
                  simp only [Option.map_eq_some_iff] at hk
                  obtain ⟨kr, hkr, rfl⟩ := hk
                  simp only [List.length_append] at ho1 ho2
                  subst hoff
                  have hcl := h1.1
                  have hdl := h2.1
                  obtain ⟨p, hp1, hp2⟩ := kinds_part hkf hb.symm (us := us) (off := f.offset) (by omega) w
                  obtain ⟨q, hq1, hq2⟩ := kinds_part hkf hb.symm (us := vs) (off := f.offset) (by omega) w
                  have s1 : cs.drop f.offset = (cs.drop f.offset).take kf.length ++ cs.drop (f.offset + kf.length) := by
                    rw [← List.drop_drop, List.take_append_drop]
                  have s2 : ds.drop f.offset = (ds.drop f.offset).take kf.length ++ ds.drop (f.offset + kf.length) := by
                    rw [← List.drop_drop, List.take_append_drop]
                  rw [s1, s2] at hr
                  have l1 : ((cs.drop f.offset).take kf.length).length = kf.length := by simp; omega
                  have l2 : ((ds.drop f.offset).take kf.length).length = kf.length := by simp; omega
                  have hfield : ∀ r1, cellsEq kf ((cs.drop f.offset).take kf.length) ((ds.drop f.offset).take kf.length) = some r1 → (Op.equalIn d f.type p q).run P w = .ok r1 w := fun r1 hr1 =>
                    kinds_equal n f.type kf hkf d (by omega) _ _ _ _ p q r1 w ((h1.drop _).take _) ((h2.drop _).take _) l1 l2 hp2 hq2 hr1
                  simp only [Op.eqFields, hname, ne_eq, not_false_eq_true, if_true, Sem.run_bind, hp1, hq1, Result.andThen_ok]
                  rcases cellsEq_append l1 l2 hr with ⟨g1, g2⟩ | ⟨g1, rfl⟩
                  · rw [hfield true g1]
                    simp only [Result.andThen_ok, Bool.not_true, Bool.false_eq_true, if_false]
                    exact ih (f.offset + P.cellsOf f.type) kr hkr (by omega) (by omega) r (by rw [← hb]; exact g2)
                  · rw [hfield false g1]
                    simp
              · cases hk
        exact key fs.toList 0 ks h (by have := h1.1; omega) (by have := h2.1; omega) r (by simpa using he)
    · cases h

def flatFn (P : Program) (t : TypeId) : List Nat :=
  match P.underlying t with
  | some (.struct _) => match kindsOf P 9 t with
    | some ks => cond (P.eqGuardType P.depth t) (9 :: List.replicate (P.cellsOf t) 9) ks
    | none => 9 :: List.replicate (P.cellsOf t) 9
  | _ => 9 :: List.replicate (P.cellsOf t) 9
theorem flatFn_ok (P : Program) {G : Info} (hG : G.tt = tiOf P (flatFn P)) : FlatOk P G := by
  intro t i hi hfl K cs ds us vs r x y h1 h2 hl1 hl2 he
  have hTT := tiOf_ok P (flatFn P)
  obtain ⟨inf, d, z, zv, hT⟩ := hTT t i (by rw [← hG]; exact hi)
  have hflat : i.flat = flatFn P t := by
    rw [hG] at hi
    unfold tiOf at hi
    split at hi
    · split at hi
      · split at hi
        · simp only at hi
          revert hi
          generalize ((match TI.val _ _ with
            | some v => AV.beq v _
            | none => false) && Nat.beq _ _ && allAtoms _) = c
          intro hi
          cases c with
          | false => cases hi
          | true => cases hi; rfl
        · cases hi
      · cases hi
    · cases hi
  have hsz := hT.cellsOf
  have hbad : ¬ (9 :: List.replicate (P.cellsOf t) 9).length = i.size := by simp; omega
  rw [hflat] at hfl he
  unfold flatFn at hfl he
  split at hfl
  · rename_i fs hu
    rw [hu] at he
    simp only at he
    split at hfl
    · rename_i ks hks
      rw [hks] at he
      simp only at he
      cases hg : P.eqGuardType P.depth t with
      | true => rw [hg, cond_true] at hfl; exact absurd hfl hbad
      | false =>
        rw [hg, cond_false] at hfl he
        have ho : ∀ us : List Value, Of P t us (.agg ⟨us⟩) := fun us => by unfold Of; rw [hu]
        refine ⟨fun op w _ => run_eqGuard_agg w op t x y _ _ hg, fun w => ?_⟩
        exact kinds_equal 9 t ks hks 10000 (by omega) cs ds us vs _ _ r w h1 h2 (by omega) (by omega) (ho us) (ho vs) he
    · exact absurd hfl hbad
  · exact absurd hfl hbad
end Go.Ev
