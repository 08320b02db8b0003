/-
  Ev: operations that touch no memory.
-/
import Derived.Test.YtainnmkcbmiboaaGreatDoorEvOp
import Derived.Laws.Strings3
import Derived.Laws.Concat
import Derived.Laws.StructEq
import Derived.Laws.BytesString
import Derived.Laws.IdiomStrings
namespace Go.Ev
open Go
variable {P : Program} {K : Kr}

/-! ### Equal, as the evaluator asks it -/
theorem kindEq_eq {a b : IntKind} (h : kindEq a b = true) : a = b := by cases a <;> cases b <;> first | rfl | (simp [kindEq] at h)
theorem kindEq_refl (a : IntKind) : kindEq a a = true := by cases a <;> rfl
theorem intEq_eq (a b : Int) : intEq a b = (a == b) := by
  cases h : intEq a b with
  | true =>
    cases a <;> cases b <;> simp only [intEq] at h
    · rw [Nat.eq_of_beq_eq_true h]; simp
    · cases h
    · cases h
    · rw [Nat.eq_of_beq_eq_true h]; simp
  | false =>
    symm
    rw [beq_eq_false_iff_ne]
    rintro rfl
    cases a <;> simp [intEq] at h
theorem bytesEq_eq : ∀ (a b : List UInt8), bytesEq a b = (a == b)
  | [], [] => rfl
  | [], _ :: _ => rfl
  | _ :: _, [] => rfl
  | a :: x, b :: y => by
    simp only [bytesEq, bytesEq_eq x y]
    rw [Bool.eq_iff_iff]
    simp [UInt8.toNat_inj]

/-! ### Arithmetic -/
theorem pureOf_sound {s : Sem Value} {v : AV} (h : pureOf s = some v) : ∃ u, s = .pure u ∧ VR K v u := by
  unfold pureOf at h
  split at h
  · exact ⟨_, rfl, ofAtom_sound h⟩
  · cases h

theorem size_list (s : ByteArray) : s.data.toList.length = s.size := rfl
theorem toList_list (s : ByteArray) : s.toList = s.data.toList := ByteArray.toList_eq s

theorem VR.int_inv {k : IntKind} {n : Int} {u : Value} (h : VR K (.int k n) u) : u = .int k n := by cases h; rfl
theorem VR.bool_inv {b : Bool} {u : Value} (h : VR K (.bool b) u) : u = .bool b := by cases h; rfl
theorem VR.str_inv {s : List UInt8} {u : Value} (h : VR K (.str s) u) : ∃ b : ByteArray, u = .string b ∧ b.data.toList = s := by cases h; exact ⟨_, rfl, rfl⟩

theorem strOp_sound {w : World} {op : BinOp} {a b : ByteArray} {v : AV} {t : TypeId} (h : strOp op a.data.toList b.data.toList = some v) :
    ∃ u, (binOp op t (.string a) (.string b)).run P w = .ok u w ∧ VR K v u := by
  have e : binOp op t (.string a) (.string b) = Op.stringOp op a b := by cases op <;> rfl
  rw [e]
  unfold strOp at h
  split at h
  · split at h
    · rename_i hl
      cases h
      refine ⟨.string (a ++ b), ?_, ?_⟩
      · exact run_string_add_sum w a b (by simpa [size_list] using hl)
      · have := VR.str (K := K) (a ++ b)
        simpa using this
    · cases h
  all_goals first
    | (cases h
       refine ⟨_, rfl, ?_⟩
       simp only [toList_list, bytesEq_eq, strLess]
       exact .bool _)
    | cases h

/-- values of one cell: what '==' comes to -/
inductive EqCase (d : TypeDesc) : Value → Value → Bool → Prop
  | pnn (e : TypeId) (h : d = .pointer e) : EqCase d (.pointer none) (.pointer none) true
  | pna (e : TypeId) (a : Addr) (h : d = .pointer e) : EqCase d (.pointer none) (.pointer (some a)) false
  | pan (e : TypeId) (a : Addr) (h : d = .pointer e) : EqCase d (.pointer (some a)) (.pointer none) false
  | snn (e : TypeId) (m n m' n' : Nat) (h : d = .slice e) : EqCase d (.slice none m n) (.slice none m' n') true
  | sna (e : TypeId) (a : Addr) (m n m' n' : Nat) (h : d = .slice e) : EqCase d (.slice none m n) (.slice (some a) m' n') false
  | san (e : TypeId) (a : Addr) (m n m' n' : Nat) (h : d = .slice e) : EqCase d (.slice (some a) m n) (.slice none m' n') false
  | inn (ms : Array (String × TypeId)) (h : d = .interface ms) : EqCase d .nilIface .nilIface true
  | ina (ms : Array (String × TypeId)) (t : TypeId) (v : Value) (h : d = .interface ms) : EqCase d .nilIface (.iface t v) false
  | ian (ms : Array (String × TypeId)) (t : TypeId) (v : Value) (h : d = .interface ms) : EqCase d (.iface t v) .nilIface false
  | fnn (p r : Array TypeId) (v : Bool) (h : d = .func p r v) : EqCase d .nilFunc .nilFunc true
  | fna (p r : Array TypeId) (v : Bool) (f : Fn) (a b : Array Value) (h : d = .func p r v) : EqCase d .nilFunc (.func f a b) false
  | fan (p r : Array TypeId) (v : Bool) (f : Fn) (a b : Array Value) (h : d = .func p r v) : EqCase d (.func f a b) .nilFunc false
  | mnn (k e : TypeId) (h : d = .map k e) : EqCase d (.map none) (.map none) true
  | mna (k e : TypeId) (m : Nat) (h : d = .map k e) : EqCase d (.map none) (.map (some m)) false
  | man (k e : TypeId) (m : Nat) (h : d = .map k e) : EqCase d (.map (some m)) (.map none) false
theorem run_equalIn_case {w : World} (n : Nat) {t : TypeId} {d : TypeDesc} {a b : Value} {r : Bool} (hu : P.underlying t = some d) (h : EqCase d a b r) : (Op.equalIn (n + 1) t a b).run P w = .ok r w := by
  cases h <;> rename_i h <;> subst h <;> simp [Op.equalIn, run_underlying hu]
theorem run_equal_case {w : World} {t : TypeId} {d : TypeDesc} {a b : Value} {r : Bool} (hu : P.underlying t = some d) (h : EqCase d a b r) : (Op.equal t a b).run P w = .ok r w :=
  run_equalIn_case 9999 hu h

/-- comparison with nil, and the like: what the evaluator answers, the model answers -/
theorem valEq_sound {w : World} {t : TypeId} {i : TI} {inf : TypeInfo} {d : TypeDesc} {z : Value} {zv : AV} (hT : TyOk P t i inf d z zv) {x y : Operand} {a b : AV} {ua ub : Value} {r : Bool}
    (ha : VR K a ua) (hb : VR K b ub) (hflat : i.flat.length = i.size → ∀ cs ds us vs r, VRL K cs us → VRL K ds vs → cs.length = i.size → ds.length = i.size → cellsEq i.flat cs ds = some r →
      (∀ op w, (op = .eql ∨ op = .neq) → (eqGuard op t x y (.agg ⟨us⟩) (.agg ⟨vs⟩)).run P w = .ok () w) ∧ ∀ w, (Op.equal t (.agg ⟨us⟩) (.agg ⟨vs⟩)).run P w = .ok r w)
    (h : valEq i (isConstOp x || isConstOp y) a b = some r) :
    (∀ op, (op = .eql ∨ op = .neq) → (eqGuard op t x y ua ub).run P w = .ok () w) ∧ (Op.equal t ua ub).run P w = .ok r w ∧
      (binOp .eql t ua ub = do pure (.bool (← Op.equal t ua ub))) ∧ (binOp .neq t ua ub = do pure (.bool (!(← Op.equal t ua ub)))) := by
  have hund := hT.hund
  have hd := hT.hd
  unfold valEq at h
  rw [← hd] at h
  cases d
  case bool =>
    simp only [tdOfDesc] at h
    split at h
    · cases h; cases ha; cases hb
      exact ⟨fun op ho => by rcases ho with rfl | rfl <;> rfl, run_equal_bool w t _ _ hund, rfl, rfl⟩
    · cases h
  case interface ms =>
    simp only [tdOfDesc] at h
    split at h
    · split at h
      · rename_i hc
        cases h; cases ha; cases hb
        refine ⟨fun op ho => ?_, run_equal_case hund (.inn ms rfl), rfl, rfl⟩
        rcases ho with rfl | rfl <;> cases x <;> cases y <;> first | rfl | (simp [isConstOp] at hc)
      · cases h
    · cases h; cases ha; cases hb
      exact ⟨fun op ho => by rcases ho with rfl | rfl <;> rfl, run_equal_case hund (.ina ms _ _ rfl), rfl, rfl⟩
    · cases h; cases ha; cases hb
      exact ⟨fun op ho => by rcases ho with rfl | rfl <;> rfl, run_equal_case hund (.ian ms _ _ rfl), rfl, rfl⟩
    · cases h
  case pointer e =>
    simp only [tdOfDesc] at h
    split at h
    · cases h; cases ha; cases hb; exact ⟨fun op ho => by rcases ho with rfl | rfl <;> rfl, run_equal_case hund (.pnn e rfl), rfl, rfl⟩
    · cases h; cases ha; cases hb; exact ⟨fun op ho => by rcases ho with rfl | rfl <;> rfl, run_equal_case hund (.pna e _ rfl), rfl, rfl⟩
    · cases h; cases ha; cases hb; exact ⟨fun op ho => by rcases ho with rfl | rfl <;> rfl, run_equal_case hund (.pan e _ rfl), rfl, rfl⟩
    · cases h; cases ha; cases hb; exact ⟨fun op ho => by rcases ho with rfl | rfl <;> rfl, run_equal_case hund (.pna e _ rfl), rfl, rfl⟩
    · cases h; cases ha; cases hb; exact ⟨fun op ho => by rcases ho with rfl | rfl <;> rfl, run_equal_case hund (.pan e _ rfl), rfl, rfl⟩
    · cases h
  case slice e =>
    simp only [tdOfDesc] at h
    split at h
    · cases h; cases ha; cases hb; exact ⟨fun op ho => by rcases ho with rfl | rfl <;> rfl, run_equal_case hund (.snn e _ _ _ _ rfl), rfl, rfl⟩
    · cases h; cases ha; cases hb <;> exact ⟨fun op ho => by rcases ho with rfl | rfl <;> rfl, run_equal_case hund (.sna e _ _ _ _ _ rfl), rfl, rfl⟩
    · cases h; cases hb; cases ha <;> exact ⟨fun op ho => by rcases ho with rfl | rfl <;> rfl, run_equal_case hund (.san e _ _ _ _ _ rfl), rfl, rfl⟩
    · cases h; cases ha; cases hb <;> exact ⟨fun op ho => by rcases ho with rfl | rfl <;> rfl, run_equal_case hund (.sna e _ _ _ _ _ rfl), rfl, rfl⟩
    · cases h; cases hb; cases ha <;> exact ⟨fun op ho => by rcases ho with rfl | rfl <;> rfl, run_equal_case hund (.san e _ _ _ _ _ rfl), rfl, rfl⟩
    · cases h
  case func p q v =>
    simp only [tdOfDesc] at h
    split at h
    · cases h; cases ha; cases hb; exact ⟨fun op ho => by rcases ho with rfl | rfl <;> rfl, run_equal_case hund (.fnn p q v rfl), rfl, rfl⟩
    · cases h; cases ha; cases hb; exact ⟨fun op ho => by rcases ho with rfl | rfl <;> rfl, run_equal_case hund (.fna p q v _ _ _ rfl), rfl, rfl⟩
    · cases h; cases ha; cases hb; exact ⟨fun op ho => by rcases ho with rfl | rfl <;> rfl, run_equal_case hund (.fan p q v _ _ _ rfl), rfl, rfl⟩
    · cases h
  case map k e =>
    simp only [tdOfDesc] at h
    split at h
    · cases h; cases ha; cases hb; exact ⟨fun op ho => by rcases ho with rfl | rfl <;> rfl, run_equal_case hund (.mnn k e rfl), rfl, rfl⟩
    · cases h; cases ha; cases hb; exact ⟨fun op ho => by rcases ho with rfl | rfl <;> rfl, run_equal_case hund (.mna k e _ rfl), rfl, rfl⟩
    · cases h; cases ha; cases hb; exact ⟨fun op ho => by rcases ho with rfl | rfl <;> rfl, run_equal_case hund (.man k e _ rfl), rfl, rfl⟩
    · cases h
  all_goals
    simp only [tdOfDesc] at h
    split at h
    · split at h
      · rename_i hc
        simp only [Bool.and_eq_true] at hc
        cases ha with
        | agg hl hv =>
          cases hb with
          | agg hl' hv' =>
            obtain ⟨h1, h2⟩ := hflat (Nat.eq_of_beq_eq_true hc.1.1) _ _ _ _ r ⟨hl, hv⟩ ⟨hl', hv'⟩ (Nat.eq_of_beq_eq_true hc.1.2) (Nat.eq_of_beq_eq_true hc.2) h
            exact ⟨fun op ho => h1 op w ho, h2 w, rfl, rfl⟩
      · cases h
    · cases h
end Go.Ev
