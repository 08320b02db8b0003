/-
  RoomNil's run, by the evaluator.
-/
import Derived.Test.YtainnmkcbmiboaaGreatDoorInst
namespace Go.Proofs.Inst
open Go Go.Ev
def isTrue : Option (OR × Store) → Bool
  | some (.val (.bool true), _) => true
  | _ => false
def thenC (r : CR) (k : Fr → Store → CR) : CR := match r with
  | some (.norm, fr, σ) => k fr σ
  | r => r
theorem evCode_seq (n fid live : Nat) (ro : Option Nat) (a b : Code) (fr : Fr) (σ : Store) : evCode G (n + 1) fid live ro (.seq a b) fr σ = thenC (evCode G n fid live ro a fr σ) (fun fr σ => evCode G n fid live ro b fr σ) := by
  simp only [evCode]; rfl
def condC : Option AV → CR → CR → CR
  | some (.bool true), a, _ => a
  | some (.bool false), _, b => b
  | _, _, _ => none
theorem condC_bool (d : Bool) (a b : CR) : condC (some (.bool d)) a b = cond d a b := by cases d <;> rfl
theorem evCode_cond (n fid live : Nat) (ro : Option Nat) (x : Operand) (a b : Code) (fr : Fr) (σ : Store) : evCode G (n + 1) fid live ro (.cond x a b) fr σ = condC (opd G fr.env x) (evCode G n fid live ro a fr σ) (evCode G n fid live ro b fr σ) := by
  simp only [evCode]
  generalize opd G fr.env x = v
  cases v with
  | none => rfl
  | some v => cases v <;> first | rfl | (rename_i d; cases d <;> rfl)
def fst : Code → Code
  | .seq a _ => a
  | c => c
def snd : Code → Code
  | .seq _ b => b
  | c => c
def isSeq : Code → Bool
  | .seq _ _ => true
  | _ => false
theorem seq_of {c : Code} (h : isSeq c = true) : c = .seq (fst c) (snd c) := by cases c <;> first | rfl | cases h
noncomputable def body3 : Code := match Tryz.f3.body with | some b => b | none => .skip
noncomputable def live3 : Nat := match Ev.look tab 3 with | some x => x.2 | none => 0
noncomputable def fin3 : CR → Option (OR × Store)
  | some (.norm, fr, σ') => (takeMarks σ' fr.marks).bind fun σ' => (resultsOf G fr.env σ' Tryz.f3.results.toList).map fun vs => (OR.val (results1 vs), σ')
  | some (.ret, fr, σ') => (takeMarks σ' fr.marks).bind fun σ' => (resultsOf G fr.env σ' Tryz.f3.results.toList).map fun vs => (OR.val (results1 vs), σ')
  | _ => none
theorem code3 : G.code 3 = some { results := Tryz.f3.results.toList, body := body3, drop := false, live := live3, ntmps := Tryz.f3.ntmps } := by kernel_rfl
theorem prim3 : G.prim 3 = none := by kernel_rfl
theorem nt3 (k p : Int) (s : List UInt8) : Nat.blt Tryz.f3.ntmps [AV.agg [AV.int .i64 k, AV.int .i64 p, AV.str s]].length = false := by kernel_rfl
theorem call3 (n : Nat) (k p : Int) (s : List UInt8) {σ : Store} {r : OR × Store} (h : fin3 (evCode G n 3 live3 none body3 ⟨argEnv 0 [.agg [.int .i64 k, .int .i64 p, .str s]], []⟩ σ) = some r) : evCall G (n + 1) 3 [.agg [.int .i64 k, .int .i64 p, .str s]] σ = some r := by
  simp only [evCall, prim3, code3, nt3, cond_false]
  unfold fin3 at h
  split at h
  · rename_i fr σ' he
    rw [he]
    simp only [Option.bind_eq_some_iff, Option.map_eq_some_iff] at h
    obtain ⟨σ2, h1, vs, h2, rfl⟩ := h
    simp only [h1]
    rw [h2]
    rfl
  · rename_i fr σ' he
    rw [he]
    simp only [Option.bind_eq_some_iff, Option.map_eq_some_iff] at h
    obtain ⟨σ2, h1, vs, h2, rfl⟩ := h
    simp only [h1]
    rw [h2]
    rfl
  · cases h
noncomputable def c1 := snd body3
noncomputable def x1 := fst c1
noncomputable def c2 := snd c1
theorem q0 : isSeq body3 = true := by kernel_rfl
theorem q1 : isSeq c1 = true := by kernel_rfl
theorem qx : isSeq x1 = true := by kernel_rfl
def condA : Code → Code
  | .cond _ a _ => a
  | c => c
def condB : Code → Code
  | .cond _ _ b => b
  | c => c
def isCond14 : Code → Bool
  | .cond (.tmp 14) _ _ => true
  | _ => false
theorem cond_of {c : Code} (h : isCond14 c = true) : c = .cond (.tmp 14) (condA c) (condB c) := by
  unfold isCond14 at h
  split at h
  · rfl
  · cases h
theorem qc : isCond14 (snd x1) = true := by kernel_rfl
noncomputable def fr0 (k p : Int) (s : List UInt8) : Fr := ⟨argEnv 0 [.agg [.int .i64 k, .int .i64 p, .str s]], []⟩
noncomputable def R0 (k p : Int) (s : List UInt8) : CR := evCode G 999 3 live3 none (fst body3) (fr0 k p s) ⟨0, []⟩
def frOf : CR → Fr
  | some (_, fr, _) => fr
  | none => ⟨[], []⟩
def stOf : CR → Store
  | some (_, _, σ) => σ
  | none => ⟨0, []⟩
def norm : CR → Bool
  | some (.norm, _, _) => true
  | _ => false
theorem norm_eq {r : CR} (h : norm r = true) : r = some (.norm, frOf r, stOf r) := by
  match r with
  | some (.norm, _, _) => rfl
  | some (.ret, _, _) => cases h
  | some (.exit _, _, _) => cases h
  | some (.pan _, _, _) => cases h
  | none => cases h
theorem n0 (k p : Int) (s : List UInt8) : norm (R0 k p s) = true := by kernel_rfl
noncomputable def R1 (k p : Int) (s : List UInt8) : CR := evCode G 997 3 live3 none (fst x1) (frOf (R0 k p s)) (stOf (R0 k p s))
theorem n1 (k p : Int) (s : List UInt8) : norm (R1 k p s) = true := by kernel_rfl
theorem t14 (k p : Int) (s : List UInt8) : Ev.look (frOf (R1 k p s)).env 14 = some (.bool (decide ((s.length : Int) > 20000))) := by kernel_rfl
/-- The one way: awake() again. -/
noncomputable def RA (k p : Int) (s : List UInt8) : CR := evCode G 996 3 live3 none (condA (snd x1)) (frOf (R1 k p s)) (stOf (R1 k p s))
/-- The other way: on. -/
noncomputable def RB (k p : Int) (s : List UInt8) : CR := thenC (evCode G 996 3 live3 none (condB (snd x1)) (frOf (R1 k p s)) (stOf (R1 k p s))) fun fr σ => evCode G 998 3 live3 none c2 fr σ
theorem hb3 : body3 = .seq (fst body3) c1 := by unfold c1; exact seq_of q0
theorem hc1 : c1 = .seq x1 c2 := by unfold x1 c2; exact seq_of q1
theorem hx1 : x1 = .seq (fst x1) (snd x1) := seq_of qx
theorem R0_eq (k p : Int) (s : List UInt8) : evCode G 999 3 live3 none (fst body3) (fr0 k p s) ⟨0, []⟩ = R0 k p s := by unfold R0; with_reducible rfl
theorem R1_eq (k p : Int) (s : List UInt8) : evCode G 997 3 live3 none (fst x1) (frOf (R0 k p s)) (stOf (R0 k p s)) = R1 k p s := by unfold R1; with_reducible rfl
theorem RA_eq (k p : Int) (s : List UInt8) : evCode G 996 3 live3 none (condA (snd x1)) (frOf (R1 k p s)) (stOf (R1 k p s)) = RA k p s := by unfold RA; with_reducible rfl
theorem RB_eq (k p : Int) (s : List UInt8) : thenC (evCode G 996 3 live3 none (condB (snd x1)) (frOf (R1 k p s)) (stOf (R1 k p s))) (fun fr σ => evCode G 998 3 live3 none c2 fr σ) = RB k p s := by unfold RB; with_reducible rfl
theorem body_is (k p : Int) (s : List UInt8) : evCode G 1000 3 live3 none body3 (fr0 k p s) ⟨0, []⟩ = thenC (cond (decide ((s.length : Int) > 20000)) (RA k p s) (evCode G 996 3 live3 none (condB (snd x1)) (frOf (R1 k p s)) (stOf (R1 k p s)))) fun fr σ => evCode G 998 3 live3 none c2 fr σ := by
  have e0 := evCode_seq 999 3 live3 none (fst body3) c1 (fr0 k p s) ⟨0, []⟩
  have e1 := evCode_seq 998 3 live3 none x1 c2 (frOf (R0 k p s)) (stOf (R0 k p s))
  have e2 := evCode_seq 997 3 live3 none (fst x1) (snd x1) (frOf (R0 k p s)) (stOf (R0 k p s))
  have hR0 := norm_eq (n0 k p s)
  have hR1 := norm_eq (n1 k p s)
  have hc : evCode G 997 3 live3 none (snd x1) (frOf (R1 k p s)) (stOf (R1 k p s)) = cond (decide ((s.length : Int) > 20000)) (RA k p s) (evCode G 996 3 live3 none (condB (snd x1)) (frOf (R1 k p s)) (stOf (R1 k p s))) := by
    have e3 := evCode_cond 996 3 live3 none (.tmp 14) (condA (snd x1)) (condB (snd x1)) (frOf (R1 k p s)) (stOf (R1 k p s))
    rw [← cond_of qc] at e3
    rw [e3]
    simp only [opd]
    rw [t14, condC_bool, RA_eq]
  rw [R0_eq, hR0, ← hb3] at e0
  rw [R1_eq, hR1, ← hx1] at e2
  rw [e2, ← hc1] at e1
  rw [e0]
  simp only [thenC] at e1 ⊢
  rw [e1, hc]
theorem runA (k p : Int) (s : List UInt8) : isTrue (fin3 (thenC (RA k p s) fun fr σ => evCode G 998 3 live3 none c2 fr σ)) = true := by kernel_rfl
theorem runB0 (p : Int) (s : List UInt8) : isTrue (fin3 (RB (Int.ofNat 0) p s)) = true := by kernel_rfl
theorem runB1 (p : Int) (s : List UInt8) : isTrue (fin3 (RB (Int.ofNat 1) p s)) = true := by kernel_rfl
theorem runB2 (p : Int) (s : List UInt8) : isTrue (fin3 (RB (Int.ofNat 2) p s)) = true := by kernel_rfl
theorem runB3 (p : Int) (s : List UInt8) : isTrue (fin3 (RB (Int.ofNat 3) p s)) = true := by kernel_rfl
theorem runBm (m : Nat) (p : Int) (s : List UInt8) : isTrue (fin3 (RB (Int.ofNat (m + 4)) p s)) = true := by kernel_rfl
theorem runBn (m : Nat) (p : Int) (s : List UInt8) : isTrue (fin3 (RB (Int.negSucc m) p s)) = true := by kernel_rfl
theorem runB (k p : Int) (s : List UInt8) : isTrue (fin3 (RB k p s)) = true := by
  cases k with
  | negSucc m => exact runBn m p s
  | ofNat n =>
    match n with
    | 0 => exact runB0 p s
    | 1 => exact runB1 p s
    | 2 => exact runB2 p s
    | 3 => exact runB3 p s
    | m + 4 => exact runBm m p s
theorem dn_true (k p : Int) (s : List UInt8) : isTrue (fin3 (evCode G 1000 3 live3 none body3 (fr0 k p s) ⟨0, []⟩)) = true := by
  rw [body_is]
  cases decide ((s.length : Int) > 20000) with
  | true => rw [cond_true]; exact runA k p s
  | false => rw [cond_false, RB_eq]; exact runB k p s
theorem isTrue_eq {r : Option (OR × Store)} (h : isTrue r = true) : ∃ σ, r = some (.val (.bool true), σ) := by
  unfold isTrue at h
  split at h
  · exact ⟨_, rfl⟩
  · cases h
theorem run (k p : Int) (s : List UInt8) : ∃ σ, evCall G 1001 3 [.agg [.int .i64 k, .int .i64 p, .str s]] ⟨0, []⟩ = some (.val (.bool true), σ) := by
  obtain ⟨σ, h⟩ := isTrue_eq (dn_true k p s)
  exact ⟨σ, call3 1000 k p s h⟩
end Go.Proofs.Inst
