/-
  Ev: copy, clear; maps; iterators; what is frozen.
-/
import Derived.Test.YtainnmkcbmiboaaGreatDoorEvApp
namespace Go.Ev
open Go
variable {P : Program} {K : Kr} {G : Info} {σ σ' : Store} {w : World}

/-! ### copy, clear -/
theorem first_sound (hS : StoreRel P K σ w) {k n : Nat} {x : AV} {ux : Value} {m : Nat} {new : List (List AV)} (hx : VR K x ux)
    (hm : lenOf x = some m) (hnm : n ≤ m) (he : elemsOf σ k n x = some new) (hs : sound k new = true) : ∃ us, VRL K (flat new) us ∧ (∀ w' : World, (Builtin.lenOf ux).run P w' = .ok m w') ∧ (Builtin.firstCells k n ux).run P w = .ok us.toArray w ∧ us.length = n * k := by
  by_cases hstr : ∃ s, x = .str s
  · obtain ⟨s, rfl⟩ := hstr
    obtain ⟨p, rfl, rfl⟩ := hx.str_inv
    simp only [lenOf, Option.some.injEq] at hm
    subst hm
    simp only [elemsOf, if_pos hnm, Option.some.injEq] at he
    subst he
    refine ⟨(p.data.toList.take n).map fun b => Value.int .u8 b.toNat, ?_, fun _ => rfl, ?_, ?_⟩
    · rw [flat_str]
      refine ⟨by simp, fun j c v h1 h2 => ?_⟩
      simp only [List.getElem?_map, Option.map_eq_some_iff] at h1 h2
      obtain ⟨b, hb, rfl⟩ := h1
      obtain ⟨b', hb', rfl⟩ := h2
      rw [hb] at hb'; cases hb'
      exact .int _ _
    · simp [Builtin.firstCells]
      apply Array.ext'; simp
    · cases hp : (p.data.toList.take n) with
      | nil =>
        have : n = 0 ∨ p.data.toList = [] := by simpa using hp
        rcases this with h | h
        · subst h; simp
        · rw [h] at hnm; simp at hnm; subst hnm; simp
      | cons b r =>
        rw [hp] at hs
        simp only [sound, List.map_cons, List.all_cons, Bool.and_eq_true, List.length_singleton] at hs
        have := Nat.eq_of_beq_eq_true hs.1.1
        have hsz : p.size = p.data.toList.length := rfl
        rw [← this, ← hp]; simp; omega
  · obtain ⟨base, len, cap, us, rfl, h1, h2, h3, h4, h5, h6, h7, h8⟩ := elems_sound hS hx he (fun s e => hstr ⟨s, e⟩) (sound_len hs)
    have := h3 m hm
    subst this
    cases base with
    | none =>
      have : n = 0 := h7 rfl
      subst this
      have hu : us = [] := List.eq_nil_of_length_eq_zero (by simpa using h6)
      subst hu
      exact ⟨[], h5, fun _ => rfl, run_firstCells_none w k 0 m cap, by simp⟩
    | some ad => 
      have := run_firstCells_some (P := P) w k n ad m cap us h6 (h8 w rfl ad rfl)
      exact ⟨us, h5, fun _ => rfl, this, h6⟩

theorem copy_sound (hTT : TTOk P G.tt) (hS : StoreRel P K σ w) {t tx ty e : TypeId} {it : TI} (hit : G.tt t = some it) (hd : it.d = .slice e)
    {d s v : AV} {ud us : Value} (hdv : VR K d ud) (hs : VR K s us) (h : copyOf G σ e d s = some (v, σ')) :
    Does P (fun _ => False) K σ w (Builtin.copy_ #[t, tx] ty #[ud, us]) v σ' := by
  obtain ⟨inf, dd, z, zv, hT⟩ := hTT _ _ hit
  have hd' := hT.hd
  rw [hd] at hd'
  cases td_slice hd'
  have hut := hT.hund
  unfold copyOf at h
  split at h
  · rename_i i m k hi hm hk
    obtain ⟨inf', d', z', zv', hT'⟩ := hTT _ _ hi
    simp only at h
    split at h
    · cases h
    · rename_i new hnew
      split at h
      · cases h
      · rename_i hsnd
        have hsnd : sound i.size new = true := by simpa using hsnd
        obtain ⟨news, hr, hlen, hrun, hnl⟩ := first_sound hS hs hk (Nat.min_le_left _ _) hnew hsnd
        have hat := sound_atoms hsnd
        have hz : ∀ w, (Go.sizeOf e).run P w = .ok i.size w := fun w => hT'.run_size w
        have main : ∀ (base : Option Addr) (cap : Nat) (w' : World), ud = .slice base m cap → (match base with | some a => (storeCells a news).run P w | none => .ok () w) = .ok () w' →
            (Builtin.copy_ #[t, tx] ty #[ud, us]).run P w = .ok (goInt (Nat.min k m)) w' := by
          rintro base cap w' rfl hst
          cases base with
          | none => simp at hst; subst hst; simp [Builtin.copy_, run_underlying hut, hlen, hz, hrun]
          | some a => simp [Builtin.copy_, run_underlying hut, hlen, hz, hrun]; simp only at hst; rw [hst]; simp
        split at h
        · rename_i h0
          have hns : ∀ q, d ≠ .str q := by rintro q rfl; cases h
          have hvs : v = .int .i64 0 ∧ σ' = σ := by
            split at h
            · cases h
            · cases h; exact ⟨rfl, rfl⟩
          obtain ⟨rfl, rfl⟩ := hvs
          have hnn : news = [] := List.eq_nil_of_length_eq_zero (by have h0' : min k m = 0 := h0; rw [hnl, h0']; simp)
          subst hnn
          have hcase : ∃ base cap, ud = .slice base m cap := by
            cases hdv with
            | nils => simp [lenOf] at hm; subst hm; exact ⟨_, _, rfl⟩
            | sl => simp [lenOf] at hm; subst hm; exact ⟨_, _, rfl⟩
            | sl0 => simp [lenOf] at hm; subst hm; exact ⟨_, _, rfl⟩
            | tr => simp [lenOf] at hm; subst hm; exact ⟨_, _, rfl⟩
            | tr0 => simp [lenOf] at hm; subst hm; exact ⟨_, _, rfl⟩
            | str p => exact absurd rfl (hns _)
            | _ => simp [lenOf] at hm
          obtain ⟨base, cap, hud⟩ := hcase
          refine ⟨_, w, K, main base cap w hud (by cases base <;> simp [storeCells]), ?_, .refl hS⟩
          rw [h0]; exact .int _ _
        · split at h
          · rename_i o off len lim
            simp only [lenOf, Option.some.injEq] at hm
            subst hm
            split at h
            · rename_i cs ty' hg
              simp only [Option.map_eq_some_iff] at h
              obtain ⟨cs', hsp, he⟩ := h
              cases he
              cases hdv with
              | sl hL hl h1 h2 =>
                rename_i L C
                obtain ⟨w', hst, hstp⟩ := write_cells hS hg hL hsp hr hat
                exact ⟨_, w', K, main (some ⟨L.blk, L.fst + off, none⟩) C w' rfl hst, .int _ _, hstp⟩
              | sl0 ad hlim hno => rename_i hne; exact absurd (by simp) hne
            · cases h
          · cases h
  · cases h

theorem clear_sound (hTT : TTOk P G.tt) (hS : StoreRel P K σ w) {t ty : TypeId} {d : AV} {ud : Value} {ts : Array TypeId} (ht : ts[0]? = some t) (hdv : VR K d ud) (h : clearOf G σ t d = some σ') :
    Does P (fun _ => False) K σ w (Builtin.clear_ ts ty #[ud]) (.tup []) σ' := by
  unfold clearOf at h
  split at h
  · rename_i e _ _ _ _ hit
    obtain ⟨inf, dd, z, zv, hT⟩ := hTT _ _ hit
    have hd' := hT.hd
    cases td_slice hd'
    have hut := hT.hund
    have ht' : ts[0]? = some t := ht
    have unit : VR K (.tup []) (.tuple #[]) := VR.tup' .nil
    split at h
    · cases h
      rw [hdv.nils_inv]
      exact ⟨_, w, K, by simp [Builtin.clear_, ht', run_underlying hut], unit, .refl hS⟩
    · rename_i _ i o off len lim hi
      obtain ⟨inf', d', z', zv', hT'⟩ := hTT _ _ hi
      split at h
      · rename_i h0
        subst h0
        cases h
        have : ∃ b c, ud = .slice b 0 c := by cases hdv <;> exact ⟨_, _, rfl⟩
        obtain ⟨b, c, rfl⟩ := this
        refine ⟨_, w, K, ?_, unit, .refl hS⟩
        cases b <;> simp [Builtin.clear_, ht', run_underlying hut]
      · rename_i h0
        split at h
        · rename_i cs ty' hg
          simp only [Option.map_eq_some_iff] at h
          obtain ⟨cs', hsp, rfl⟩ := h
          cases hdv with
          | sl hL hl h1 h2 =>
            rename_i L C
            have hm := made_rel (K := K) hT'.zeroRel hT'.hlen len
            obtain ⟨w', hst, hstp⟩ := write_cells hS hg hL hsp hm (repl_atoms hT'.hatoms len)
            have hzs : z'.cells.size = i.size := by have := (hT'.zeroRel (K := K)).1; rw [hT'.hlen] at this; simp at this; exact this.symm
            have hzc : Builtin.zeroCells z'.cells len = madeCells z'.cells (len * i.size) := by simp [Builtin.zeroCells, madeCells, hzs]
            refine ⟨.tuple #[], w', K, ?_, unit, hstp⟩
            cases len with
            | zero => exact absurd rfl h0
            | succ n => simp [Builtin.clear_, ht', run_underlying hut, hT'.run_zero, hzc, hst]
          | sl0 ad hlim hno => exact absurd rfl h0
        · cases h
    · cases h
  · cases h
end Go.Ev
