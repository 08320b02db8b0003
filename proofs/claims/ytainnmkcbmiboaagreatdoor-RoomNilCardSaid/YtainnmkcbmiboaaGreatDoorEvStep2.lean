/-
  Ev: what the evaluator says of an operation, the machine does.
-/
import Derived.Test.YtainnmkcbmiboaaGreatDoorEvStep
namespace Go.Ev
open Go
variable {P : Program} {K : Kr} {G : Info} {σ σ' : Store} {w : World}
variable {C : Oracle} {Y : Yielder} {ro : Option Nat} {n : Nat} {o : Oper} {a : Act} {next : Act → World → Prop} {Q : Exit → Act → World → Prop}

/-- What may follow upon an operation. -/
structure Then (P : Program) (K : Kr) (σ : Store) (w : World) (o : Oper) (a : Act) (ex : Nat → Prop) (r : OR) (σ' : Store) (next : Act → World → Prop) (Q : Exit → Act → World → Prop) : Prop where
  val : ∀ v, r = .val v → ∀ K' w' u, Stp P ex K σ w K' σ' w' → VR K' v u → next (a.put o.dst u) w'
  pan : ∀ v, r = .pan v → ∀ K' w' u, Stp P ex K σ w K' σ' w' → VR K' v u → Q (.panic [{ v := u, recovered := false }]) a w'

theorem Then.pure {ex : Nat → Prop} {v : AV} (hS : StoreRel P K σ w) (h : Then P K σ w o a ex (.val v) σ next Q) (hd : ∀ c, o.op ≠ .defer c) {s : Sem Value} (he : execOp a.eval o = (do pure (.value (← s))))
    (hs : ∃ u, s.run P w = .ok u w ∧ VR K v u) : o.wpIn (fence ro) n P a w next Q :=
  wpIn_does hd he (Does.pure hS (ex := ex) hs) (h.val v rfl)
theorem pure1_inv {r : Option AV} {q : OR} (h : pure1 σ r = some (q, σ')) : ∃ v, r = some v ∧ q = .val v ∧ σ' = σ := by
  unfold pure1 at h
  simp only [Option.map_eq_some_iff, Prod.mk.injEq] at h
  obtain ⟨v, h1, h2, h3⟩ := h
  exact ⟨v, h1, h2.symm, h3.symm⟩
theorem val1_inv {r : Option (AV × Store)} {q : OR} (h : val1 r = some (q, σ')) : ∃ v, r = some (v, σ') ∧ q = .val v := by
  unfold val1 at h
  simp only [Option.map_eq_some_iff, Prod.exists, Prod.mk.injEq] at h
  obtain ⟨v, s, h1, h2, h3⟩ := h
  subst h3
  exact ⟨v, h1, h2.symm⟩
theorem value_pure {s : Sem Value} {x : Value} (h : s = Pure.pure x) : (do pure (.value (← s)) : Sem Next) = Pure.pure (.value x) := by rw [h]; rfl

theorem one_inv {x : AV} {us : List Value} (h : VRL K [x] us) : ∃ u, us = [u] ∧ VR K x u := by
  obtain ⟨u, r, rfl, h1, h2⟩ := h.inv_cons
  rw [h2.inv_nil]; exact ⟨u, rfl, h1⟩
theorem two_inv {x y : AV} {us : List Value} (h : VRL K [x, y] us) : ∃ u v, us = [u, v] ∧ VR K x u ∧ VR K y v := by
  obtain ⟨u, r, rfl, h1, h2⟩ := h.inv_cons
  obtain ⟨v, rfl, h3⟩ := one_inv h2
  exact ⟨u, v, rfl, h1, h3⟩
theorem bind_tt {ts : Array TypeId} {j : Nat} {i : TI} (h : (ts[j]?).bind G.tt = some i) : ∃ t, ts[j]? = some t ∧ G.tt t = some i := Option.bind_eq_some_iff.1 h
theorem len_sound (hTT : TTOk P G.tt) (hS : StoreRel P K σ w) {ts : Array TypeId} {ty : TypeId} {x : AV} {u : Value} {n : Nat} {i : TI} (hi : (ts[0]?).bind G.tt = some i) (hx : VR K x u)
    (h : lenBy σ i.d x = some n) : ∃ u', (Builtin.len_ ts ty #[u]).run P w = .ok u' w ∧ VR K (.int .i64 n) u' := by
  obtain ⟨t, ht, hi⟩ := bind_tt hi
  obtain ⟨_, d, _, _, hT⟩ := hTT _ _ hi
  have hd := hT.hd
  have hu := hT.hund
  refine ⟨.int .i64 n, ?_, .int _ _⟩
  unfold lenBy at h
  split at h
  · rename_i ei
    rw [ei] at hd; cases td_str hd
    split at h
    · cases h
      obtain ⟨p, rfl, rfl⟩ := hx.str_inv
      simp [Builtin.len_, ht, run_underlying hu, goInt]
    · cases h
  · rename_i ei
    rw [ei] at hd; cases td_slice hd
    split at h
    · cases h
    · rename_i hns
      have : ∃ b c, u = .slice b n c := by
        cases hx with
        | nils => simp [lenOf] at h; subst h; exact ⟨_, _, rfl⟩
        | sl => simp [lenOf] at h; subst h; exact ⟨_, _, rfl⟩
        | sl0 => simp [lenOf] at h; subst h; exact ⟨_, _, rfl⟩
        | tr => simp [lenOf] at h; subst h; exact ⟨_, _, rfl⟩
        | tr0 => simp [lenOf] at h; subst h; exact ⟨_, _, rfl⟩
        | str p => exact absurd rfl (hns _)
        | _ => simp [lenOf] at h
      obtain ⟨b, c, rfl⟩ := this
      simp [Builtin.len_, ht, run_underlying hu, goInt]
  · rename_i ei
    rw [ei] at hd; cases td_arr hd
    cases h
    simp [Builtin.len_, ht, run_underlying hu, goInt]
  · rename_i ei
    rw [ei] at hd; cases td_map hd
    split at h
    · split at h
      · rename_i o es c hg
        cases h
        cases hx with
        | map hL =>
          obtain ⟨ms, h1, h2⟩ := hS.objs _ _ _ hg hL
          simp [Builtin.len_, ht, run_underlying hu, goInt, getObj, Sem.run, h1, h2.1]
      · cases h
    · cases h
      cases hx
      simp [Builtin.len_, ht, run_underlying hu, goInt]
    · cases h
  · cases h
theorem builtin_sound (hTT : TTOk P G.tt) (hG : GlobRel G K) (hS : StoreRel P K σ w) {q : Nat} (hn : K.loc q = none) (hq : q < σ.next) (hg : σ.get q = none) {b : Builtin} {ts : Array TypeId} {ty : TypeId} {consts : Array Bool} {args : List AV} {us : List Value} {v : AV}
    (hr : VRL K args us) (h : builtinOf G σ q b ts args = some (v, σ')) : ∃ s, builtin b ts ty consts ⟨us⟩ = (do pure (.value (← s))) ∧ Does P (· = q) K σ w s v σ' := by
  unfold builtinOf at h
  split at h
  · -- len
    obtain ⟨u, rfl, hu⟩ := one_inv hr
    refine ⟨_, rfl, ?_⟩
    split at h
    · rename_i i hi
      simp only [Option.map_eq_some_iff, Prod.mk.injEq] at h
      obtain ⟨n, h1, rfl, rfl⟩ := h
      exact Does.pure hS (len_sound hTT hS hi hu h1)
    · cases h
  · -- min
    simp only [Option.map_eq_some_iff, Prod.mk.injEq] at h
    obtain ⟨v, h1, rfl, rfl⟩ := h
    unfold minMaxOf at h1
    split at h1
    · obtain ⟨u, v, rfl, hu, hv⟩ := two_inv hr
      cases h1
      rw [hu.int_inv, hv.int_inv]
      exact ⟨_, rfl, Does.pure hS ⟨_, by simp [Builtin.min_, Builtin.min2], .int _ _⟩⟩
    · cases h1
  · -- max
    simp only [Option.map_eq_some_iff, Prod.mk.injEq] at h
    obtain ⟨v, h1, rfl, rfl⟩ := h
    unfold minMaxOf at h1
    split at h1
    · obtain ⟨u, v, rfl, hu, hv⟩ := two_inv hr
      cases h1
      rw [hu.int_inv, hv.int_inv]
      exact ⟨_, rfl, Does.pure hS ⟨_, by simp [Builtin.max_, Builtin.max2], .int _ _⟩⟩
    · cases h1
  · -- append
    obtain ⟨u, v, rfl, hu, hv⟩ := two_inv hr
    refine ⟨_, rfl, ?_⟩
    split at h
    · rename_i e _ _ _ _ j hi hj
      obtain ⟨t, ht, hi⟩ := bind_tt hi
      obtain ⟨tx, htx, hj⟩ := bind_tt hj
      have hts : ∀ ty us, Builtin.append_ ts ty us = Builtin.append_ #[t, tx] ty us := fun ty us => by
        unfold Builtin.append_
        simp [ht, htx]
      rw [hts]
      split at h
      · rename_i e' hje
        exact append_sound hTT hG hS hn hq hg hi rfl hj (.inl ⟨e', hje⟩) hu hv h
      · rename_i hje
        exact append_sound hTT hG hS hn hq hg hi rfl hj (.inr hje) hu hv h
      · cases h
    · cases h
  · -- copy
    obtain ⟨u, v, rfl, hu, hv⟩ := two_inv hr
    refine ⟨_, rfl, ?_⟩
    split at h
    · rename_i e _ _ _ _ hi
      obtain ⟨t, ht, hi⟩ := bind_tt hi
      have hts : ∀ ty us, Builtin.copy_ ts ty us = Builtin.copy_ #[t, t] ty us := fun ty us => by
        unfold Builtin.copy_
        simp [ht]
      rw [hts]
      exact (copy_sound hTT hS hi rfl hu hv h).weaken fun _ h => h.elim
    · cases h
  · -- clear
    obtain ⟨u, rfl, hu⟩ := one_inv hr
    refine ⟨_, rfl, ?_⟩
    split at h
    · rename_i t ht
      simp only [Option.map_eq_some_iff, Prod.mk.injEq] at h
      obtain ⟨σ1, h1, rfl, rfl⟩ := h
      exact (clear_sound hTT hS ht hu h1).weaken fun _ h => h.elim
    · cases h
  · -- delete
    obtain ⟨u, v, rfl, hu, hv⟩ := two_inv hr
    refine ⟨_, rfl, ?_⟩
    split at h
    · rename_i kt e _ _ _ _ hi
      obtain ⟨t, ht, hi⟩ := bind_tt hi
      split at h
      · rename_i hf
        split at h
        · rename_i m
          split at h
          · rename_i es c hgm
            simp only [Option.map_eq_some_iff, Prod.mk.injEq] at h
            obtain ⟨es', h1, rfl, rfl⟩ := h
            exact (delete_sound hTT hS ht hi rfl hu hv hf hgm h1).weaken fun _ h => h.elim
          · cases h
        · cases h
      · cases h
    · cases h
  · cases h
theorem evOp_sound (hT : Told P G) (hC : OracleOk P G C) (hY : YielderOk P G Y) {env : Env} {q : Nat} {r : OR} (h : evOp G C Y q o env σ = some (r, σ'))
    (hS : StoreRel P K σ w) (hG : GlobRel G K) (hO : OpsRel G K env a o) (hn : K.loc q = none) (hq : q < σ.next) (hg : σ.get q = none)
    (hr : Then P K σ w o a (· = q) r σ' next Q) : o.wpIn (fence ro) n P a w next Q := by
  have hTT := hT.tt
  unfold OpsRel at hO
  unfold evOp at h
  simp only at h
  split at h
  · -- move
    rename_i x ho
    obtain ⟨v, h1, rfl, rfl⟩ := pure1_inv h
    have hd : ∀ c, o.op ≠ .defer c := fun c e => by rw [ho] at e; cases e
    exact wpIn_value (u := a.eval x) hd (by simp only [execOp, ho]; rfl) (hr.val v rfl K w _ (.refl hS) (hO x (by rw [ho]; simp [Op.operands]) v h1))
  · rename_i x ho
    obtain ⟨v, h1, rfl, rfl⟩ := pure1_inv h
    have hd : ∀ c, o.op ≠ .defer c := fun c e => by rw [ho] at e; cases e
    exact wpIn_value (u := a.eval x) hd (by simp only [execOp, ho]; rfl) (hr.val v rfl K w _ (.refl hS) (hO x (by rw [ho]; simp [Op.operands]) v h1))
  · rename_i c x y ho
    have hd : ∀ c, o.op ≠ .defer c := fun c e => by rw [ho] at e; cases e
    split at h
    · rename_i hc
      obtain ⟨v, h1, rfl, rfl⟩ := pure1_inv h
      have hcv := (hO c (by rw [ho]; simp [Op.operands]) _ hc).bool_inv
      exact wpIn_value (u := a.eval x) hd (by simp [execOp, ho, hcv, asBool]) (hr.val v rfl K w _ (.refl hS) (hO x (by rw [ho]; simp [Op.operands]) v h1))
    · rename_i hc
      obtain ⟨v, h1, rfl, rfl⟩ := pure1_inv h
      have hcv := (hO c (by rw [ho]; simp [Op.operands]) _ hc).bool_inv
      exact wpIn_value (u := a.eval y) hd (by simp [execOp, ho, hcv, asBool]) (hr.val v rfl K w _ (.refl hS) (hO y (by rw [ho]; simp [Op.operands]) v h1))
    · cases h
  · -- alloc
    rename_i e ho
    have hd : ∀ c, o.op ≠ .defer c := fun c e => by rw [ho] at e; cases e
    split at h
    · rename_i i hi
      cases h
      exact wpIn_does hd (by simp only [execOp, ho]) (alloc_sound hS hn hq hg hTT hi) (hr.val _ rfl)
    · cases h
  · -- box
    rename_i e x ho
    have hd : ∀ c, o.op ≠ .defer c := fun c e => by rw [ho] at e; cases e
    split at h
    · rename_i i v hi hv
      split at h
      · rename_i hc
        simp only [Bool.and_eq_true] at hc
        cases h
        exact wpIn_does hd (by simp only [execOp, ho]) (box_sound hS hn hq hg (hO x (by rw [ho]; simp [Op.operands]) v hv) hc.2) (hr.val _ rfl)
      · cases h
    · cases h
  · -- build
    rename_i t ps ho
    have hd : ∀ c, o.op ≠ .defer c := fun c e => by rw [ho] at e; cases e
    split at h
    · rename_i l hl
      obtain ⟨v, h1, rfl, rfl⟩ := pure1_inv h
      have hp := partsOf_sound (K := K) (a := a) (fun x hx v hv => hO x.2 (by rw [ho]; simp only [Op.operands, List.mem_toArray, List.mem_map]; exact ⟨x, hx, rfl⟩) v hv) hl
      refine hr.pure hS hd (s := Instr.build t (ps.map fun (i, x) => (i, a.eval x))) (by simp only [execOp, ho]) (build_sound hTT (by simpa using hp) h1)
    · cases h
  · -- buildSlice
    rename_i t len ps ho
    have hd : ∀ c, o.op ≠ .defer c := fun c e => by rw [ho] at e; cases e
    split at h
    · rename_i e _ _ _ _ l hi hl
      split at h
      · rename_i i hj
        split at h
        · rename_i hc
          simp only [Bool.and_eq_true, decide_eq_true_eq] at hc
          simp only [Option.map_eq_some_iff] at h
          obtain ⟨cs, hcs, he⟩ := h
          cases he
          have hp := partsOf_sound (K := K) (a := a) (fun x hx v hv => hO x.2 (by rw [ho]; simp only [Op.operands, List.mem_toArray, List.mem_map]; exact ⟨x, hx, rfl⟩) v hv) hl
          exact wpIn_does (s := Instr.buildSlice t len (ps.map fun (i, x) => (i, a.eval x))) hd (by simp only [execOp, ho]) (buildSlice_sound hS hn hq hg hTT hi rfl hj (by simpa using hp) hc.1 hc.2 hcs) (hr.val _ rfl)
        · cases h
      · cases h
    · cases h
  · -- load
    rename_i t x ho
    have hd : ∀ c, o.op ≠ .defer c := fun c e => by rw [ho] at e; cases e
    split at h
    · rename_i i v hi hv
      obtain ⟨v', h1, rfl, rfl⟩ := pure1_inv h
      obtain ⟨_, _, _, _, hty⟩ := hTT _ _ hi
      exact hr.pure hS hd (s := Instr.loadAt t (a.eval x)) (by simp only [execOp, ho]) (loadAt_sound hty hS (hO x (by rw [ho]; simp [Op.operands]) v hv) h1)
    · cases h
  · -- store
    rename_i t x y ho
    have hd : ∀ c, o.op ≠ .defer c := fun c e => by rw [ho] at e; cases e
    split at h
    · rename_i i v v' hi hv hv'
      simp only [Option.map_eq_some_iff] at h
      obtain ⟨σ1, h1, he⟩ := h
      cases he
      obtain ⟨_, _, _, _, hty⟩ := hTT _ _ hi
      obtain ⟨w', h2, h3⟩ := storeAt_sound hty hS (hO x (by rw [ho]; simp [Op.operands]) v hv) (hO y (by rw [ho]; simp [Op.operands]) v' hv') h1
      exact wpIn_doesU (s := Instr.storeAt t (a.eval x) (a.eval y)) hd (by simp only [execOp, ho]) ⟨w', h2, h3.weaken fun _ _ h => h.elim⟩ (hr.val _ rfl)
    · cases h
  · -- nilCheck
    rename_i x ho
    have hd : ∀ c, o.op ≠ .defer c := fun c e => by rw [ho] at e; cases e
    have hx := hO x (by rw [ho]; simp [Op.operands])
    split at h
    · cases h
    · cases h
    · cases h
    · rename_i f first cap hv
      cases h
      have hxv := hx _ hv
      have : ∃ us vs, a.eval x = .func (.func f) us vs := by
        generalize a.eval x = u at hxv
        cases hxv; exact ⟨_, _, rfl⟩
      obtain ⟨us, vs, hu⟩ := this
      exact wpIn_value (u := a.eval x) hd (by simp only [execOp, ho, hu]; rfl) (hr.val _ rfl K w _ (.refl hS) hxv)
    · rename_i v h1 h2 h3 h4 hv
      cases h
      have hxv := hx _ hv
      refine wpIn_value (u := a.eval x) hd ?_ (hr.val _ rfl K w _ (.refl hS) hxv)
      simp only [execOp, ho]
      generalize a.eval x = u at hxv
      cases hxv <;> first | rfl | (exact (h1 rfl).elim) | (exact (h2 rfl).elim) | (exact (h3 rfl).elim) | (exact (h4 _ _ _ rfl).elim)
    · cases h
  · -- binOp
    rename_i op t x y yt ho
    have hd : ∀ c, o.op ≠ .defer c := fun c e => by rw [ho] at e; cases e
    split at h
    · rename_i va vb hva hvb
      obtain ⟨v', h1, rfl, rfl⟩ := pure1_inv h
      exact hr.pure hS hd (s := do eqGuard op t x y (a.eval x) (a.eval y); binOp op t (a.eval x) (a.eval y)) (by simp only [execOp, ho])
        (bin_sound hTT hT.flat (hO x (by rw [ho]; simp [Op.operands]) _ hva) (hO y (by rw [ho]; simp [Op.operands]) _ hvb) h1)
    · cases h
  · -- unOp
    rename_i op t x ho
    have hd : ∀ c, o.op ≠ .defer c := fun c e => by rw [ho] at e; cases e
    split at h
    · rename_i va hva
      obtain ⟨v', h1, rfl, rfl⟩ := pure1_inv h
      exact hr.pure hS hd (s := Op.unary op (a.eval x)) (by simp only [execOp, ho]) (un_sound (hO x (by rw [ho]; simp [Op.operands]) _ hva) h1)
    · cases h
  · -- convert
    rename_i s t x ho
    have hd : ∀ c, o.op ≠ .defer c := fun c e => by rw [ho] at e; cases e
    split at h
    · rename_i va hva
      obtain ⟨v', h1, rfl, rfl⟩ := pure1_inv h
      exact hr.pure hS hd (s := convert s t (a.eval x)) (by simp only [execOp, ho]) (conv_sound hTT hS (hO x (by rw [ho]; simp [Op.operands]) _ hva) h1)
    · cases h
  · -- makeInterface
    rename_i t x ho
    have hd : ∀ c, o.op ≠ .defer c := fun c e => by rw [ho] at e; cases e
    split at h
    · rename_i i va hi hva
      split at h
      · cases h
      · rename_i hne
        cases h
        have := iface_sound (P := P) (w := w) hTT hi hne (hO x (by rw [ho]; simp [Op.operands]) _ hva)
        exact hr.pure hS hd (s := Instr.makeInterface t (a.eval x)) (by simp only [execOp, ho]) ⟨_, this.1, this.2⟩
    · cases h
  · -- makeFunc
    rename_i f first cap ho
    have hd : ∀ c, o.op ≠ .defer c := fun c e => by rw [ho] at e; cases e
    split at h
    · rename_i x y hx hy
      cases h
      have r1 := opds_sound (K := K) (a := a) (fun z hz v hv => hO z (by rw [ho]; simp [Op.operands]; exact .inl (by simpa using hz)) v hv) hx
      have r2 := opds_sound (K := K) (a := a) (fun z hz v hv => hO z (by rw [ho]; simp [Op.operands]; exact .inr (by simpa using hz)) v hv) hy
      refine wpIn_value (u := .func (.func f) (first.map a.eval) (cap.map a.eval)) hd (by simp only [execOp, ho, Instr.makeFunc]; rfl) (hr.val _ rfl K w _ (.refl hS) ?_)
      have := VR.fn (K := K) (f := f) r1.1 r2.1 r1.2 r2.2
      have e1 : (⟨first.toList.map a.eval⟩ : Array Value) = first.map a.eval := by apply Array.ext'; simp
      have e2 : (⟨cap.toList.map a.eval⟩ : Array Value) = cap.map a.eval := by apply Array.ext'; simp
      rwa [e1, e2] at this
    · cases h
  · -- makeMap
    rename_i t ho
    have hd : ∀ c, o.op ≠ .defer c := fun c e => by rw [ho] at e; cases e
    cases h
    exact wpIn_does (s := Instr.makeMap t none) hd (by simp only [execOp, ho]; rfl) (makeMap_sound hS hn hq hg) (hr.val _ rfl)
  · -- makeSlice
    rename_i t x y ho
    have hd : ∀ c, o.op ≠ .defer c := fun c e => by rw [ho] at e; cases e
    split at h
    · rename_i e _ _ _ _ l c hi hl hc
      split at h
      · rename_i i hj
        split at h
        · rename_i hcond
          simp only [Bool.and_eq_true, decide_eq_true_eq] at hcond
          cases h
          obtain ⟨va, hva, hl⟩ := Option.bind_eq_some_iff.1 hl
          obtain ⟨vb, hvb, hc⟩ := Option.bind_eq_some_iff.1 hc
          exact wpIn_does (s := Instr.makeSlice t (a.eval x) (a.eval y)) hd (by simp only [execOp, ho])
            (makeSlice_sound hS hn hq hg hTT hi rfl hj (hO x (by rw [ho]; simp [Op.operands]) _ hva) (hO y (by rw [ho]; simp [Op.operands]) _ hvb) hl hc hcond.1.1 hcond.1.2 hcond.2) (hr.val _ rfl)
        · cases h
      · cases h
    · cases h
  · -- slice
    rename_i t x lo hi mx ho
    have hd : ∀ c, o.op ≠ .defer c := fun c e => by rw [ho] at e; cases e
    split at h
    · rename_i vx l1 l2 l3 hx h1 h2 h3
      obtain ⟨v', h4, rfl, rfl⟩ := pure1_inv h
      have b1 := BV.of (K := K) (a := a) (x := lo) (fun y hy => hO y (by rw [ho]; subst hy; simp [Op.operands])) h1
      have b2 := BV.of (K := K) (a := a) (x := hi) (fun y hy => hO y (by rw [ho]; subst hy; simp [Op.operands])) h2
      have b3 := BV.of (K := K) (a := a) (x := mx) (fun y hy => hO y (by rw [ho]; subst hy; simp [Op.operands])) h3
      exact hr.pure hS hd (s := Instr.sliceAt t (a.eval x) (lo.map a.eval) (hi.map a.eval) (mx.map a.eval)) (by simp only [execOp, ho]) (slice_sound hTT hS (hO x (by rw [ho]; simp [Op.operands]) _ hx) b1 b2 b3 h4)
    · cases h
  · -- fieldAddr
    rename_i t x f ho
    have hd : ∀ c, o.op ≠ .defer c := fun c e => by rw [ho] at e; cases e
    split at h
    · rename_i va hva
      obtain ⟨v', h1, rfl, rfl⟩ := pure1_inv h
      exact hr.pure hS hd (s := Instr.fieldAt t (a.eval x) f) (by simp only [execOp, ho]) (fieldAddr_sound hTT (hO x (by rw [ho]; simp [Op.operands]) _ hva) h1)
    · cases h
  · -- field
    rename_i t x f ho
    have hd : ∀ c, o.op ≠ .defer c := fun c e => by rw [ho] at e; cases e
    split at h
    · rename_i va hva
      obtain ⟨v', h1, rfl, rfl⟩ := pure1_inv h
      exact hr.pure hS hd (s := Instr.field t (a.eval x) f) (by simp only [execOp, ho]) (field_sound hTT (hO x (by rw [ho]; simp [Op.operands]) _ hva) h1)
    · cases h
  · -- indexAddr
    rename_i t x i ho
    have hd : ∀ c, o.op ≠ .defer c := fun c e => by rw [ho] at e; cases e
    split at h
    · rename_i va vb hva hvb
      obtain ⟨v', h1, rfl, rfl⟩ := pure1_inv h
      exact hr.pure hS hd (s := Instr.indexAt t (a.eval x) (a.eval i)) (by simp only [execOp, ho]) (indexAddr_sound hTT (hO x (by rw [ho]; simp [Op.operands]) _ hva) (hO i (by rw [ho]; simp [Op.operands]) _ hvb) h1)
    · cases h
  · -- index
    rename_i t x i ho
    have hd : ∀ c, o.op ≠ .defer c := fun c e => by rw [ho] at e; cases e
    split at h
    · rename_i va vb hva hvb
      obtain ⟨v', h1, rfl, rfl⟩ := pure1_inv h
      exact hr.pure hS hd (s := Instr.index t (a.eval x) (a.eval i)) (by simp only [execOp, ho]) (index_sound hTT (hO x (by rw [ho]; simp [Op.operands]) _ hva) (hO i (by rw [ho]; simp [Op.operands]) _ hvb) h1)
    · cases h
  · -- lookup
    rename_i t x k ok ho
    have hd : ∀ c, o.op ≠ .defer c := fun c e => by rw [ho] at e; cases e
    split at h
    · rename_i kt e _ _ _ _ vm vk hi hm hk
      split at h
      · rename_i hf
        split at h
        · rename_i i hj
          split at h
          · rename_i es hes
            split at h
            · rename_i rr hrr
              split at h
              · rename_i v' hv'
                cases h
                refine hr.pure hS hd (s := Instr.lookup t (a.eval x) (a.eval k) ok) (by simp only [execOp, ho])
                  (lookup_sound hTT hS hi rfl hj (hO x (by rw [ho]; simp [Op.operands]) _ hm) (hO k (by rw [ho]; simp [Op.operands]) _ hk) hf (es := es) ?_ hv' hrr)
                rw [← hes]; unfold mapEs; rfl
              · cases h
            · cases h
          · cases h
        · cases h
      · cases h
    · cases h
  · -- mapUpdate
    rename_i t m k x ho
    have hd : ∀ c, o.op ≠ .defer c := fun c e => by rw [ho] at e; cases e
    split at h
    · rename_i kt e _ _ _ _ om vk vx hi hm hk hx
      split at h
      · rename_i hf
        split at h
        · rename_i es c hgm
          simp only [Option.map_eq_some_iff, Prod.exists, Prod.mk.injEq] at h
          obtain ⟨es', c', hp, rfl, rfl⟩ := h
          obtain ⟨w', h2, h3⟩ := mapUpdate_sound hTT hS hi rfl (hO m (by rw [ho]; simp [Op.operands]) _ hm) (hO k (by rw [ho]; simp [Op.operands]) _ hk) (hO x (by rw [ho]; simp [Op.operands]) _ hx) hf hgm hp
          exact wpIn_doesU (s := Instr.mapUpdate t (a.eval m) (a.eval k) (a.eval x)) hd (by simp only [execOp, ho]) ⟨w', h2, h3.weaken fun _ _ h => h.elim⟩ (hr.val _ rfl)
        · cases h
      · cases h
    · cases h
  · -- range
    rename_i t x ho
    have hd : ∀ c, o.op ≠ .defer c := fun c e => by rw [ho] at e; cases e
    split at h
    · rename_i i va hi hva
      obtain ⟨v, h1, rfl⟩ := val1_inv h
      exact wpIn_does (s := Instr.range t (a.eval x)) hd (by simp only [execOp, ho]) (range_sound hTT hS hn hq hg hi (hO x (by rw [ho]; simp [Op.operands]) _ hva) h1) (hr.val _ rfl)
    · cases h
  · -- next, over a text
    rename_i it ho
    have hd : ∀ c, o.op ≠ .defer c := fun c e => by rw [ho] at e; cases e
    split at h
    · rename_i p hp
      split at h
      · rename_i s pos hgi
        have hx := hO it (by rw [ho]; simp [Op.operands]) _ hp
        obtain ⟨v, h1, rfl⟩ := val1_inv h
        exact wpIn_does (s := Instr.next (a.eval it) true o.type) hd (by simp only [execOp, ho]) ((next_str_sound hS hx hgi h1).weaken fun _ h => h.elim) (hr.val _ rfl)
      · cases h
    · cases h
  · -- next, over a map
    rename_i it ho
    have hd : ∀ c, o.op ≠ .defer c := fun c e => by rw [ho] at e; cases e
    split at h
    · rename_i p hp
      have hx := hO it (by rw [ho]; simp [Op.operands]) _ hp
      split at h
      · rename_i hgi
        cases h
        exact hr.pure hS hd (s := Instr.next (a.eval it) false o.type) (by simp only [execOp, ho]) (next_nil_sound hS hx hgi)
      · rename_i m since seen last hgi
        split at h
        · rename_i es c hgm
          obtain ⟨v, h1, rfl⟩ := val1_inv h
          exact wpIn_does (s := Instr.next (a.eval it) false o.type) hd (by simp only [execOp, ho]) ((next_map_sound hS hx hgi hgm h1).weaken fun _ h => h.elim) (hr.val _ rfl)
        · cases h
      · cases h
    · cases h
  · -- entry
    rename_i it ho
    have hd : ∀ c, o.op ≠ .defer c := fun c e => by rw [ho] at e; cases e
    split at h
    · rename_i p hp
      have hx := hO it (by rw [ho]; simp [Op.operands]) _ hp
      split at h
      · rename_i m since seen last hgi
        split at h
        · rename_i es c b hgm hl
          split at h
          · rename_i hc
            split at h
            · rename_i e k v he
              cases h
              exact hr.pure hS hd (s := Instr.entry (a.eval it)) (by simp only [execOp, ho]) (entry_sound hS hx hgi hgm hl (Nat.eq_of_beq_eq_true hc) he)
            · cases h
          · cases h
        · cases h
      · cases h
    · cases h
  · -- typeAssert
    rename_i x xt t ok ho
    have hd : ∀ c, o.op ≠ .defer c := fun c e => by rw [ho] at e; cases e
    split at h
    · rename_i va i hva hi
      obtain ⟨v', h1, rfl, rfl⟩ := pure1_inv h
      exact hr.pure hS hd (s := Instr.typeAssert (a.eval x) xt t ok) (by simp only [execOp, ho]) (typeAssert_sound hTT hi (hO x (by rw [ho]; simp [Op.operands]) _ hva) h1)
    · cases h
  · -- extract
    rename_i t ix ho
    have hd : ∀ c, o.op ≠ .defer c := fun c e => by rw [ho] at e; cases e
    split at h
    · rename_i vs hvs
      obtain ⟨v', h1, rfl, rfl⟩ := pure1_inv h
      exact hr.pure hS hd (s := Instr.extract (a.eval t) ix) (by simp only [execOp, ho]) (extract_sound (hO t (by rw [ho]; simp [Op.operands]) _ hvs) h1)
    · cases h
  · -- call
    rename_i c ho
    have hd : ∀ c, o.op ≠ .defer c := fun c e => by rw [ho] at e; cases e
    split at h
    · cases h
    · rename_i args hargs
      have hres : ∀ x ∈ c.args, ∀ v, opd G env x = some v → VR K v (a.eval x) := fun x hx v hv => hO x (by
        rw [ho]; simp only [Op.operands, Call.operands]
        cases c.callee <;> simp [hx]) v hv
      have hr' := opds_sound (K := K) (a := a) (fun x hx v hv => hres x (by simpa using hx) v hv) hargs
      have hmap : c.args.map a.eval = ⟨c.args.toList.map a.eval⟩ := by apply Array.ext'; simp
      split at h
      · -- a builtin
        rename_i b hb
        obtain ⟨v, h1, rfl⟩ := val1_inv h
        have hex : ∃ consts, execOp a.eval o = builtin b c.argTypes o.type consts (c.args.map a.eval) :=
          ⟨_, by simp only [execOp, ho, resolve, hb, invoke, pure_bind]; rfl⟩
        obtain ⟨consts, hex⟩ := hex
        obtain ⟨s, hs, hdo⟩ := builtin_sound hTT hG hS hn hq hg (consts := consts) (ty := o.type) hr' h1
        rw [← hmap] at hs
        exact wpIn_does hd (hex.trans hs) hdo (hr.val _ rfl)
      · -- a function's value
        rename_i f hf
        split at h
        · rename_i vf hvf
          have hfv := hO f (by rw [ho]; simp only [Op.operands, Call.operands]; rw [hf]; simp) _ hvf
          unfold callOf at h
          split at h
          · rename_i g first cap
            generalize hu : a.eval f = u at hfv
            cases hfv with
            | @fn _ _ _ us vs hx hy h1 h2 =>
              refine wpIn_call (ex := (· = q)) hC hS hG hd h ((VRL.append ⟨hx, h1⟩ hr').append ⟨hy, h2⟩) ?_ hr.val hr.pan
              have : (⟨us ++ c.args.toList.map a.eval ++ vs⟩ : Array Value) = (⟨us⟩ : Array Value) ++ c.args.map a.eval ++ ⟨vs⟩ := by
                apply Array.ext'; simp
              rw [this]
              simp [execOp, ho, resolve, hf, hu, Deferred.ofValue, invoke]
          · rename_i l
            generalize hu : a.eval f = u at hfv
            cases hfv with
            | @yld _ L hL =>
              refine wpIn_yield (ex := (· = q)) hY hS hG hd h hL hr' ?_ hr.val hr.pan
              rw [← hmap]
              simp [execOp, ho, resolve, hf, hu, Deferred.ofValue, invoke]
          · cases h
        · cases h
      · -- a method
        rename_i x name hx
        split at h
        · rename_i t v hv
          have hxv := hO x (by rw [ho]; simp only [Op.operands, Call.operands]; rw [hx]; simp) _ hv
          split at h
          · rename_i g recv hm
            generalize hu : a.eval x = u at hxv
            cases hxv with
            | @iface _ _ uv huv =>
              obtain ⟨ur, h1, h2⟩ := hT.meth t v name g recv hm K w uv huv
              refine wpIn_call (ex := (· = q)) hC hS hG hd h (.cons h2 hr') ?_ hr.val hr.pan
              have : (⟨ur :: c.args.toList.map a.eval⟩ : Array Value) = #[ur] ++ c.args.map a.eval := by apply Array.ext'; simp
              rw [this]
              have hz : (#[Value.iface t uv] ++ c.args.map a.eval)[0]? = some (.iface t uv) := by
                rw [Array.getElem?_append_left (by simp)]; rfl
              have hx0 : (#[Value.iface t uv] ++ c.args.map a.eval).extract 1 (#[Value.iface t uv] ++ c.args.map a.eval).size = c.args.map a.eval := by
                apply Array.ext'; simp [List.take_of_length_le]
              simp only [execOp, ho, resolve, hx, hu, pure_bind, invoke, hz, hx0]
              simp [callMethod, h1]
          · cases h
        · cases h
  · -- panic
    rename_i x ho
    have hd : ∀ c, o.op ≠ .defer c := fun c e => by rw [ho] at e; cases e
    split at h
    · rename_i t v hv
      cases h
      have hx := hO x (by rw [ho]; simp [Op.operands]) _ hv
      refine ⟨about_any o _, ?_⟩
      have hrun : (execOp a.eval o).run P w = .halt (.panic (a.eval x)) w := by
        generalize hu : a.eval x = u at hx
        cases hx
        simp [execOp, ho, hu, Instr.panic, goPanic, Sem.run]
      rw [Oper.semAt_eq _ _ _ hd, hrun, Oper.uponIn_panic]
      exact hr.pan _ rfl K w _ (.refl hS) hx
    · cases h
  · cases h
end Go.Ev
