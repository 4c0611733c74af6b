/- The evaluator's calls are the machine's. -/
import Derived.Test.YtfpdcfgjhkiklaaDoorPmCode
import Derived.RangeFuncLeaves
set_option linter.unusedSimpArgs false
set_option linter.unusedVariables false
set_option autoImplicit false
namespace Go.PM
section
variable {E : Env} {ρ : Nat → Option Tk} {I : Nat → Prop} {T : Nat → Option V} {H : Heap} {a : Act} {w : World}

/-- What a result's variable holds. -/
def resOne (tmps : Array Value) : ResultVar → Sem Value
  | .tmp t => pure (tmps.getD t undef)
  | .cell a t => do loadVar t (← asAddr (tmps.getD a undef))

theorem resVar_sound {R : Type} (S : Sim E ρ I T H a w) {rv : ResultVar} {K : V → Option R} {r : R} (h : resVar E.P T H rv K = some r) : ∃ v x, K v = some r ∧ RV I ρ w v x ∧ (resOne a.tmps rv).run E.P w = .ok x w := by
  unfold resVar at h
  split at h
  · rename_i t
    obtain ⟨v, hv, h⟩ := bind_eq.1 h
    exact ⟨v, _, h, S.tmp t v hv, rfl⟩
  · rename_i p t
    split at h
    · rename_i t0 z i off hv
      have hx := S.tmp p _ hv
      obtain ⟨b, hb, h⟩ := bind_eq.1 h
      simp only [RV] at hx
      obtain ⟨k, hx, h1, h2⟩ := hx
      obtain ⟨k', g1, g2, ⟨cs, fz, ys, q1, q2, q3, q4, q5, q6⟩, g4⟩ := S.live t0 b hb
      rw [g1] at h1; cases h1
      obtain ⟨us, zs, h, r1, r2, r3⟩ := cget_sound (P := E.P) q2 h
      obtain ⟨v, hp, h⟩ := bind_eq.1 h
      obtain ⟨y, hr, hrv⟩ := load_run (w := w) hp r1 r2 (b := k.r) (p := i * z) (fun j y hy => by have := q3 _ _ (r3 j y hy); simpa using this)
      refine ⟨v, y, h, hrv, ?_⟩
      simp [resOne, hx, asAddr, hr]
    · cases h

theorem resVars_sound {R : Type} (S : Sim E ρ I T H a w) : ∀ {rs : List ResultVar} {K : List V → Option R} {r : R}, resVars E.P T H rs K = some r → ∃ vs xs, K vs = some r ∧ RVs I ρ w vs xs ∧ (rs.mapM (resOne a.tmps)).run E.P w = .ok xs w
  | [], K, r, h => ⟨[], [], h, by simp [RVs], by simp⟩
  | rv :: rs, K, r, h => by
    simp only [resVars] at h
    obtain ⟨v, x, h, h1, h2⟩ := resVar_sound S h
    obtain ⟨vs, xs, h, h3, h4⟩ := resVars_sound S h
    refine ⟨v :: vs, x :: xs, h, ?_, ?_⟩
    · simp only [RVs]; exact ⟨x, xs, rfl, h1, h3⟩
    · simp [List.mapM_cons, h2, h4]

theorem results_run {fn : Func} {tmps : Array Value} {P : Program} {xs : List Value} {vs : List V} (h : (fn.results.toList.mapM (resOne tmps)).run P w = .ok xs w) (hv : RVs I ρ w vs xs) : ∃ x, (results fn tmps).run P w = .ok x w ∧ RV I ρ w (oneOr vs) x := by
  have hr : (results fn tmps).run P w = .ok (if h : xs.toArray.size = 1 then xs.toArray[0] else .tuple xs.toArray) w := by
    have e : results fn tmps = (fn.results.mapM (resOne tmps)).bind fun vs => .pure (if h : vs.size = 1 then vs[0] else .tuple vs) := by
      unfold results
      rfl
    rw [e]
    show ((fn.results.mapM (resOne tmps)) >>= fun vs => pure (if h : vs.size = 1 then vs[0] else .tuple vs)).run P w = _
    rw [Array.mapM_eq_mapM_toList]
    simp [h]
  refine ⟨_, hr, ?_⟩
  have hl := RVs_len hv
  match vs, xs, hv, hl with
  | [], [], _, _ => simp [oneOr, RV, RVs]
  | [v], [x], hv, _ => simp only [RVs] at hv; obtain ⟨y, r, h1, h2, rfl⟩ := hv; cases h1; simpa [oneOr] using h2
  | v :: v' :: vs, x :: x' :: xs, hv, hl =>
    simp only [oneOr, RV]
    refine ⟨x :: x' :: xs, by simp, hv⟩
  | [], x :: xs, _, hl => simp at hl
  | [v], [], _, hl => simp at hl
  | [v], x :: x' :: xs, _, hl => simp at hl
  | v :: v' :: vs, [], _, hl => simp at hl
  | v :: v' :: vs, [x], _, hl => simp at hl

theorem oblks_get {f : Nat → Option Nat} : ∀ {l : List Nat} {bs : List (Option Blk)}, oblks H f l = some bs → bs.length = l.length ∧ ∀ (j : Nat) (b' : Blk), bs[j]? = some (some b') → ∃ t b, l[j]? = some t ∧ at_ H t = some b ∧ renB f b = some b'
  | [], bs, h => by simp only [oblks, Option.some.injEq] at h; subst h; simp
  | t0 :: ts, bs, h => by
    have key : ∃ ob bs', oblks H f ts = some bs' ∧ bs = ob :: bs' ∧ match ob with | none => True | some b' => ∃ b, at_ H t0 = some b ∧ renB f b = some b' := by
      simp only [oblks] at h
      cases hb : at_ H t0 with
      | none =>
        rw [hb] at h
        simp only [Option.map_eq_some_iff] at h
        obtain ⟨bs', hh, rfl⟩ := h
        exact ⟨none, bs', hh, rfl, trivial⟩
      | some b =>
        rw [hb] at h
        obtain ⟨b', hb', h⟩ := bind_eq.1 h
        simp only [Option.map_eq_some_iff] at h
        obtain ⟨bs', hh, rfl⟩ := h
        exact ⟨some b', bs', hh, rfl, b, rfl, hb'⟩
    obtain ⟨ob, bs', hh, rfl, hob⟩ := key
    obtain ⟨g1, g2⟩ := oblks_get hh
    refine ⟨by simp [g1], fun j b' hj => ?_⟩
    cases j with
    | zero =>
      simp only [List.getElem?_cons_zero, Option.some.injEq] at hj
      subst hj
      obtain ⟨b, h1, h2⟩ := hob
      exact ⟨t0, b, rfl, h1, h2⟩
    | succ j => simp only [List.getElem?_cons_succ] at hj ⊢; exact g2 j b' hj

theorem tellB_sound {m : Nat} {out : Out} {ρ0 : Nat → Option Tk} {I0 : Nat → Prop} {w0 : World} (hE : E.w0 = w0 ∧ E.I0 = I0 ∧ E.ρ0 = ρ0 ∧ E.own0 = ownOf ρ0) (hm : ∀ t k, ρ0 t = some k → t < m)
    (S : Sim E ρ I T H a w) {ρv : Nat → Option Tk} (hρ : ∀ t k, ρv t = some k → ρ t = some k) {v : V} {x : Value} (hv : RV I ρv w v x) (h : tellB H m v = some out) : ∃ ρ' I', Leave E.P ρ0 ρ' I0 I' w0 w out x := by
  obtain ⟨rfl, rfl, rfl, ho⟩ := hE
  unfold tellB at h
  simp only at h
  have hkeep : ∀ b, b < E.w0.heap.size → ¬ ownOf E.ρ0 b → w.heap[b]? = E.w0.heap[b]? := fun b hb hn => S.keep b hb (by rw [ho]; exact hn)
  generalize hl : addNew (reach H 1000 (List.range m ++ toks v) []) (List.range m) = l at h
  have hnd : l.Nodup := by rw [← hl]; exact addNew_nodup _ _ List.nodup_range
  have hpre : ∃ r, l = List.range m ++ r := by rw [← hl]; exact addNew_pre _ _
  rw [bind_eq] at h
  obtain ⟨v', hv', h⟩ := h
  rw [bind_eq] at h
  obtain ⟨bs, hbs, h⟩ := h
  cases h
  obtain ⟨b1, b2⟩ := oblks_get hbs
  let ρ' : Nat → Option Tk := fun j => (l[j]?).bind ρ
  have h2 : ∀ j t k, l[j]? = some t → ρ t = some k → ρ' j = some k := fun j t k hj hk => by simp only [ρ', hj]; exact hk
  have hren : ∀ t t' k, idx l t = some t' → ρ t = some k → ρ' t' = some k := fun t t' k h hk => h2 _ _ _ (idx_eq h) hk
  have hlow : ∀ t, t < m → l[t]? = some t := fun t ht => by
    obtain ⟨r, hr⟩ := hpre
    rw [hr, List.getElem?_append_left (by simpa using ht)]
    simp [ht]
  refine ⟨ρ', I, S.size, hkeep, ⟨S.st0.imm, fun t k hk => h2 t t k (hlow t (hm t k hk)) (S.st0.tok t k hk), S.st0.shape, S.st0.io⟩, fun b hb => ?_, RV_ren (fun t t' k h hk => hren t t' k h (hρ t k hk)) _ _ _ hv' hv, fun j b' hb => ?_, fun j j' c1 c2 k k' hb hb' hk hk' hkk hwr => ?_, fun j k hk => ?_⟩
  · have := S.immO b hb
    rw [ho] at this
    exact this
  · obtain ⟨t, b, g1, g2, g3⟩ := b2 j b' hb
    obtain ⟨k, q1, q2, q3, q4, q5⟩ := S.live t b g2
    obtain ⟨r1, r2, r3⟩ := renB_rel (ρ' := ρ') hren g3 q3
    refine ⟨k, h2 _ _ _ g1 q1, fun hlt => ?_, r1, by rw [r2]; exact q4, by rw [r2]; exact q5⟩
    have := q2 hlt
    rwa [ho] at this
  · obtain ⟨t, b, g1, g2, g3⟩ := b2 j c1 hb
    obtain ⟨t', b', g1', g2', g3'⟩ := b2 j' c2 hb'
    obtain ⟨t0, e0, hk⟩ := bind_eq.1 hk
    rw [g1] at e0; cases e0
    obtain ⟨t0', e0', hk'⟩ := bind_eq.1 hk'
    rw [g1'] at e0'; cases e0'
    obtain ⟨kk, q1, _, q3, _⟩ := S.live t b g2
    have hwr0 : b.wr = true := by rw [← (renB_rel (ρ' := ρ') hren g3 q3).2.1]; exact hwr
    have := S.dist t t' b b' k k' g2 g2' hk hk' hkk hwr0
    subst this
    obtain ⟨j1, e1⟩ := List.getElem?_eq_some_iff.1 g1
    obtain ⟨j2, e2⟩ := List.getElem?_eq_some_iff.1 g1'
    exact nodup_inj hnd j1 j2 (e1.trans e2.symm)
  · obtain ⟨t, ht, _⟩ := bind_eq.1 hk
    rw [b1]; exact (List.getElem?_eq_some_iff.1 ht).1

/-- What a call tells is so. -/
theorem tell_sound {mode m : Nat} {fn : Func} {st : St} {out : Out} {ρ0 : Nat → Option Tk} {I0 : Nat → Prop} {w0 : World} (hE : E.w0 = w0 ∧ E.I0 = I0 ∧ E.ρ0 = ρ0 ∧ E.own0 = ownOf ρ0) (hm : ∀ t k, ρ0 t = some k → t < m) (hmode : m = 0 ∨ mode ≠ 0)
    (S : Sim E ρ I (lk st.tm) (lk st.hp) a w) (h : tell E.P mode m fn.results.toList st = some out) : ∃ x ρ' I', (results fn a.tmps).run E.P w = .ok x w ∧ Leave E.P ρ0 ρ' I0 I' w0 w out x := by
  have hE' := hE
  obtain ⟨rfl, rfl, rfl, ho⟩ := hE
  unfold tell at h
  obtain ⟨vs, xs, h, h1, h2⟩ := resVars_sound S h
  obtain ⟨x, hr, hv⟩ := results_run h2 h1
  simp only at h
  have hkeep : ∀ b, b < E.w0.heap.size → ¬ ownOf E.ρ0 b → w.heap[b]? = E.w0.heap[b]? := fun b hb hn => S.keep b hb (by rw [ho]; exact hn)
  split at h
  · -- frozen
    have hm0 : m = 0 := by rcases hmode with h | h; exact h; exact absurd rfl h
    rw [bind_eq] at h
    obtain ⟨u, hu, h⟩ := h
    cases h
    have S1 := S.freeze (toks (oneOr vs))
    have st1 : Stays I (frzI I ρ (lk st.hp) (toks (oneOr vs))) ρ ρ w w := stf _ _
    have hu1 := view_sound S st1 (oneOr vs) u x hu (fun t ht b' k hb' hk => .inr ⟨t, ht, b', k, hb', hk, rfl⟩) hv
    have hnil : ∀ t k, E.ρ0 t = some k → False := fun t k hk => by have := hm t k hk; omega
    refine ⟨x, nil, frzI I ρ (lk st.hp) (toks (oneOr vs)), hr, S1.size, hkeep, ⟨S1.st0.imm, fun t k hk => (hnil t k hk).elim, fun t k s hk => (hnil t k hk).elim, S1.st0.io⟩, fun b hb => ?_, hu1, fun t b hb => by simp at hb, fun t t' b b' k k' hb => by simp at hb, fun t k hk => by cases hk⟩
    have := S1.immO b hb
    rw [ho] at this
    exact this
  · -- its blocks are the caller's, the result is frozen
    rw [bind_eq] at h
    obtain ⟨u, hu, h⟩ := h
    have S1 := S.freeze (toks (oneOr vs))
    have st1 : Stays I (frzI I ρ (lk st.hp) (toks (oneOr vs))) ρ ρ w w := stf _ _
    have hu1 := view_sound S st1 (oneOr vs) u x hu (fun t ht b' k hb' hk => .inr ⟨t, ht, b', k, hb', hk, rfl⟩) hv
    rw [lk_hw] at h
    obtain ⟨ρ', I', hL⟩ := tellB_sound ⟨rfl, rfl, rfl, ho⟩ hm S1 (ρv := nil) (fun t k hk => by cases hk) hu1 h
    exact ⟨x, ρ', I', hr, hL⟩
  · -- its blocks are the caller's
    obtain ⟨ρ', I', hL⟩ := tellB_sound ⟨rfl, rfl, rfl, ho⟩ hm S (ρv := ρ) (fun t k hk => hk) hv h
    exact ⟨x, ρ', I', hr, hL⟩

theorem lk_init : ∀ {bs : List Blk} {i t : Nat} {ob : Option Blk}, lk (initHp i bs) t = some ob → ∃ b q, ob = some b ∧ t = i + q ∧ bs[q]? = some b
  | [], i, t, ob, h => by cases h
  | b :: bs, i, t, ob, h => by
    simp only [initHp, lk] at h
    cases e : Nat.beq i t with
    | true => rw [e] at h; cases h; exact ⟨b, 0, rfl, (Nat.eq_of_beq_eq_true e).symm, rfl⟩
    | false =>
      rw [e] at h
      obtain ⟨b', q, h1, h2, h3⟩ := lk_init h
      exact ⟨b', q + 1, h1, by omega, by simpa using h3⟩
theorem lk_init_some : ∀ {bs : List Blk} {i q : Nat}, q < bs.length → (lk (initHp i bs) (i + q)).isSome = true
  | [], i, q, h => by simp at h
  | b :: bs, i, q, h => by
    simp only [initHp, lk]
    cases e : Nat.beq i (i + q) with
    | true => rfl
    | false =>
      simp only [cond_false]
      cases q with
      | zero => rw [Nat.add_zero, Nat.beq_refl] at e; cases e
      | succ q =>
        have := lk_init_some (bs := bs) (i := i + 1) (q := q) (by simpa using h)
        rwa [show i + 1 + q = i + (q + 1) by omega] at this
theorem lk_params : ∀ {vs : List V} {i t : Nat} {v : V}, lk (params i vs) t = some v → ∃ q, t = i + q ∧ vs[q]? = some v
  | [], i, t, v, h => by cases h
  | u :: vs, i, t, v, h => by
    simp only [params, lk] at h
    cases e : Nat.beq i t with
    | true => rw [e] at h; cases h; exact ⟨0, (Nat.eq_of_beq_eq_true e).symm, rfl⟩
    | false =>
      rw [e] at h
      obtain ⟨q, h1, h2⟩ := lk_params h
      exact ⟨q + 1, by omega, by simpa using h2⟩
end

/-- The marks are shut. -/
theorem leaves_marks {P : Program} {fn : Func} {tmps : Array Value} {R : Ending → World → Prop} : ∀ (ds : List Nat) (w : World), ds.Nodup → (∀ D ∈ ds, w.heap[D]? = some (.deferred (some []))) →
    (∀ w', w'.heap.size = w.heap.size → (∀ b, b ∉ ds → w'.heap[b]? = w.heap[b]?) → Io w w' → ∃ v, (results fn tmps).run P w' = .ok v w' ∧ R (.returned v) w') →
      LeavesInM Fence.wide 0 P fn tmps R (ds.map fun D => ({ target := .collected D, args := #[] } : Deferred)) .returning w
  | [], w, _, _, h => h w rfl (fun _ _ => rfl) .rfl
  | D :: ds, w, hnd, hw, h => by
    rw [List.nodup_cons] at hnd
    have hD := hw D List.mem_cons_self
    refine ⟨by simp, .inl ⟨D, _, rfl, run_takeDeferred hD, ?_⟩⟩
    refine leaves_marks ds _ hnd.2 (fun D' hD' => ?_) fun w' hs hb hio => h w' (by rw [hs]; simp) (fun b hn => ?_) (Io.trans ⟨rfl, rfl⟩ hio)
    · rw [World.putObj_heap_other (fun e => hnd.1 (by rw [← e]; exact hD'))]
      exact hw D' (List.mem_cons_of_mem _ hD')
    · rw [List.mem_cons, not_or] at hn
      rw [hb b hn.2, World.putObj_heap_other hn.1]

theorem Sim.shut {E : Env} {ρ : Nat → Option Tk} {I : Nat → Prop} {T : Nat → Option V} {H : Heap} {a : Act} {w w' : World} (S : Sim E ρ I T H a w) {ds : List Nat} (hd : ∀ D ∈ ds, E.w0.heap.size ≤ D ∧ ¬ E.I0 D ∧ w.heap[D]? = some (.deferred (some []))) (hs : w'.heap.size = w.heap.size) (h : ∀ b, b ∉ ds → w'.heap[b]? = w.heap[b]?) (io : Io w w') :
    Sim E ρ I T H { a with defers := [] } w' := by
  have hcell : ∀ b c ty fz, w.heap[b]? = some (Obj.cells c ty fz) → w'.heap[b]? = w.heap[b]? := fun b c ty fz hb => h b fun hm => by
    have := (hd b hm).2.2
    rw [hb] at this; cases this
  have st : Stay2 I I ρ ρ w w' := by
    refine ⟨fun b hb => ⟨hb, fun o y hc => ?_⟩, fun _ _ h => h, fun t k s _ hk => ?_⟩
    · by_cases e : b ∈ ds
      · unfold World.cell? at hc; rw [(hd b e).2.2] at hc; simp at hc
      · rw [cell_of_heap (h b e)]; exact hc
    · by_cases e : k.r ∈ ds
      · unfold World.shape? at hk; rw [(hd _ e).2.2] at hk; simp at hk
      · rw [shape_of_heap (h _ e)]; exact hk
  have hI0 : ∀ b, E.I0 b → b ∉ ds := fun b hb hm => (hd b hm).2.1 hb
  refine ⟨by rw [hs]; exact S.size, fun b hb hn => ?_, ⟨fun b hb => ⟨(S.st0.imm b hb).1, (h b (hI0 b hb)).trans (S.st0.imm b hb).2⟩, S.st0.tok, fun t k s hk hsh => st.shape t k s (S.st0.tok t k hk) (S.st0.shape t k s hk hsh), S.st0.io.trans io⟩, fun b hb => ⟨by rw [hs]; exact (S.immO b hb).1, (S.immO b hb).2⟩, fun t b hb => ?_, S.dist, S.dom,
    fun i v hv => RV.stay2 st v _ (S.tmp i v hv), S.num, ⟨[], List.nodup_nil, rfl, by simp⟩⟩
  · rw [h b (fun hm => by have := (hd b hm).1; omega)]; exact S.keep b hb hn
  · obtain ⟨k, g1, g2, g3, g4⟩ := S.live t b hb
    refine ⟨k, g1, g2, g3.stay2 st ?_, g4⟩
    obtain ⟨cs, fz, ys, q1, _⟩ := g3
    exact hcell _ _ _ _ q1

/-- A function's contract from what its code leaves. -/
theorem enter_sound {P : Program} {f : FuncId} {fn : Func} {c : Code} {E : Env} {W : Option Ex → World} {w : World} {xs : List Value} {R : Ending → World → Prop} (hfn : P.funcs[f]? = some fn) (hc : fn.body = some c) (hE : ∀ p, E.lo = (W p).heap.size) (hI0' : ∀ b, E.I0 b → b < E.lo)
    (h : c.wpIn Fence.wide 0 P (fun e a' w' => (e = .normal ∨ e = .ret) ∧ ∃ p ρ' I' T' H', Sim (E.at W p) ρ' I' T' H' a' w' ∧ ∀ w'', Sim (E.at W p) ρ' I' T' H' { a' with defers := [] } w'' → ∃ v, (results fn a'.tmps).run P w'' = .ok v w'' ∧ R (.returned v) w'')
      { tmps := (⟨xs⟩ : Array Value) ++ Array.replicate (fn.ntmps - (⟨xs⟩ : Array Value).size) undef, defers := [] } w) : Calls P f ⟨xs⟩ w R := by
  refine callsIn_wide.1 (callsIn_of_wp_marks (n := 0) hfn hc trivial (wpIn_mono h ?_))
  rintro e a' w' ⟨he, p, ρ', I', T', H', S, hR⟩
  obtain ⟨ds, d1, d2, d3⟩ := S.dfs
  have key : LeavesInM Fence.wide 0 P fn a'.tmps R a'.defers .returning w' := by
    rw [d2]
    refine leaves_marks ds w' d1 (fun D hD => (d3 D hD).2.2) fun w'' hs hb hio => hR w'' (S.shut (ds := ds) (fun D hD => ⟨?_, fun hi => ?_, (d3 D hD).2.2⟩) hs hb hio)
    · have := (d3 D hD).1
      rw [← hE p]; exact this
    · have := hI0' D hi
      have := (d3 D hD).1
      exact absurd this (by show ¬ E.lo ≤ D; omega)
  rcases he with rfl | rfl
  · exact key
  · exact key

theorem params_sim {ρ : Nat → Option Tk} {I : Nat → Prop} {w : World} {args : List V} {xs : List Value} {m : Nat} (hx : RVs I ρ w args xs) : (∀ i v, lk (params 0 args) i = some v → RV I ρ w v (((⟨xs⟩ : Array Value) ++ Array.replicate (m - (⟨xs⟩ : Array Value).size) undef).getD i undef)) ∧ m ≤ ((⟨xs⟩ : Array Value) ++ Array.replicate (m - (⟨xs⟩ : Array Value).size) undef).size := by
  refine ⟨fun i v hv => ?_, by simp; omega⟩
  obtain ⟨q, h2, h3⟩ := lk_params hv
  rw [Nat.zero_add] at h2; subst h2
  obtain ⟨x, g1, g2⟩ := RVs_get hx i v h3
  have hlt := (List.getElem?_eq_some_iff.1 g1).1
  have e : (((⟨xs⟩ : Array Value) ++ Array.replicate (m - (⟨xs⟩ : Array Value).size) undef).getD i undef) = x := by
    have e1 : ((⟨xs⟩ : Array Value) ++ Array.replicate (m - (⟨xs⟩ : Array Value).size) undef)[i]? = some x := by
      rw [Array.getElem?_append_left (by simpa using hlt)]
      simpa using g1
    rw [Array.getD_eq_getD_getElem?, e1]; rfl
  rw [e]; exact g2

theorem iterF_sound {P : Program} {mode : FuncId → Nat} (hname : ∀ (f : FuncId) (fn : Func), P.funcs[f]? = some fn → (fn.name == "runtime.NumGoroutine") = false) (hM : P.follows .mixedOrders = true) {n : Nat} {G : Glob} {tbl : Tbl} {R : Type} {it : Iter R} {r : R} (hc1 : CallOk P G tbl) (hi1 : IterOk P G it r) : IterOk P G (iterF P mode n tbl it) r := by
  intro f args m t h hp ctr K hit
  unfold iterF at hit
  split at hit
  case h_2 => cases hit
  rename_i fn hfn
  split at hit
  case h_2 => cases hit
  rename_i c hc
  split at hit
  case h_2 => cases hit
  rename_i hres
  refine ⟨⟨fn, c, hfn, hc, hname f fn hfn⟩, fun E W hP hG hlo hI0 hown hY ρ I xs w S hx => ?_⟩
  subst hP
  obtain ⟨p1, p2⟩ := params_sim (m := fn.ntmps) hx
  have S0 : Sim ({ E with N := fn.ntmps }.at W none) ρ I (lk (params 0 args)) (lk hp) { tmps := (⟨xs⟩ : Array Value) ++ Array.replicate (fn.ntmps - (⟨xs⟩ : Array Value).size) undef, defers := [] } w :=
    Sim.frame (E := { E with N := 0 }.at W none) (N := fn.ntmps) S p1 p2 ⟨[], List.nodup_nil, rfl, by simp⟩
  refine enter_sound (E := { E with N := fn.ntmps }) (W := W) hfn hc hlo hI0
    (evC_sound c _ _ { E with N := fn.ntmps } W Fence.wide G 0 _ _ _ _ hit ⟨open_wide, hc1, hG, hi1, rfl, rfl, hown, fun t' h' e => (by cases e; exact hY), fun _ h => (by cases h), fun p => Nat.le_of_eq (hlo p), hM⟩ ρ I _ w _ S0 ?_)
  have fin : ∀ (s' : St), K s' = some r → ∀ (ρ' : Nat → Option Tk) (I' : Nat → Prop) (T' : Nat → Option V) (a' : Act) (w' : World), Sim ({ E with N := fn.ntmps }.at W s'.pend) ρ' I' T' (lk s'.hp) a' w' →
      ∃ p ρ' I' T' H', Sim ({ E with N := fn.ntmps }.at W p) ρ' I' T' H' a' w' ∧ ∀ w'', Sim ({ E with N := fn.ntmps }.at W p) ρ' I' T' H' { a' with defers := [] } w'' → ∃ v, (results fn a'.tmps).run E.P w'' = .ok v w'' ∧ ∃ s' x ρ' I', K s' = some r ∧ Ending.returned v = .returned x ∧ Sim ({ E with N := 0 }.at W s'.pend) ρ' I' (fun _ => none) (lk s'.hp) { tmps := #[], defers := [] } w'' := fun s' hK ρ' I' T' a' w' S' => by
    refine ⟨s'.pend, ρ', I', T', lk s'.hp, S', fun w'' S'' => ?_⟩
    obtain ⟨x, hx, _⟩ := results_run (fn := fn) (tmps := a'.tmps) (P := E.P) (w := w'') (I := I') (ρ := ρ') (xs := []) (vs := []) (by rw [hres]; simp) (by simp [RVs])
    exact ⟨x, hx, s', x, ρ', I', hK, rfl, Sim.frame (E := { E with N := fn.ntmps }.at W s'.pend) (N := 0) S'' (fun i v hv => by cases hv) (by simp) ⟨[], List.nodup_nil, rfl, by simp⟩⟩
  intro e st' ρ' I' a' w' hK S'
  cases e with
  | normal => exact ⟨.inl rfl, fin st' hK ρ' I' _ a' w' S'⟩
  | ret => exact ⟨.inr rfl, fin st' hK ρ' I' _ a' w' S'⟩
  | exit id => cases hK
  | goto l => cases hK

theorem callF_fact {P : Program} {mode : FuncId → Nat} (hname : ∀ (f : FuncId) (fn : Func), P.funcs[f]? = some fn → (fn.name == "runtime.NumGoroutine") = false) (hM : P.follows .mixedOrders = true) {n : Nat} {G : Glob} {tbl : Tbl} {it : Iter Out} (hc1 : CallOk P G tbl) (hi1 : ∀ r, IterOk P G it r)
    {f : FuncId} {args : List V} {bs : List Blk} {out : Out} (h : callF P mode n tbl it f args bs = some out) : Fact P G f args bs out := by
  unfold callF at h
  split at h
  case h_2 => cases h
  rename_i fn hfn
  split at h
  case h_2 => cases h
  rename_i c hc
  rw [cond_eq] at h
  obtain ⟨hmo, h⟩ := h
  refine ⟨⟨fn, c, hfn, hc, hname f fn hfn⟩, fun w ρ I xs hE hx => ?_⟩
  let E : Env := { P := P, w0 := w, own0 := ownOf ρ, I0 := I, ρ0 := ρ, N := fn.ntmps, lo := w.heap.size }
  have hl := RVs_len hx
  obtain ⟨p1, p2⟩ := params_sim (m := fn.ntmps) hx
  have S0 : Sim (E.at (fun _ => w) none) ρ I (lk (params 0 args)) (lk (initHp 0 bs)) { tmps := (⟨xs⟩ : Array Value) ++ Array.replicate (fn.ntmps - (⟨xs⟩ : Array Value).size) undef, defers := [] } w := by
    refine ⟨Nat.le_refl _, fun _ _ _ => rfl, Stays.refl I ρ w, fun b hb => ⟨hE.imm b hb, fun _ => .inl hb⟩, fun t b hb => ?_, fun t t' b b' k k' hb hb' hk hk' hkk hwr => ?_, fun t k hk => ?_, p1, p2, ⟨[], List.nodup_nil, rfl, by simp⟩⟩
    · unfold at_ at hb
      cases e : lk (initHp 0 bs) t with
      | none => rw [e] at hb; cases hb
      | some ob =>
        rw [e] at hb
        obtain ⟨b0, q, rfl, h2, h3⟩ := lk_init e
        cases hb
        rw [Nat.zero_add] at h2; subst h2
        obtain ⟨k, g1, g2, g3⟩ := hE.tok t b h3
        exact ⟨k, g1, fun _ => ⟨t, k, g1, rfl⟩, g2, g3⟩
    · unfold at_ at hb hb'
      cases e : lk (initHp 0 bs) t with
      | none => rw [e] at hb; cases hb
      | some ob =>
        cases e' : lk (initHp 0 bs) t' with
        | none => rw [e'] at hb'; cases hb'
        | some ob' =>
          rw [e] at hb
          rw [e'] at hb'
          obtain ⟨b0, q, rfl, h2, h3⟩ := lk_init e
          obtain ⟨b0', q', rfl, h2', h3'⟩ := lk_init e'
          cases hb; cases hb'
          rw [Nat.zero_add] at h2 h2'; subst h2; subst h2'
          exact hE.dist t t' b b' k k' h3 h3' hk hk' hkk hwr
    · have := lk_init_some (bs := bs) (i := 0) (hE.dom t k hk)
      rwa [Nat.zero_add] at this
  have hmode : bs.length = 0 ∨ mode f ≠ 0 := by
    unfold modeOk at hmo
    split at hmo
    · exact .inl rfl
    · refine .inr fun h0 => ?_
      rw [h0] at hmo
      cases hmo
  refine enter_sound (E := E) (W := fun _ => w) hfn hc (fun _ => rfl) hE.imm
    (evC_sound c _ _ E (fun _ => w) Fence.wide G 0 _ _ _ _ h ⟨open_wide, hc1, fun _ => hE.glob, hi1 _, rfl, rfl, fun t k hk => hE.dom t k hk, fun _ _ h => (by cases h), fun _ h => (by cases h), fun _ => Nat.le_refl _, hM⟩ ρ I _ w _ S0 ?_)
  have fin : ∀ (st' : St) (ρ' : Nat → Option Tk) (I' : Nat → Prop) (a' : Act) (w' : World), tell P (mode f) bs.length fn.results.toList st' = some out → Sim (E.at (fun _ => w) st'.pend) ρ' I' (lk st'.tm) (lk st'.hp) a' w' →
      ∃ p ρ' I' T' H', Sim (E.at (fun _ => w) p) ρ' I' T' H' a' w' ∧ ∀ w'', Sim (E.at (fun _ => w) p) ρ' I' T' H' { a' with defers := [] } w'' → ∃ v, (results fn a'.tmps).run P w'' = .ok v w'' ∧ ∃ x ρ' I', Ending.returned v = .returned x ∧ Leave P ρ ρ' I I' w w'' out x := fun st' ρ' I' a' w' ht S' => by
    refine ⟨st'.pend, ρ', I', lk st'.tm, lk st'.hp, S', fun w'' S'' => ?_⟩
    obtain ⟨x, ρ2, I2, g1, g2⟩ := tell_sound (E := E) ⟨rfl, rfl, rfl, rfl⟩ (fun t k hk => hE.dom t k hk) hmode S'' ht
    exact ⟨x, g1, x, ρ2, I2, rfl, g2⟩
  intro e st' ρ' I' a' w' hK S'
  cases e with
  | normal => exact ⟨.inl rfl, fin st' ρ' I' a' w' hK S'⟩
  | ret => exact ⟨.inr rfl, fin st' ρ' I' a' w' hK S'⟩
  | exit id => cases hK
  | goto l => cases hK

theorem iterN_sound {P : Program} {mode : FuncId → Nat} (hname : ∀ (f : FuncId) (fn : Func), P.funcs[f]? = some fn → (fn.name == "runtime.NumGoroutine") = false) (hM : P.follows .mixedOrders = true) {n : Nat} {G : Glob} {tbl : Tbl} (hc1 : CallOk P G tbl) {R : Type} (r : R) : ∀ k, IterOk P G (iterN P mode n tbl k) r
  | 0 => fun f args m t h hp ctr K hh => by cases hh
  | k + 1 => iterF_sound hname hM hc1 (iterN_sound hname hM hc1 r k)

theorem lv_sound {P : Program} {mode : FuncId → Nat} {base : Tbl} {G : Glob} (hname : ∀ (f : FuncId) (fn : Func), P.funcs[f]? = some fn → (fn.name == "runtime.NumGoroutine") = false) (hb : CallOk P G base) (hM : P.follows .mixedOrders = true) :
    ∀ n, CallOk P G (lv P mode base n)
  | 0 => hb
  | n + 1 => fun f args bs out h => by
    have ih := lv_sound (mode := mode) hname hb hM n
    simp only [lv] at h
    split at h
    · rename_i x hx
      cases h
      exact hb f args bs out hx
    · obtain ⟨o, ho, h⟩ := Option.map_eq_some_iff.1 h
      cases h
      exact callF_fact hname hM ih (fun r => iterN_sound hname hM ih r n) ho
end Go.PM
