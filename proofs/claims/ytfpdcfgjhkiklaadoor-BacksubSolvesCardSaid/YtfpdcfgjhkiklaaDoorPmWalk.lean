/- The evaluator's operations, a call among them, in the machine's walk. -/
import Derived.Test.YtfpdcfgjhkiklaaDoorPmBack
set_option linter.unusedSimpArgs false
set_option linter.unusedVariables false
set_option autoImplicit false
namespace Go.PM

/-- A fence that bars nothing. -/
structure Open (F : Fence) : Prop where
  fn : ∀ f, F.fn f
  depth : F.depth = none
  calls : ∀ {n : Nat} {P : Program} {f : FuncId} {args : Array Value} {w : World} {R : Ending → World → Prop}, Calls P f args w R → CallsIn F n P f args w R
theorem open_wide : Open Fence.wide := ⟨fun _ => trivial, rfl, fun h => callsIn_wide.2 h⟩

theorem idxFrom_eq {t : Nat} : ∀ {l : List Nat} {i j : Nat}, idxFrom t l i = some j → ∃ q, j = i + q ∧ l[q]? = some t
  | [], i, j, h => by simp [idxFrom] at h
  | x :: xs, i, j, h => by
    simp only [idxFrom] at h
    cases e : Nat.beq x t with
    | true => rw [e] at h; cases h; exact ⟨0, rfl, by rw [Nat.eq_of_beq_eq_true e]; rfl⟩
    | false =>
      rw [e] at h
      obtain ⟨q, hq, hx⟩ := idxFrom_eq h
      exact ⟨q + 1, by omega, hx⟩
theorem idx_eq {l : List Nat} {t j : Nat} (h : idx l t = some j) : l[j]? = some t := by
  obtain ⟨q, hq, hx⟩ := idxFrom_eq h
  rw [hq, Nat.zero_add]; exact hx

theorem any_not {acc : List Nat} {t : Nat} (h : acc.any (Nat.beq t) = false) : t ∉ acc := fun hm => by
  rw [List.any_eq_false] at h
  exact h t hm (Nat.beq_refl t)
theorem nodup_snoc {acc : List Nat} {t : Nat} (h : acc.Nodup) (ht : t ∉ acc) : (acc ++ [t]).Nodup := by
  rw [List.nodup_append]
  exact ⟨h, by simp, fun a ha b hb => by rw [List.mem_singleton.1 hb]; rintro rfl; exact ht ha⟩
theorem reach_nodup (H : Heap) : ∀ (n : Nat) (ts acc : List Nat), acc.Nodup → (reach H n ts acc).Nodup
  | 0, ts, acc, h => by simpa only [reach] using h
  | n + 1, [], acc, h => by simpa only [reach] using h
  | n + 1, t :: ts, acc, h => by
    simp only [reach]
    cases e : acc.any (Nat.beq t) with
    | true => exact reach_nodup H n ts acc h
    | false =>
      simp only [cond_false]
      have h' := nodup_snoc h (any_not e)
      split
      · split
        · exact reach_nodup H n _ _ h'
        · exact reach_nodup H n _ _ h'
      · exact reach_nodup H n _ _ h'
theorem addNew_nodup : ∀ (ts acc : List Nat), acc.Nodup → (addNew ts acc).Nodup
  | [], acc, h => h
  | t :: ts, acc, h => by
    simp only [addNew]
    cases e : acc.any (Nat.beq t) with
    | true => exact addNew_nodup ts acc h
    | false => exact addNew_nodup ts _ (nodup_snoc h (any_not e))
theorem addNew_pre : ∀ (ts acc : List Nat), ∃ r, addNew ts acc = acc ++ r
  | [], acc => ⟨[], by simp [addNew]⟩
  | t :: ts, acc => by
    simp only [addNew]
    cases acc.any (Nat.beq t) with
    | true => exact addNew_pre ts acc
    | false =>
      obtain ⟨r, hr⟩ := addNew_pre ts (acc ++ [t])
      exact ⟨t :: r, by simpa using hr⟩

theorem blksOf_get {H : Heap} {f : Nat → Option Nat} : ∀ {l : List Nat} {bs : List Blk}, blksOf H f l = some bs → bs.length = l.length ∧ ∀ (j t : Nat), l[j]? = some t → ∃ b b', at_ H t = some b ∧ renB f b = some b' ∧ bs[j]? = some b'
  | [], bs, h => by simp only [blksOf, Option.some.injEq] at h; subst h; simp
  | t0 :: ts, bs, h => by
    simp only [blksOf] at h
    obtain ⟨b, hb, h⟩ := bind_eq.1 h
    obtain ⟨b', hb', h⟩ := bind_eq.1 h
    simp only [Option.map_eq_some_iff] at h
    obtain ⟨bs', hbs, rfl⟩ := h
    obtain ⟨g1, g2⟩ := blksOf_get hbs
    refine ⟨by simp [g1], fun j t hj => ?_⟩
    cases j with
    | zero => simp only [List.getElem?_cons_zero, Option.some.injEq] at hj; subst hj; exact ⟨b, b', hb, hb', rfl⟩
    | succ j => simp only [List.getElem?_cons_succ] at hj ⊢; exact g2 j t hj

section
variable {E : Env} {ρ : Nat → Option Tk} {I : Nat → Prop} {T : Nat → Option V} {H : Heap} {a : Act} {w w' : World} {tok : Nat} {o : Oper} {e : Eff} {F : Fence} {n : Nat} {Y : Type} {X : Ctx Y} {G : Glob}

theorem not_nil_own {r : Nat} : ¬ ownOf nil r := by rintro ⟨t, k, h, _⟩; cases h

theorem Sim.extend (S : Sim E ρ I T H a w) (hs : w.heap.size ≤ w'.heap.size) (h : ∀ b, b < w.heap.size → w'.heap[b]? = w.heap[b]?) (io : Io w w') : Sim E ρ I T H a w' := by
  have st : Stays I I ρ ρ w w' := ⟨fun b hb => ⟨hb, h b (S.immO b hb).1⟩, fun _ _ h => h, fun t k s _ hk => by rw [shape_of_heap (h _ (lt_of_shape hk))]; exact hk, io⟩
  refine ⟨Nat.le_trans S.size hs, fun b hb hn => (h b (Nat.lt_of_lt_of_le hb S.size)).trans (S.keep b hb hn), S.st0.trans st, fun b hb => ⟨Nat.lt_of_lt_of_le (S.immO b hb).1 hs, (S.immO b hb).2⟩, fun t b ht => ?_, S.dist, S.dom, fun i v hv => RV.stays st v _ (S.tmp i v hv), S.num, S.dfs.stays st⟩
  obtain ⟨k, g1, g2, g3, g4⟩ := S.live t b ht
  exact ⟨k, g1, g2, g3.stays st (h _ (lt_of_rel g3)), g4⟩

theorem callFunc_enter {P : Program} {f : FuncId} {fn : Func} {c : Code} (hf : P.funcs[f]? = some fn) (hname : (fn.name == "runtime.NumGoroutine") = false) (hb : fn.body = some c) (args : Array Value) (w : World) :
    (callFunc f args).run P w = .ok (.enter f args) w := by
  have h1 : fn.name ≠ "runtime.NumGoroutine" := by simpa using hname
  simp [callFunc, hf, h1, hb]

/-- A step of a region's walk: whatever stands behind it. -/
def StepOk (E : Env) (F : Fence) (n : Nat) (o : Oper) (T : Nat → Option V) (H : Heap) (a : Act) (w : World) (e : Eff) : Prop :=
  ∀ (next : Act → World → Prop) (Q : Exit → Act → World → Prop), (∀ x w' ρ' I', Sim E ρ' I' (upd T o.dst e.v) (hup e.hw H) (a.put o.dst x) w' → next (a.put o.dst x) w') → o.wpIn F n E.P a w next Q

theorem go_defer {P : Program} {T : Nat → Option V} {c : Call} {x : Value} (hop : o.op = .defer c) (h : scalar P T o = some x) : False := by
  unfold scalar at h
  obtain ⟨_, h⟩ := cond_eq.1 h
  have key : ∀ d, go P (execOp (sv T) o) ≠ some (.value d) := fun d hd => by
    have := go_run P _ _ hd default
    simp only [execOp, hop, Sem.run_bind] at this
    cases hr : (resolve (sv T) c o.type).run P default with
    | ok d' w' => rw [hr] at this; simp at this
    | halt x w' => rw [hr] at this; simp [Result.andThen] at this
  split at h
  · rename_i v hv; exact key v hv
  · cases h

theorem eff_step (hF : Open F) (S : Sim E ρ I T H a w) (hd : dOk o.dst E.N = true) (h : eff E.P o T H tok some = some e) : StepOk E F n o T H a w e := by
  intro next Q hn
  obtain ⟨nx, x, w', ρ', I', hr, hx, hS⟩ := eff_done S hd h
  refine ⟨fun f _ => hF.fn f, ?_⟩
  have hsem : o.semAt F.round a.eval = execOp a.eval o := Oper.semAt_eq _ _ _ fun c hc => by
    unfold eff at h
    rw [hc] at h
    obtain ⟨v, hv, _⟩ := bind_eq.1 h
    exact go_defer hc hv
  rw [hsem, hr]
  rcases hx with rfl | ⟨rfl, rfl⟩
  · exact hn x w' ρ' I' hS
  · exact hn undef w' ρ' I' hS

theorem freshN_frz {ts : List Nat} : ∀ {m : Nat}, freshN H tok m = true → freshN (hup (frz H ts) H) tok m = true
  | 0, _ => rfl
  | m + 1, h => by
    simp only [freshN, Bool.and_eq_true] at h ⊢
    exact ⟨fresh_frz h.1, freshN_frz h.2⟩

theorem opE_step (hF : Open F) (hX : CallOk E.P G X.call) (hG : GOk G E.I0 E.w0) (hP : X.P = E.P) (S : Sim E ρ I T H a w) (hd : dOk o.dst E.N = true) (h : opE X o T H tok some = some e) : StepOk E F n o T H a w e := by
  unfold opE at h
  split at h
  case h_2 => rw [hP] at h; exact eff_step hF S hd h
  rename_i f args argTypes hop
  split at h
  case h_2 => cases h
  rename_i g first cap hfv
  have hf := ev_sound S hfv
  simp only [RV] at hf
  obtain ⟨ys, zs, hfe, hy, hz⟩ := hf
  rw [bind_eq] at h
  obtain ⟨vs, hvs, h⟩ := h
  have hv := evL_sound S hvs
  have hall : RVs I ρ w (first ++ vs ++ cap) (ys ++ args.toList.map a.eval ++ zs) := RVs_append (RVs_append hy hv) hz
  have hcall : Enters E.P g → ∀ (next : Act → World → Prop) (Q : Exit → Act → World → Prop), Calls E.P g ⟨ys ++ args.toList.map a.eval ++ zs⟩ w (fun
      | .returned v, w'' => next (a.put o.dst v) w''
      | .panicked chain, w'' => Q (.panic chain) a w''
      | .outgrown, _ => LetsOut Q) → o.wpIn F n E.P a w next Q := fun hE next Q hc => by
    obtain ⟨fn, c, e1, e2, e3⟩ := hE
    refine ⟨fun f _ => hF.fn f, ?_⟩
    have hsem : o.semAt F.round a.eval = execOp a.eval o := Oper.semAt_eq _ _ _ fun c hc => by rw [hop] at hc; cases hc
    have hargs : (⟨ys⟩ : Array Value) ++ args.map a.eval ++ (⟨zs⟩ : Array Value) = ⟨ys ++ args.toList.map a.eval ++ zs⟩ := by apply Array.ext'; simp
    have hr : (execOp a.eval o).run E.P w = .ok (.enter g ⟨ys ++ args.toList.map a.eval ++ zs⟩) w := by
      rw [← hargs]
      simp [execOp, hop, resolve, hfe, Deferred.ofValue, invoke, callFunc_enter e1 e3 e2]
    rw [hsem, hr]
    exact ⟨fun hdep => (by rw [hF.depth] at hdep; cases hdep), hF.calls hc⟩
  intro next Q hnext
  split at h
  · -- the arguments' blocks go into the call
    simp only at h
    generalize hl : reach H 1000 (toksL (first ++ vs ++ cap)) [] = l at h
    have hnd : l.Nodup := by rw [← hl]; exact reach_nodup H _ _ _ (by simp)
    rw [bind_eq] at h
    obtain ⟨ws, hws, h⟩ := h
    rw [bind_eq] at h
    obtain ⟨bs, hbs, h⟩ := h
    obtain ⟨⟨r0, bs'⟩, hc, h⟩ := callK_eq.1 h
    simp only at h
    rw [bind_eq] at h
    obtain ⟨r, hr, h⟩ := h
    rw [bind_eq] at h
    obtain ⟨hw, hhw, h⟩ := h
    rw [cond_eq] at h
    obtain ⟨hcond, h⟩ := h
    rw [Bool.and_eq_true] at hcond
    obtain ⟨hle, hfr⟩ := hcond
    have hle := Nat.le_of_ble_eq_true hle
    cases h
    obtain ⟨b1, b2⟩ := blksOf_get hbs
    let ρc : Nat → Option Tk := fun j => (l[j]?).bind ρ
    have h1 : ∀ j k, ρc j = some k → ∃ t, l[j]? = some t ∧ ρ t = some k := fun j k h => by
      obtain ⟨t, ht, h⟩ := bind_eq.1 h
      exact ⟨t, ht, h⟩
    have h2 : ∀ j t k, l[j]? = some t → ρ t = some k → ρc j = some k := fun j t k hj hk => by simp only [ρc, hj]; exact hk
    have hren : ∀ t t' k, idx l t = some t' → ρ t = some k → ρc t' = some k := fun t t' k h hk => h2 _ _ _ (idx_eq h) hk
    have hlive : ∀ t ∈ l, ∃ b, at_ H t = some b := fun t ht => by
      obtain ⟨j, hj, rfl⟩ := List.getElem_of_mem ht
      obtain ⟨b, b', g1, _⟩ := b2 j _ (List.getElem?_eq_getElem hj)
      exact ⟨b, g1⟩
    have hget : ∀ (j : Nat) (b' : Blk), bs[j]? = some b' → ∃ t b, l[j]? = some t ∧ at_ H t = some b ∧ renB (idx l) b = some b' := fun j b' hb => by
      have hj : j < l.length := by rw [← b1]; exact (List.getElem?_eq_some_iff.1 hb).1
      obtain ⟨b, b'', g1, g2, g3⟩ := b2 j _ (List.getElem?_eq_getElem hj)
      rw [hb] at g3; cases g3
      exact ⟨_, b, List.getElem?_eq_getElem hj, g1, g2⟩
    obtain ⟨hE, hC⟩ := hX g ws bs (r0, bs') hc
    have hent : Entry E.P G ρc I w bs := by
      refine ⟨fun b hb => (S.immO b hb).1, fun j b' hb => ?_, fun j j' b1' b2' k k' g1 g2 k1 k2 hkk hwr => ?_, fun j k hk => ?_, hG.stays S.st0⟩
      · obtain ⟨t, b, g1, g2, g3⟩ := hget j b' hb
        obtain ⟨k, q1, q2, q3, q4, q5⟩ := S.live t b g2
        obtain ⟨r1, r2, r3⟩ := renB_rel (ρ' := ρc) hren g3 q3
        exact ⟨k, h2 _ _ _ g1 q1, r1, by rw [r2]; exact q4, by rw [r2]; exact q5⟩
      · obtain ⟨t, b, m1, m2, m3⟩ := hget j b1' g1
        obtain ⟨t', b', m1', m2', m3'⟩ := hget j' b2' g2
        obtain ⟨t0, e0, k1⟩ := h1 _ _ k1
        rw [m1] at e0; cases e0
        obtain ⟨t0', e0', k2⟩ := h1 _ _ k2
        rw [m1'] at e0'; cases e0'
        obtain ⟨kk, q1, _, q3, _⟩ := S.live t b m2
        have hwr0 : b.wr = true := by rw [← (renB_rel (ρ' := ρc) hren m3 q3).2.1]; exact hwr
        have := S.dist t t' b b' k k' m2 m2' k1 k2 hkk hwr0
        subst this
        obtain ⟨j1, e1⟩ := List.getElem?_eq_some_iff.1 m1
        obtain ⟨j2, e2⟩ := List.getElem?_eq_some_iff.1 m1'
        exact nodup_inj hnd j1 j2 (e1.trans e2.symm)
      · obtain ⟨t, ht, _⟩ := h1 j k hk
        rw [b1]; exact (List.getElem?_eq_some_iff.1 ht).1
    refine hcall hE next Q (Calls.mono (hC w ρc I _ hent (RVs_ren hren _ _ _ hws hall)) ?_)
    rintro en w' ⟨x, ρ', I', rfl, L⟩
    obtain ⟨ρ2, S2, hval⟩ := S.back L hnd h1 h2 hlive hle hfr hhw
    exact hnext x w' ρ2 I' (S2.put (RV_ren (fun t t' k ht hk => hval t t' k ht hk) _ _ _ hr L.val) hd)
  · rw [bind_eq] at h
    obtain ⟨ws, hws, h⟩ := h
    obtain ⟨⟨r0, bs'⟩, hc, h⟩ := callK_eq.1 h
    simp only at h
    rw [bind_eq] at h
    obtain ⟨r, hr, h⟩ := h
    rw [bind_eq] at h
    obtain ⟨hw, hhw, h⟩ := h
    rw [cond_eq] at h
    obtain ⟨hfr, h⟩ := h
    have S1 := S.freeze (toksL (first ++ vs ++ cap))
    have st1 : Stays I (frzI I ρ H (toksL (first ++ vs ++ cap))) ρ ρ w w := stf H _
    have hv1 := viewL_sound S st1 _ ws _ hws (fun t ht b' k hb' hk => .inr ⟨t, ht, b', k, hb', hk, rfl⟩) hall
    obtain ⟨hE, hC⟩ := hX g ws [] (r0, bs') hc
    have hent : Entry E.P G nil (frzI I ρ H (toksL (first ++ vs ++ cap))) w [] := ⟨fun b hb => (S1.immO b hb).1, fun t b hb => by simp at hb, fun t t' b b' k k' hb => by simp at hb, fun t k hk => (by cases hk), hG.stays S1.st0⟩
    refine hcall hE next Q (Calls.mono (hC w nil _ _ hent hv1) ?_)
    rintro en w' ⟨x, ρ', I', rfl, L⟩
    simp only
    cases hfl : flat r && bs'.isEmpty with
    | true =>
      rw [hfl] at h
      cases h
      rw [Bool.and_eq_true, List.isEmpty_iff] at hfl
      obtain ⟨hfl, rfl⟩ := hfl
      have S2 := S.extend L.size (fun b hb => L.keep b hb not_nil_own) L.stays.io
      have hval : RV I' nil w' r x := RV_ren (ρ := ρ') (fun t t' k _ hk => by have := L.dom t k hk; simp at this) _ _ _ hr L.val
      exact hnext x w' ρ I (S2.put (RV_flat _ _ hfl hval) hd)
    | false =>
      rw [hfl] at h
      cases h
      obtain ⟨ρ2, S2, hval⟩ := S1.back L (l := []) (by simp) (fun j k hk => by cases hk) (fun j t k hj => by simp at hj) (by simp) (by simp) (by simpa using freshN_frz hfr) hhw
      refine hnext x w' ρ2 I' ?_
      rw [hup_append]
      exact S2.put (RV_ren (fun t t' k ht hk => hval t t' k ht hk) _ _ _ hr L.val) hd

/-! Regions in the text's order. -/
theorem yielded_eq (S : Sim E ρ I T H a w) {ops : Array Oper} {j : Nat} {b : Bool} (h : ((ops[j]?).bind (·.dst)).bind T = some (.s (.bool b))) : yielded ops a.tmps j = some b := by
  obtain ⟨d, hd, h⟩ := bind_eq.1 h
  have := S.tmp d _ h
  simp only [RV] at this
  unfold yielded
  rw [hd]
  simp only [Option.bind_some]
  have hlt : d < a.tmps.size := by
    rcases Nat.lt_or_ge d a.tmps.size with h | h
    · exact h
    · simp [Array.getD, Nat.not_lt.2 h, undef] at this
  have e : a.tmps[d]? = some (.bool b) := by
    simp only [Array.getD, hlt, dif_pos] at this
    rw [Array.getElem?_eq_getElem hlt]
    exact congrArg some this
  rw [e]
theorem yielded_none (S : Sim E ρ I T H a w) {ops : Array Oper} {j : Nat} {vs : Array Value} (h : ((ops[j]?).bind (·.dst)).bind T = some (.s (.tuple vs))) : yielded ops a.tmps j = none := by
  obtain ⟨d, hd, h⟩ := bind_eq.1 h
  have := S.tmp d _ h
  simp only [RV] at this
  unfold yielded
  rw [hd]
  simp only [Option.bind_some]
  rcases Nat.lt_or_ge d a.tmps.size with hlt | hge
  · simp only [Array.getD, hlt, dif_pos] at this
    rw [Array.getElem?_eq_getElem hlt]
    have e : a.tmps[d] = .tuple vs := this
    rw [e]
  · rw [Array.getElem?_eq_none hge]

theorem callK_cps {α : Type} {x : Option (Bool × Out)} {f : Out → (R : Type) → (α → Option R) → Option R} (hf : ∀ b, Cps (f b)) : Cps (fun R K => callK x fun b => f b R K) := by
  unfold callK
  cases x with
  | none => exact cps_none
  | some q => exact cps_grd (hf q.2)
theorem opE_cps (X : Ctx Y) (o : Oper) (T : Nat → Option V) (H : Heap) (tok : Nat) : Cps (fun R K => opE (R := R) X o T H tok K) := by
  unfold opE
  split
  · split
    · refine cps_bind fun vs => ?_
      split
      · exact cps_bind fun ws => cps_bind fun bs => callK_cps fun _ => cps_bind fun r => cps_bind fun hw => cps_cond (cps_pure _) cps_none
      · exact cps_bind fun ws => callK_cps fun _ => cps_bind fun r => cps_bind fun hw => cps_cond (cps_cond (cps_pure _) (cps_pure _)) cps_none
    · exact cps_none
  · exact eff_cps _ _ _ _ _
end

/-- What a region's walk goes through: for each operation its effect, or none if it was passed over. -/
inductive Run {Y : Type} (X : Ctx Y) (ops : Array Oper) (base : Nat) : Nat → St → List (Option Eff) → St → Prop where
  | nil (i : Nat) (st : St) : Run X ops base i st [] st
  | skip {i : Nat} {st st' : St} {es : List (Option Eff)} {o : Oper} (ho : ops[i]? = some o) (hd : dOk o.dst X.N = true)
      (hg : ∃ j want, o.guard = some (j, want) ∧ ((∃ b, ((ops[j]?).bind (·.dst)).bind (lk st.tm) = some (.s (.bool b)) ∧ b ≠ want) ∨ ∃ vs, ((ops[j]?).bind (·.dst)).bind (lk st.tm) = some (.s (.tuple vs))))
      (h : Run X ops base (i + 1) { st with tm := put st.tm o.dst (.s undef) } es st') : Run X ops base i st (none :: es) st'
  | same {i : Nat} {st st0 st' : St} {es : List (Option Eff)} (ht : lk st0.tm = lk st.tm) (hh : st0.hp = st.hp) (hp : st0.pend = st.pend) (h : Run X ops base i st0 es st') : Run X ops base i st es st'
  | op {i : Nat} {st st' : St} {es : List (Option Eff)} {o : Oper} {e : Eff} (ho : ops[i]? = some o) (hd : dOk o.dst X.N = true)
      (hg : o.guard = none ∨ ∃ j want, o.guard = some (j, want) ∧ ((ops[j]?).bind (·.dst)).bind (lk st.tm) = some (.s (.bool want)))
      (he : opE X o (lk st.tm) (lk st.hp) (base + 16 * i) some = some e)
      (h : Run X ops base (i + 1) { st with tm := put st.tm o.dst e.v, hp := e.hw ++ st.hp } es st') : Run X ops base i st (some e :: es) st'

theorem run_pend {Y : Type} {X : Ctx Y} {ops : Array Oper} {base i : Nat} {st st' : St} {es : List (Option Eff)} (h : Run X ops base i st es st') : st'.pend = st.pend := by
  induction h with
  | nil => rfl
  | skip _ _ _ _ ih => exact ih
  | same _ _ hp _ ih => exact ih.trans hp
  | op _ _ _ _ _ ih => exact ih

/-- What a guard was is known behind it. -/
theorem lk_refine {ops : Array Oper} {j : Nat} {b : Bool} {st : St} (h : ((ops[j]?).bind (·.dst)).bind (lk st.tm) = some (.s (.bool b))) : lk (refine ops j b st).tm = lk st.tm := by
  unfold refine
  obtain ⟨d, hd, h⟩ := bind_eq.1 h
  rw [hd, lk_put]
  funext i
  simp only [upd]
  cases e : Nat.beq d i with
  | true => rw [← Nat.eq_of_beq_eq_true e, h]; rfl
  | false => rfl

def trOf : Nat → List (Option Eff) → List Ev → List Ev
  | _, [], tr => tr
  | i, none :: es, tr => trOf (i + 1) es (⟨i, [], []⟩ :: tr)
  | i, some e :: es, tr => trOf (i + 1) es (⟨i, e.rd, e.hw.map (·.1)⟩ :: tr)

theorem evOps_run {R : Type} {X : Ctx R} (hy : X.yl = none) {ops : Array Oper} {base : Nat} : ∀ (l : List Oper) (i : Nat) (st : St) (tr : List Ev) (K : St → List Ev → Option R) (r : R), (∀ (j : Nat) (o : Oper), l[j]? = some o → ops[i + j]? = some o) →
    evOps X ops base l i st tr K = some r → ∃ es st', Run X ops base i st es st' ∧ es.length = l.length ∧ K st' (trOf i es tr) = some r
  | [], i, st, tr, K, r, _, h => ⟨[], st, .nil i st, rfl, h⟩
  | o :: rest, i, st, tr, K, r, hl, h => by
    have ho : ops[i]? = some o := hl 0 o rfl
    have hl' : ∀ (j : Nat) (q : Oper), rest[j]? = some q → ops[i + 1 + j]? = some q := fun j q hq => by have := hl (j + 1) q hq; rwa [show i + (j + 1) = i + 1 + j by omega] at this
    have hrun : ∀ st : St, (o.guard = none ∨ ∃ j want, o.guard = some (j, want) ∧ ((ops[j]?).bind (·.dst)).bind (lk st.tm) = some (.s (.bool want))) →
        (bif dOk o.dst X.N then opE X o (lk st.tm) (lk st.hp) (base + 16 * i) fun e =>
          evOps X ops base rest (i + 1) { st with tm := put st.tm o.dst e.v, hp := e.hw ++ st.hp } (⟨i, e.rd, e.hw.map (·.1)⟩ :: tr) K else none) = some r →
        ∃ es st', Run X ops base i st es st' ∧ es.length = (o :: rest).length ∧ K st' (trOf i es tr) = some r := fun st hg h => by
      rw [cond_eq] at h
      obtain ⟨hd, h⟩ := h
      obtain ⟨e, h, hK⟩ := opE_cps X o (lk st.tm) (lk st.hp) (base + 16 * i) R _ r h
      obtain ⟨es, st', h1, h2, h3⟩ := evOps_run hy rest (i + 1) _ _ K r hl' h
      exact ⟨some e :: es, st', .op ho hd hg (hK Eff some) h1, by simp [h2], h3⟩
    have hskip : ∀ st : St, (∃ j want, o.guard = some (j, want) ∧ ((∃ b, ((ops[j]?).bind (·.dst)).bind (lk st.tm) = some (.s (.bool b)) ∧ b ≠ want) ∨ ∃ vs, ((ops[j]?).bind (·.dst)).bind (lk st.tm) = some (.s (.tuple vs)))) →
        (bif dOk o.dst X.N then evOps X ops base rest (i + 1) { st with tm := put st.tm o.dst (.s undef) } (⟨i, [], []⟩ :: tr) K else none) = some r →
        ∃ es st', Run X ops base i st es st' ∧ es.length = (o :: rest).length ∧ K st' (trOf i es tr) = some r := fun st hg h => by
      rw [cond_eq] at h
      obtain ⟨hd, h⟩ := h
      obtain ⟨es, st', h1, h2, h3⟩ := evOps_run hy rest (i + 1) _ _ K r hl' h
      exact ⟨none :: es, st', .skip ho hd hg h1, by simp [h2], h3⟩
    have same : ∀ {j : Nat} {b : Bool}, ((ops[j]?).bind (·.dst)).bind (lk st.tm) = some (.s (.bool b)) → (∃ es st', Run X ops base i (refine ops j b st) es st' ∧ es.length = (o :: rest).length ∧ K st' (trOf i es tr) = some r) →
        ∃ es st', Run X ops base i st es st' ∧ es.length = (o :: rest).length ∧ K st' (trOf i es tr) = some r := fun hb ⟨es, st', h1, h2, h3⟩ => ⟨es, st', .same (lk_refine hb) rfl rfl h1, h2, h3⟩
    simp only [evOps, evOp, hy] at h
    split at h
    · rename_i hg; exact hrun st (.inl hg) h
    · rename_i j want hg
      split at h
      · rename_i b hb
        split at h
        · rw [br_eq] at h
          cases b
          · exact same hb (hskip _ ⟨j, true, hg, .inl ⟨false, by rw [lk_refine hb]; exact hb, by decide⟩⟩ h)
          · exact same hb (hrun _ (.inr ⟨j, true, hg, by rw [lk_refine hb]; exact hb⟩) h)
        · rw [br_eq] at h
          cases b
          · exact same hb (hrun _ (.inr ⟨j, false, hg, by rw [lk_refine hb]; exact hb⟩) h)
          · exact same hb (hskip _ ⟨j, false, hg, .inl ⟨true, by rw [lk_refine hb]; exact hb, by decide⟩⟩ h)
      · rename_i vs hb; exact hskip st ⟨j, want, hg, .inr ⟨vs, hb⟩⟩ h
      · cases h

theorem run_walk {E : Env} {F : Fence} {n : Nat} {Y : Type} {X : Ctx Y} {G : Glob} (hF : Open F) (hX : CallOk E.P G X.call) (hG : GOk G E.I0 E.w0) (hP : X.P = E.P) (hN : X.N = E.N) {ops : Array Oper} {base : Nat} {Q : Exit → Act → World → Prop} {i : Nat} {st st' : St} {es : List (Option Eff)} (h : Run X ops base i st es st') :
    ∀ {ρ : Nat → Option Tk} {I : Nat → Prop} {a : Act} {w : World}, Sim E ρ I (lk st.tm) (lk st.hp) a w → (∀ ρ' I' a' w', Sim E ρ' I' (lk st'.tm) (lk st'.hp) a' w' → Q .normal a' w') →
      wpOpsIn F n E.P ops Q (List.range' i es.length) a w := by
  induction h with
  | nil i st => intro ρ I a w S hQ; exact hQ ρ I a w S
  | same ht hh hp h ih => intro ρ I a w S hQ; exact ih (by rw [ht, hh]; exact S) hQ
  | skip ho hd hg h ih =>
    intro ρ I a w S hQ
    rename_i o
    simp only [List.length_cons, List.range'_succ, wpOpsIn, ho]
    have hw : Region.wanted o (yielded ops a.tmps) = false := by
      obtain ⟨j, want, hgd, hc⟩ := hg
      unfold Region.wanted
      rw [hgd]
      rcases hc with ⟨b, hb, hne⟩ | ⟨vs, hb⟩
      · simp only [yielded_eq S hb]
        cases b <;> cases want <;> first | rfl | exact absurd rfl hne
      · simp only [yielded_none S hb]; rfl
    rw [hw]
    simp only [Bool.false_eq_true, if_false]
    refine ⟨fun f _ => hF.fn f, ih (ρ := ρ) (I := I) ?_ hQ⟩
    rw [lk_put]
    exact S.put (by simp [RV]) (by rw [← hN]; exact hd)
  | op ho hd hg he h ih =>
    intro ρ I a w S hQ
    rename_i o e
    simp only [List.length_cons, List.range'_succ, wpOpsIn, ho]
    have hw : Region.wanted o (yielded ops a.tmps) = true := by
      unfold Region.wanted
      rcases hg with hgd | ⟨j, want, hgd, hb⟩
      · rw [hgd]
      · rw [hgd]; simp [yielded_eq S hb]
    rw [hw]
    simp only [if_true]
    refine opE_step hF hX hG hP S (by rw [← hN]; exact hd) he _ Q fun x w' ρ' I' S' => ih (ρ := ρ') (I := I') ?_ hQ
    rw [lk_put, lk_hw]
    exact S'

/-! Regions in the text's order, with what is handed to a round. -/
/-- An environment whose first world hangs on how the last round was left. -/
abbrev Env.at (E : Env) (W : Option Ex → World) (p : Option Ex) : Env := { E with w0 := W p }

/-- What is asked of what a function that is ranged over hands its values to. -/
def YlOk {Y : Type} (E : Env) (W : Option Ex → World) (t : Nat) (h : List V → St → (Bool → St → Option Y) → Option Y) (r : Y) : Prop :=
  ∀ vs s Kb, h vs s Kb = some r → s.pend = none → ∀ (N : Nat) (ρ : Nat → Option Tk) (I : Nat → Prop) (T : Nat → Option V) (a : Act) (w : World) (xs : List Value) (k : Tk), Sim ({ E with N := N }.at W none) ρ I T (lk s.hp) a w → RVs I ρ w vs xs → ρ t = some k →
    ∀ (F : Fence) (n : Nat) (R : Ending → World → Prop), Open F → (∀ b s' ρ' I' w', Kb b s' = some r → Sim ({ E with N := N }.at W s'.pend) ρ' I' T (lk s'.hp) a w' → R (.returned (.bool b)) w') →
      ∃ fn tm as bd, (Instr.yield k.r ⟨xs⟩).run E.P w = .ok (.round k.r fn tm as bd) w ∧ RoundIn F n E.P k.r fn tm as bd w R

theorem isNone_eq {α : Type} {x : Option α} (h : isNone_ x = true) : x = none := by cases x <;> first | rfl | cases h

theorem yields_eq {T : Nat → Option V} {o : Oper} {t : Nat} {vs : List V} (h : yields T o = some (t, vs)) : ∃ f args tys, o.op = .call { callee := .value f, args, argTypes := tys } ∧ ev T f = some (.yl t) ∧ evL T args.toList = some vs := by
  unfold yields at h
  split at h
  · rename_i f args tys hop
    split at h
    · rename_i t' hf
      simp only [Option.map_eq_some_iff] at h
      obtain ⟨us, hu, e⟩ := h
      cases e
      exact ⟨f, args, tys, hop, hf, hu⟩
    · cases h
  · cases h

theorem evOps_walk {R : Type} {E : Env} {W : Option Ex → World} {F : Fence} {n : Nat} {X : Ctx R} {G : Glob} {r : R} (hF : Open F) (hX : CallOk E.P G X.call) (hG : ∀ p, GOk G E.I0 (W p)) (hP : X.P = E.P) (hN : X.N = E.N) (hY : ∀ t h, X.yl = some (t, h) → YlOk E W t h r) {ops : Array Oper} {base : Nat} {Q : Exit → Act → World → Prop} :
    ∀ (l : List Oper) (i : Nat) (st : St) (tr : List Ev) (K : St → List Ev → Option R), (∀ (j : Nat) (o : Oper), l[j]? = some o → ops[i + j]? = some o) →
    evOps X ops base l i st tr K = some r → ∀ {ρ : Nat → Option Tk} {I : Nat → Prop} {a : Act} {w : World}, Sim (E.at W st.pend) ρ I (lk st.tm) (lk st.hp) a w →
    (∀ st' tr' ρ' I' a' w', K st' tr' = some r → Sim (E.at W st'.pend) ρ' I' (lk st'.tm) (lk st'.hp) a' w' → Q .normal a' w') → wpOpsIn F n E.P ops Q (List.range' i l.length) a w
  | [], i, st, tr, K, _, h, ρ, I, a, w, S, hQ => hQ st tr ρ I a w h S
  | o :: rest, i, st, tr, K, hl, h, ρ, I, a, w, S, hQ => by
    have ho : ops[i]? = some o := hl 0 o rfl
    have hl' : ∀ (j : Nat) (q : Oper), rest[j]? = some q → ops[i + 1 + j]? = some q := fun j q hq => by have := hl (j + 1) q hq; rwa [show i + (j + 1) = i + 1 + j by omega] at this
    have rec_ := fun (st : St) (tr : List Ev) (h : evOps X ops base rest (i + 1) st tr K = some r) (ρ : Nat → Option Tk) (I : Nat → Prop) (a : Act) (w : World) (S : Sim (E.at W st.pend) ρ I (lk st.tm) (lk st.hp) a w) => evOps_walk (n := n) (Q := Q) hF hX hG hP hN hY rest (i + 1) st tr K hl' h (ρ := ρ) (I := I) (a := a) (w := w) S hQ
    have hskip : ∀ st : St, Sim (E.at W st.pend) ρ I (lk st.tm) (lk st.hp) a w → (∃ j want, o.guard = some (j, want) ∧ ((∃ b, ((ops[j]?).bind (·.dst)).bind (lk st.tm) = some (.s (.bool b)) ∧ b ≠ want) ∨ ∃ vs, ((ops[j]?).bind (·.dst)).bind (lk st.tm) = some (.s (.tuple vs)))) →
        (bif dOk o.dst X.N then evOps X ops base rest (i + 1) { st with tm := put st.tm o.dst (.s undef) } (⟨i, [], []⟩ :: tr) K else none) = some r →
        wpOpsIn F n E.P ops Q (List.range' i (o :: rest).length) a w := fun st S hg h => by
      rw [cond_eq] at h
      obtain ⟨hd, h⟩ := h
      simp only [List.length_cons, List.range'_succ, wpOpsIn, ho]
      have hw : Region.wanted o (yielded ops a.tmps) = false := by
        obtain ⟨j, want, hgd, hc⟩ := hg
        unfold Region.wanted
        rw [hgd]
        rcases hc with ⟨b, hb, hne⟩ | ⟨vs, hb⟩
        · simp only [yielded_eq S hb]
          cases b <;> cases want <;> first | rfl | exact absurd rfl hne
        · simp only [yielded_none S hb]; rfl
      rw [hw]
      simp only [Bool.false_eq_true, if_false]
      refine ⟨fun f _ => hF.fn f, rec_ _ _ h ρ I _ w ?_⟩
      rw [lk_put]
      exact S.put (by simp [RV]) (by rw [← hN]; exact hd)
    have hop : ∀ (st : St), Sim (E.at W st.pend) ρ I (lk st.tm) (lk st.hp) a w → ∀ (tr' : Eff → List Ev), (bif dOk o.dst X.N then opE X o (lk st.tm) (lk st.hp) (base + 16 * i) fun e =>
          evOps X ops base rest (i + 1) { st with tm := put st.tm o.dst e.v, hp := e.hw ++ st.hp } (tr' e) K else none) = some r →
        o.wpIn F n E.P a w (fun a w => wpOpsIn F n E.P ops Q (List.range' (i + 1) rest.length) a w) Q := fun st S tr' h => by
      rw [cond_eq] at h
      obtain ⟨hd, h⟩ := h
      obtain ⟨e, h, hK⟩ := opE_cps X o (lk st.tm) (lk st.hp) (base + 16 * i) R _ r h
      refine opE_step (E := E.at W st.pend) hF hX (hG _) hP S (by show dOk o.dst E.N = true; rw [← hN]; exact hd) (hK Eff some) _ Q fun x w' ρ' I' S' => rec_ _ _ h ρ' I' _ w' ?_
      rw [lk_put, lk_hw]
      exact S'
    have hrun : ∀ st : St, Sim (E.at W st.pend) ρ I (lk st.tm) (lk st.hp) a w → (o.guard = none ∨ ∃ j want, o.guard = some (j, want) ∧ ((ops[j]?).bind (·.dst)).bind (lk st.tm) = some (.s (.bool want))) →
        (bif dOk o.dst X.N then evOp X o st base i tr fun st tr => evOps X ops base rest (i + 1) st tr K else none) = some r →
        wpOpsIn F n E.P ops Q (List.range' i (o :: rest).length) a w := fun st S hg h => by
      simp only [List.length_cons, List.range'_succ, wpOpsIn, ho]
      have hw : Region.wanted o (yielded ops a.tmps) = true := by
        unfold Region.wanted
        rcases hg with hgd | ⟨j, want, hgd, hb⟩
        · rw [hgd]
        · rw [hgd]; simp [yielded_eq S hb]
      rw [hw]
      simp only [if_true]
      unfold evOp at h
      split at h
      · exact hop _ S _ h
      · rename_i t hd hyl
        split at h
        · exact hop _ S _ h
        · rename_i t' vs hyv
          rw [cond_eq] at h
          obtain ⟨hdd, h⟩ := h
          rw [cond_eq] at h
          obtain ⟨hc, h⟩ := h
          rw [Bool.and_eq_true] at hc
          obtain ⟨hc1, hc2⟩ := hc
          have hc1 := Nat.eq_of_beq_eq_true hc1
          subst hc1
          have hpn := isNone_eq hc2
          obtain ⟨f, args, tys, e1, e2, e3⟩ := yields_eq hyv
          have hv := ev_sound S e2
          simp only [RV] at hv
          obtain ⟨k, hfe, hk⟩ := hv
          have hvs := evL_sound S e3
          rw [hpn] at S
          have hy := hY _ _ hyl vs st _ h hpn E.N ρ I (lk st.tm) a w _ k S hvs hk F (n - 1) (fun
            | .returned v, w'' => wpOpsIn F n E.P ops Q (List.range' (i + 1) rest.length) (a.put o.dst v) w''
            | .panicked chain, w'' => Q (.panic chain) a w''
            | .outgrown, _ => LetsOut Q) hF (fun b s ρ' I' w' h S' => rec_ _ _ h ρ' I' _ w' (by
              rw [lk_put]
              exact S'.put (by simp [RV]) (by show dOk o.dst E.N = true; rw [← hN]; exact hdd)))
          obtain ⟨fn, tm, as, bd, hr, hrd⟩ := hy
          refine ⟨fun f _ => hF.fn f, ?_⟩
          have hsem : o.semAt F.round a.eval = execOp a.eval o := Oper.semAt_eq _ _ _ fun c hc => by rw [e1] at hc; cases hc
          have hargs : args.map a.eval = ⟨args.toList.map a.eval⟩ := by apply Array.ext'; simp
          have hr2 : (execOp a.eval o).run E.P w = .ok (.round k.r fn tm as bd) w := by
            rw [← hargs] at hr
            simp [execOp, e1, resolve, hfe, Deferred.ofValue, invoke, hr]
          rw [hsem, hr2]
          rw [Oper.uponIn_round]
          exact ⟨fun hdep => (by rw [hF.depth] at hdep; cases hdep), hrd⟩
    have same : ∀ {j : Nat} {b : Bool}, ((ops[j]?).bind (·.dst)).bind (lk st.tm) = some (.s (.bool b)) → Sim (E.at W (refine ops j b st).pend) ρ I (lk (refine ops j b st).tm) (lk (refine ops j b st).hp) a w := fun hb => by
      rw [lk_refine hb]; exact S
    simp only [evOps] at h
    split at h
    · rename_i hg; exact hrun st S (.inl hg) h
    · rename_i j want hg
      split at h
      · rename_i b hb
        split at h
        · rw [br_eq] at h
          cases b
          · exact hskip _ (same hb) ⟨j, true, hg, .inl ⟨false, by rw [lk_refine hb]; exact hb, by decide⟩⟩ h
          · exact hrun _ (same hb) (.inr ⟨j, true, hg, by rw [lk_refine hb]; exact hb⟩) h
        · rw [br_eq] at h
          cases b
          · exact hrun _ (same hb) (.inr ⟨j, false, hg, by rw [lk_refine hb]; exact hb⟩) h
          · exact hskip _ (same hb) ⟨j, false, hg, .inl ⟨true, by rw [lk_refine hb]; exact hb, by decide⟩⟩ h
      · rename_i vs hb; exact hskip st S ⟨j, want, hg, .inr ⟨vs, hb⟩⟩ h
      · cases h
end Go.PM
