/- The evaluator's code is the machine's. -/
import Derived.Test.YtfpdcfgjhkiklaaDoorPmRange
import Derived.LoopNIn
import Derived.OrdersIn
set_option linter.unusedSimpArgs false
set_option linter.unusedVariables false
set_option autoImplicit false
namespace Go.PM

theorem lk_renTm {f : Nat → Option Nat} : ∀ {tm tm' : List (Nat × V)}, renTm f tm = some tm' → ∀ (i : Nat) (v' : V), lk tm' i = some v' → ∃ v, lk tm i = some v ∧ ren f v = some v'
  | [], tm', h, i, v', hv => by simp only [renTm, Option.some.injEq] at h; subst h; cases hv
  | (t, v) :: r, tm', h, i, v', hv => by
    simp only [renTm] at h
    obtain ⟨u, hu, h⟩ := bind_eq.1 h
    simp only [Option.map_eq_some_iff] at h
    obtain ⟨us, hus, rfl⟩ := h
    simp only [lk] at hv ⊢
    cases e : Nat.beq t i with
    | true => rw [e] at hv; cases hv; exact ⟨v, rfl, hu⟩
    | false => rw [e] at hv; exact lk_renTm hus i v' hv
theorem lk_getAll {tm : List (Nat × V)} : ∀ {names : List Nat} {tm' : List (Nat × V)}, getAll tm names = some tm' → ∀ (i : Nat) (v : V), lk tm' i = some v → lk tm i = some v
  | [], tm', h, i, v, hv => by simp only [getAll, Option.some.injEq] at h; subst h; cases hv
  | t :: ts, tm', h, i, v, hv => by
    simp only [getAll] at h
    obtain ⟨u, hu, h⟩ := bind_eq.1 h
    simp only [Option.map_eq_some_iff] at h
    obtain ⟨us, hus, rfl⟩ := h
    simp only [lk] at hv
    cases e : Nat.beq t i with
    | true => rw [e] at hv; cases hv; rw [← Nat.eq_of_beq_eq_true e]; exact hu
    | false => rw [e] at hv; exact lk_getAll hus i v hv
theorem lk_renHp {H : Heap} {f : Nat → Option Nat} : ∀ {l : List Nat} {i : Nat} {hp : List (Nat × Option Blk)}, renHp H f l i = some hp →
    ∀ t, (lk hp t = none ↔ t < i ∨ i + l.length ≤ t) ∧ ∀ ob, lk hp t = some ob → ∃ q, t = i + q ∧ ∃ t0, l[q]? = some t0 ∧ match ob with | none => at_ H t0 = none | some b' => ∃ b, at_ H t0 = some b ∧ renB f b = some b'
  | [], i, hp, h, t => by simp only [renHp, Option.some.injEq] at h; subst h; exact ⟨by simp [lk]; omega, fun ob h => by cases h⟩
  | t0 :: ts, i, hp, h, t => by
    have key : ∃ ob hp', renHp H f ts (i + 1) = some hp' ∧ hp = (i, ob) :: hp' ∧ match ob with | none => at_ H t0 = none | some b' => ∃ b, at_ H t0 = some b ∧ renB f b = some b' := by
      simp only [renHp] at h
      cases hb : at_ H t0 with
      | none =>
        rw [hb] at h
        simp only [Option.map_eq_some_iff] at h
        obtain ⟨hp', hh, rfl⟩ := h
        exact ⟨none, hp', hh, rfl, rfl⟩
      | some b =>
        rw [hb] at h
        obtain ⟨b', hb', h⟩ := bind_eq.1 h
        simp only [Option.map_eq_some_iff] at h
        obtain ⟨hp', hh, rfl⟩ := h
        exact ⟨some b', hp', hh, rfl, b, rfl, hb'⟩
    obtain ⟨ob, hp', hh, rfl, hob⟩ := key
    obtain ⟨g1, g2⟩ := lk_renHp hh t
    simp only [lk, List.length_cons]
    cases e : Nat.beq i t with
    | true =>
      have e := Nat.eq_of_beq_eq_true e
      subst e
      simp only [cond_true]
      refine ⟨⟨fun h => (by cases h), fun h => (by omega)⟩, fun ob' h => ?_⟩
      cases h
      exact ⟨0, rfl, t0, rfl, hob⟩
    | false =>
      have hne : i ≠ t := fun e0 => by rw [e0, Nat.beq_refl] at e; cases e
      simp only [cond_false]
      refine ⟨g1.trans (by omega), fun ob' h => ?_⟩
      obtain ⟨q, rfl, t1, h1, h2⟩ := g2 ob' h
      exact ⟨q + 1, by omega, t1, by simpa using h1, h2⟩

section
variable {E : Env} {ρ : Nat → Option Tk} {I : Nat → Prop} {a : Act} {w : World} {F : Fence} {n : Nat}

theorem norm_sound {st st' : St} {m : Nat} {names : List Nat} (hm : ∀ t k, E.ρ0 t = some k → t < m) (S : Sim E ρ I (lk st.tm) (lk st.hp) a w) (h : norm m names st = some st') : ∃ ρ', Sim E ρ' I (lk st'.tm) (lk st'.hp) a w := by
  unfold norm at h
  rw [bind_eq] at h
  obtain ⟨tm, htm, h⟩ := h
  simp only at h
  generalize hl : addNew (reach (lk st.hp) 1000 (List.range m ++ toksT tm) []) (List.range m) = l at h
  have hnd : l.Nodup := by rw [← hl]; exact addNew_nodup _ _ List.nodup_range
  have hpre : ∃ r, l = List.range m ++ r := by rw [← hl]; exact addNew_pre _ _
  rw [bind_eq] at h
  obtain ⟨tm', htm', h⟩ := h
  rw [bind_eq] at h
  obtain ⟨hp, hhp, h⟩ := h
  cases h
  let ρ' : Nat → Option Tk := fun j => (l[j]?).bind ρ
  have h2 : ∀ j t k, l[j]? = some t → ρ t = some k → ρ' j = some k := fun j t k hj hk => by simp only [ρ', hj]; exact hk
  have hren : ∀ t t' k, idx l t = some t' → ρ t = some k → ρ' t' = some k := fun t t' k h hk => h2 _ _ _ (idx_eq h) hk
  have hlow : ∀ t, t < m → l[t]? = some t := fun t ht => by
    obtain ⟨r, hr⟩ := hpre
    rw [hr, List.getElem?_append_left (by simpa using ht)]
    simp [ht]
  have hlook : ∀ j b', at_ (lk hp) j = some b' → ∃ t b, l[j]? = some t ∧ at_ (lk st.hp) t = some b ∧ renB (idx l) b = some b' := fun j b' hb => by
    unfold at_ at hb
    cases e : lk hp j with
    | none => rw [e] at hb; cases hb
    | some ob =>
      rw [e] at hb
      obtain ⟨q, hq, t0, g1, g2⟩ := (lk_renHp hhp j).2 ob e
      cases ob with
      | none => cases hb
      | some b0 =>
        cases hb
        obtain ⟨b, g3, g4⟩ := g2
        rw [Nat.zero_add] at hq
        subst hq
        exact ⟨t0, b, g1, g3, g4⟩
  refine ⟨ρ', S.size, S.keep, ⟨S.st0.imm, fun t k hk => h2 t t k (hlow t (hm t k hk)) (S.st0.tok t k hk), S.st0.shape, S.st0.io⟩, S.immO, fun j b' hb => ?_, fun j j' b1 b2 k k' hb hb' hk hk' hkk hwr => ?_, fun j k hk => ?_, fun i v' hv' => ?_, S.num, S.dfs⟩
  · obtain ⟨t, b, g1, g2, g3⟩ := hlook j b' hb
    obtain ⟨k, q1, q2, q3, q4, q5⟩ := S.live t b g2
    obtain ⟨r1, r2, r3⟩ := renB_rel (ρ' := ρ') hren g3 q3
    exact ⟨k, h2 _ _ _ g1 q1, q2, r1, by rw [r2]; exact q4, by rw [r2]; exact q5⟩
  · obtain ⟨t, b, g1, g2, g3⟩ := hlook j b1 hb
    obtain ⟨t', b', g1', g2', g3'⟩ := hlook j' b2 hb'
    obtain ⟨t0, e0, hk⟩ := bind_eq.1 hk
    rw [g1] at e0; cases e0
    obtain ⟨t0', e0', hk'⟩ := bind_eq.1 hk'
    rw [g1'] at e0'; cases e0'
    obtain ⟨kk, q1, _, q3, _⟩ := S.live t b g2
    have hwr0 : b.wr = true := by rw [← (renB_rel (ρ' := ρ') hren g3 q3).2.1]; exact hwr
    have := S.dist t t' b b' k k' g2 g2' hk hk' hkk hwr0
    subst this
    obtain ⟨j1, e1⟩ := List.getElem?_eq_some_iff.1 g1
    obtain ⟨j2, e2⟩ := List.getElem?_eq_some_iff.1 g1'
    exact nodup_inj hnd j1 j2 (e1.trans e2.symm)
  · obtain ⟨t, ht, _⟩ := bind_eq.1 hk
    have hj := (List.getElem?_eq_some_iff.1 ht).1
    show (lk hp j).isSome = true
    cases e : lk hp j with
    | some x => rfl
    | none => have := (lk_renHp hhp j).1.1 e; omega
  · obtain ⟨v, g1, g2⟩ := lk_renTm htm' i v' hv'
    exact RV_ren hren _ _ _ g2 (S.tmp i v (lk_getAll htm i v g1))

def toExit : Ex → Exit
  | .normal => .normal
  | .exit id => .exit id
  | .goto l => .goto l
  | .ret => .ret

/-- What is asked behind code, of its ends. -/
def Ends {R : Type} (E : Env) (W : Option Ex → World) (K : Ex → St → Option R) (r : R) (Q : Exit → Act → World → Prop) : Prop :=
  ∀ e st' ρ' I' a' w', K e st' = some r → Sim (E.at W st'.pend) ρ' I' (lk st'.tm) (lk st'.hp) a' w' → Q (toExit e) a' w'

/-- What is asked of functions that are ranged over. -/
def IterOk {R : Type} (P : Program) (G : Glob) (iter : Iter R) (r : R) : Prop :=
  ∀ f args m t h hp ctr K, iter f args m t h hp ctr K = some r → Enters P f ∧ ∀ (E : Env) (W : Option Ex → World), E.P = P → (∀ p, GOk G E.I0 (W p)) → (∀ p, E.lo = (W p).heap.size) → (∀ b, E.I0 b → b < E.lo) → (∀ t k, E.ρ0 t = some k → t < m) → YlOk E W t h r →
    ∀ (ρ : Nat → Option Tk) (I : Nat → Prop) (xs : List Value) (w : World), Sim ({ E with N := 0 }.at W none) ρ I (fun _ => none) (lk hp) { tmps := #[], defers := [] } w → RVs I ρ w args xs →
      Calls P f ⟨xs⟩ w fun e w' => ∃ s' x ρ' I', K s' = some r ∧ e = .returned x ∧ Sim ({ E with N := 0 }.at W s'.pend) ρ' I' (fun _ => none) (lk s'.hp) { tmps := #[], defers := [] } w'

structure Good {R : Type} (E : Env) (W : Option Ex → World) (F : Fence) (G : Glob) (X : Ctx R) (r : R) : Prop where
  opn : Open F
  call : CallOk E.P G X.call
  glob : ∀ p, GOk G E.I0 (W p)
  iter : IterOk E.P G X.iter r
  P : X.P = E.P
  N : X.N = E.N
  own : ∀ t k, E.ρ0 t = some k → t < X.own
  yl : ∀ t h, X.yl = some (t, h) → YlOk E W t h r
  rnd : ∀ l, F.round = some l → E.I0 l ∧ ∀ p, ∃ r, (W p).heap[l]? = some (.loop r)
  lo : ∀ p, E.lo ≤ (W p).heap.size
  mix : E.P.follows .mixedOrders = true

def CodeOk (c : Code) : Prop :=
  ∀ (R : Type) (X : Ctx R) (E : Env) (W : Option Ex → World) (F : Fence) (G : Glob) (n m : Nat) (st : St) (K : Ex → St → Option R) (r : R), evC c X m st K = some r → Good E W F G X r →
    ∀ (ρ : Nat → Option Tk) (I : Nat → Prop) (a : Act) (w : World) (Q : Exit → Act → World → Prop), Sim (E.at W st.pend) ρ I (lk st.tm) (lk st.hp) a w → Ends E W K r Q → c.wpIn F n E.P Q a w

theorem stepR_scope {P : Program} {b : Frame} {a : Act} {k : List Item} {cs : List Frame} {w : World} {c : Code} : step P (lone (b.atR a (.code (.scope c) :: k)) cs w) = .next (lone (b.atR a (.code c :: .inScope c :: k)) cs w) :=
  step_lone_go (by simp [stepG, stepG.exec, Frame.atR])
theorem stepR_inScope {P : Program} {b : Frame} {a : Act} {k : List Item} {cs : List Frame} {w : World} {c : Code} : step P (lone (b.atR a (.inScope c :: k)) cs w) = .next (lone (b.atR a k) cs w) :=
  step_lone_go (by simp [stepG, stepG.exec, Frame.atR])
/-- A scope through which the run goes without a goto. -/
def Exit.straight (Q : Exit → Act → World → Prop) : Exit → Act → World → Prop
  | .goto _, _, _ => False
  | e, a, w => Q e a w
theorem wpIn_scope_straight {P : Program} {F : Fence} {n : Nat} {Q : Exit → Act → World → Prop} {a : Act} {w : World} {c : Code} (h : c.wpIn F n P (Exit.straight Q) a w) : (Code.scope c).wpIn F n P Q a w := by
  intro b k cs hro hb hr
  have h0 : (lone (b.atR a (.code (.scope c) :: k)) cs w).fenced P F := fenced_calm hb hr rfl
  obtain ⟨e, a₁, w₁, hq, harr⟩ := h b (.inScope c :: k) cs hro hb hr
  cases e with
  | normal => exact ⟨.normal, a₁, w₁, hq, .head h0 stepR_scope (StepsIn.trans harr (.one (fenced_calm hb hr rfl) stepR_inScope))⟩
  | exit id' =>
    have hx : exitTo id' (.inScope c :: k) = exitTo id' k := by simp [exitTo]
    exact ⟨.exit id', a₁, w₁, hq, fun k' hk => .head h0 stepR_scope (harr.1 k' (by rw [hx]; exact hk)),
      fun hr' hk => let ⟨k₁, h1, h2⟩ := harr.2 hr' (by rw [hx]; exact hk); ⟨k₁, h1, .head h0 stepR_scope h2⟩⟩
  | goto l => exact hq.elim
  | ret => exact ⟨_, a₁, w₁, hq, .of_steps (.one h0 stepR_scope) harr⟩
  | panic ch => exact ⟨_, a₁, w₁, hq, .of_steps (.one h0 stepR_scope) harr⟩
  | outgrown => exact ⟨_, a₁, w₁, hq, .of_steps (.one h0 stepR_scope) harr⟩

def codeOf : Ex → Code
  | .normal => .skip
  | .exit id => .exit id
  | .goto l => .goto l
  | .ret => .ret

theorem jump_ok {P : Program} {F : Fence} {n : Nat} {Q : Exit → Act → World → Prop} {a : Act} {w : World} : ∀ {e : Ex}, Q (toExit e) a w → (codeOf e).wpIn F n P Q a w
  | .normal, h => wpIn_skip h
  | .exit _, h => wpIn_exit h
  | .goto _, h => wpIn_goto h
  | .ret, h => wpIn_ret h

theorem open_round {F : Fence} (h : Open F) (l : Nat) : Open (F.inRound l) := ⟨h.fn, h.depth, fun hc => h.calls hc⟩

theorem norm_pend {st st' : St} {m : Nat} {names : List Nat} (h : norm m names st = some st') : st'.pend = st.pend := by
  unfold norm at h
  obtain ⟨tm, _, h⟩ := bind_eq.1 h
  simp only at h
  obtain ⟨tm', _, h⟩ := bind_eq.1 h
  obtain ⟨hp, _, h⟩ := bind_eq.1 h
  cases h; rfl
theorem norm_free {st st' : St} {m : Nat} {names : List Nat} (h : norm m names st = some st') : lk st'.hp st'.ctr = none ∧ ∀ t, (lk st'.hp t).isSome = true → t < st'.ctr := by
  unfold norm at h
  obtain ⟨tm, _, h⟩ := bind_eq.1 h
  simp only at h
  obtain ⟨tm', _, h⟩ := bind_eq.1 h
  obtain ⟨hp, hhp, h⟩ := bind_eq.1 h
  cases h
  refine ⟨((lk_renHp hhp _).1).2 (.inr (by simp)), fun t ht => ?_⟩
  rcases Nat.lt_or_ge t (addNew (reach (lk st.hp) 1000 (List.range m ++ toksT tm) []) (List.range m)).length with h | h
  · exact h
  · rw [((lk_renHp hhp t).1).2 (.inr (by omega))] at ht; cases ht

theorem below_lt {m : Nat} : ∀ {hp : List (Nat × Option Blk)}, below_ m hp = true → ∀ t, (lk hp t).isSome = true → t < m
  | [], _, t, h => by cases h
  | (j, b) :: hp, hb, t, h => by
    simp only [below_, List.all_cons, Bool.and_eq_true] at hb
    simp only [lk] at h
    cases e : Nat.beq j t with
    | true =>
      have := hb.1
      rw [Nat.blt_eq] at this
      rw [← Nat.eq_of_beq_eq_true e]; exact this
    | false => rw [e] at h; exact below_lt hb.2 t h

/-- What a round's frame begins with. -/
theorem putPs_rel {I : Nat → Prop} {ρ : Nat → Option Tk} {w : World} {N : Nat} : ∀ {ps : List Nat} {vs : List V} {xs : List Value} {T : List (Nat × V)} {tmps : Array Value}, (∀ p ∈ ps, p < N) → N ≤ tmps.size → ps.length = xs.length → RVs I ρ w vs xs → (∀ i v, lk T i = some v → RV I ρ w v (tmps.getD i undef)) →
    N ≤ ((ps.zip xs).foldl (fun tmps (t, a) => tmps.setIfInBounds t a) tmps).size ∧ ∀ i v, lk (putPs T ps vs) i = some v → RV I ρ w v (((ps.zip xs).foldl (fun tmps (t, a) => tmps.setIfInBounds t a) tmps).getD i undef)
  | [], vs, xs, T, tmps, _, hN, hl, hv, hT => by
    cases xs with
    | nil => exact ⟨hN, hT⟩
    | cons x xs => simp at hl
  | p :: ps, [], xs, T, tmps, _, hN, hl, hv, hT => by
    simp only [RVs] at hv; subst hv; simp at hl
  | p :: ps, v :: vs, xs, T, tmps, hp, hN, hl, hv, hT => by
    simp only [RVs] at hv
    obtain ⟨x, r, rfl, h1, h2⟩ := hv
    simp only [List.zip_cons_cons, List.foldl_cons, putPs]
    refine putPs_rel (fun q hq => hp q (List.mem_cons_of_mem _ hq)) (by simpa using hN) (by simpa using hl) h2 fun i u hu => ?_
    have hlt : p < tmps.size := Nat.lt_of_lt_of_le (hp p List.mem_cons_self) hN
    simp only [lk] at hu
    cases e : Nat.beq p i with
    | true =>
      rw [e] at hu
      have e := Nat.eq_of_beq_eq_true e
      subst e
      cases hu
      simpa [Array.getD, hlt] using h1
    | false =>
      rw [e] at hu
      have hne : p ≠ i := fun e0 => by rw [e0, Nat.beq_refl] at e; cases e
      have := hT i u hu
      have e2 : (tmps.setIfInBounds p x).getD i undef = tmps.getD i undef := by
        by_cases hi : i < tmps.size
        · simp [Array.getD, hi, hne]
        · simp [Array.getD, hi]
      rw [e2]; exact this

def recOf (fn : FuncId) (tmps : Array Value) (ps : Array Tmp) (assign body : Code) (D : Nat) (j : Option Ex) : Loop :=
  { state := match j with | none => .ready | some _ => .done, pending := j.map codeOf, fn, tmps, params := ps, assign, body, defers := D }

/-- A round. -/
theorem yl_ok {R : Type} {r : R} {E E2 : Env} {W W2 : Option Ex → World} {F : Fence} {GG : Glob} {X : Ctx R} (G : Good E W F GG X r) (hG2 : ∀ p, GOk GG E2.I0 (W2 p)) {assign body : Code} (ha : CodeOk assign) (hb : CodeOk body) {st1 : St} {ps : Array Tmp} {fn : FuncId} {tmps : Array Value} {D l t : Nat}
    (hP : E2.P = E.P) (hT : ∀ i v, lk st1.tm i = some v → RV E2.I0 E2.ρ0 (W2 none) v (tmps.getD i undef)) (hN : E.N ≤ tmps.size) (hIl : E2.I0 l) (hsz : ∀ p, (W2 p).heap.size = (W2 none).heap.size) (hoth : ∀ p b, b ≠ l → (W2 p).heap[b]? = (W2 none).heap[b]?)
    (hio : ∀ p, Io (W2 none) (W2 p)) (hrec : ∀ p, (W2 p).heap[l]? = some (.loop (recOf fn tmps ps assign body D p))) (ht : E2.ρ0 t = some ⟨l, 0, 0⟩) (mm : Nat) :
    YlOk E2 W2 t (roundK (evC assign) (evC body) X ps mm st1.tm) r := by
  intro vs s Kb h hpend N ρ I T a w xs k S hvs hk F' n Rr hF' hR
  unfold roundK at h
  rw [cond_eq] at h
  obtain ⟨hc, h⟩ := h
  simp only [Bool.and_eq_true] at hc
  obtain ⟨⟨hc1, hc2⟩, hc3⟩ := hc
  have hc1 := Nat.eq_of_beq_eq_true hc1
  have hpsN : ∀ p ∈ ps.toList, p < E.N := fun p hp => by
    have := List.all_eq_true.1 hc2 p hp
    rw [Nat.blt_eq, G.N] at this; exact this
  have hke : k = ⟨l, 0, 0⟩ := by have := S.st0.tok t _ ht; rw [this] at hk; cases hk; rfl
  subst hke
  have hrw : w.heap[l]? = some (.loop (recOf fn tmps ps assign body D none)) := (S.st0.imm l hIl).2.trans (hrec none)
  have hxl := RVs_len hvs
  have hy := run_yield (P := E2.P) (args := ⟨xs⟩) hrw (by show xs.length = ps.size; omega)
  refine ⟨fn, _, assign, body, hy, ?_⟩
  obtain ⟨hN3, hT3⟩ := putPs_rel (T := st1.tm) hpsN hN (by rw [Array.length_toList]; omega) hvs (fun i v hv => RV.stays S.st0 v _ (hT i v hv))
  have efold : ((recOf fn tmps ps assign body D none).params.zip ⟨xs⟩).foldl (fun tmps (t, a) => tmps.setIfInBounds t a) (recOf fn tmps ps assign body D none).tmps = (ps.toList.zip xs).foldl (fun tmps (t, a) => tmps.setIfInBounds t a) tmps := by
    rw [← Array.foldl_toList]
    simp [recOf]
  rw [efold]
  -- the assignments
  have S3 := S.begin (lo := 0) (a' := { tmps := (ps.toList.zip xs).foldl (fun tmps (t, a) => tmps.setIfInBounds t a) tmps, defers := [] }) hT3 hN3 rfl
  have hIlw : I l := (S.st0.imm l hIl).1
  refine roundIn_of_wpIn (hF'.fn fn) ?_
  rw [hP]
  refine ha R _ { P := E.P, w0 := w, own0 := liveOwn (lk s.hp) ρ, I0 := I, ρ0 := ρ, N := E.N, lo := 0 } (fun _ => w) (F'.inRound l) GG n mm _ _ _ h
    ⟨open_round hF' l, G.call, fun _ => (hG2 none).stays S.st0, G.iter, G.P, G.N, fun t k hk => below_lt hc3 t (S.dom t k hk), fun _ _ h => (by cases h), fun l' hl' => (by cases hl'; exact ⟨hIlw, fun _ => ⟨_, hrw⟩⟩), fun _ => Nat.zero_le _, G.mix⟩ ρ I _ w _ (by rw [← hP]; exact S3) ?_
  intro e s1 ρ1 I1 a1 w1 hK S4
  cases e with
  | exit id => cases hK
  | goto l => cases hK
  | ret => cases hK
  | normal =>
  simp only at hK
  rw [cond_eq] at hK
  obtain ⟨hc4, hK⟩ := hK
  have hrw1 : w1.heap[l]? = some (.loop (recOf fn tmps ps assign body D none)) := (S4.st0.imm l hIlw).2.trans hrw
  have hll : l < w1.heap.size := (Array.getElem?_eq_some_iff.1 hrw1).1
  have hbr := run_beginRound (P := E.P) hrw1 rfl
  refine ⟨_, hbr, ?_⟩
  generalize hw2 : w1.putObj l (.loop { recOf fn tmps ps assign body D none with state := .busy }) = w2
  have hrw2 : w2.heap[l]? = some (.loop { recOf fn tmps ps assign body D none with state := .busy }) := by rw [← hw2]; exact World.putObj_heap_same hll
  have hs2 : w2.heap.size = w1.heap.size := by rw [← hw2]; simp
  have ho2 : ∀ b, b ≠ l → w2.heap[b]? = w1.heap[b]? := fun b hb => by rw [← hw2]; exact World.putObj_heap_other hb
  have hS1 : Stay2 I1 I1 ρ1 ρ1 w1 w2 := Stay2.turn (fun _ h => h) (fun _ _ h => h) hrw1 ho2
  have S5 : Sim ({ P := E.P, w0 := w2, own0 := liveOwn (lk s1.hp) ρ1, I0 := I1, ρ0 := ρ1, N := E.N, lo := 0 } : Env) ρ1 I1 (lk s1.tm) (lk s1.hp) a1 w2 := by
    refine ⟨Nat.le_refl _, fun _ _ _ => rfl, Stays.refl _ _ w2, fun b hb => ⟨by rw [hs2]; exact (S4.immO b hb).1, fun _ => .inl hb⟩, fun t b hb => ?_, S4.dist, S4.dom, fun i v hv => RV.stay2 hS1 v _ (S4.tmp i v hv), S4.num, ?_⟩
    · obtain ⟨k, g1, g2, g3, g4⟩ := S4.live t b hb
      exact ⟨k, g1, fun _ => ⟨t, b, k, hb, g1, rfl⟩, g3.stay2 hS1 (ho2 _ (ne_rec g3 hrw1)), g4⟩
    · obtain ⟨ds, d1, d2, d3⟩ := S4.dfs
      exact ⟨ds, d1, d2, fun D hD => ⟨Nat.zero_le _, (d3 D hD).2.1, by rw [ho2 D (fun e => by have := (d3 D hD).2.2; rw [e, hrw1] at this; cases this)]; exact (d3 D hD).2.2⟩⟩
  have hI1l : I1 l := (S4.st0.imm l hIlw).1
  have hGw1 : GOk GG I1 w1 := ((hG2 none).stays S.st0).stays S4.st0
  have hGw2 : GOk GG I1 w2 := fun b cs hb => by
    obtain ⟨q1, q2⟩ := hGw1 b cs hb
    refine ⟨q1, fun j v hv => ?_⟩
    have q3 := q2 j v hv
    have hne : b ≠ l := fun e => by
      subst e
      unfold World.cell? at q3
      simp only at q3
      rw [hrw1] at q3
      simp at q3
    rw [cell_of_heap (ho2 b hne)]; exact q3
  refine hb R _ { P := E.P, w0 := w2, own0 := liveOwn (lk s1.hp) ρ1, I0 := I1, ρ0 := ρ1, N := E.N, lo := 0 } (fun _ => w2) (F'.inRound l) GG n 0 _ _ _ hK
    ⟨open_round hF' l, G.call, fun _ => hGw2, G.iter, G.P, G.N, fun t k hk => below_lt hc4 t (S4.dom t k hk), fun _ _ h => (by cases h), fun l' hl' => (by cases hl'; exact ⟨hI1l, fun _ => ⟨_, hrw2⟩⟩), fun _ => Nat.zero_le _, G.mix⟩ ρ1 I1 _ w2 _ S5 ?_
  intro e s2 ρ2 I2 a2 w3 hK2 S6
  have hrw3 : w3.heap[l]? = some (.loop { recOf fn tmps ps assign body D none with state := .busy }) := (S6.st0.imm l hI1l).2.trans hrw2
  have hll3 : l < w3.heap.size := (Array.getElem?_eq_some_iff.1 hrw3).1
  -- the outer activation behind the assignments
  have J1 : Sim ({ E2 with N := N }.at W2 none) ρ1 I1 T (lk s1.hp) a w1 :=
    Sim.join (E := ({ E2 with N := N } : Env).at W2 none) (l := l) (w0' := W2 none) S S4 hP.symm (fun _ h => h) (fun _ h => h) (fun _ h => .inl h) (fun _ => hIl) (fun _ _ h => h) rfl (fun _ _ => rfl) hrw hrw rfl (fun _ _ => rfl) hrw1 hrw1 rfl (fun _ _ => rfl) (.inl (by rw [hrw1]; exact (hrec none).symm)) .rfl .rfl .rfl
  have fin : ∀ (j : Option Ex) (b : Bool) (s' : St), s'.pend = j → s'.hp = s2.hp → b = (j.map codeOf).isNone → Kb b s' = some r → ∃ v w', (Instr.endRound l (j.map codeOf)).run E.P w3 = .ok v w' ∧ Rr (.returned v) w' := fun j b s' hj hhp hbj hKb => by
    have key : (Instr.endRound l (j.map codeOf)).run E.P w3 = .ok (.bool (j.map codeOf).isNone) (w3.putObj l (.loop (recOf fn tmps ps assign body D j))) := by
      cases j with
      | none => exact run_endRound (P := E.P) none hrw3
      | some e => exact run_endRound (P := E.P) (some (codeOf e)) hrw3
    refine ⟨_, _, key, ?_⟩
    rw [← hbj]
    refine hR b s' ρ2 I2 _ hKb ?_
    rw [hj, hhp]
    exact Sim.join (E := ({ E2 with N := N } : Env).at W2 none) (l := l) (w0' := W2 j) J1 S6 hP.symm (fun _ h => h) (fun _ h => h) (fun _ h => .inl h) (fun _ => hIl) (fun _ _ h => h) hs2 ho2 hrw1 hrw2 (by simp) (fun b hb => World.putObj_heap_other hb) hrw3 (World.putObj_heap_same hll3) (hsz j) (hoth j) (.inl (by rw [World.putObj_heap_same hll3]; exact (hrec j).symm)) (by rw [← hw2]; exact ⟨rfl, rfl⟩) ⟨rfl, rfl⟩ (hio j)
  cases e with
  | normal => exact fin none true { s with hp := s2.hp, ctr := s2.ctr } hpend rfl rfl hK2
  | exit id => exact fin (some (.exit id)) false { s with hp := s2.hp, ctr := s2.ctr, pend := some (.exit id) } rfl rfl rfl hK2
  | goto l => exact fin (some (.goto l)) false { s with hp := s2.hp, ctr := s2.ctr, pend := some (.goto l) } rfl rfl rfl hK2
  | ret => exact fin (some .ret) false { s with hp := s2.hp, ctr := s2.ctr, pend := some .ret } rfl rfl rfl hK2

/-- A range over a function. -/
theorem range_ok {assign body : Code} (ha : CodeOk assign) (hb : CodeOk body) (g : Operand) (ps : Array Tmp) : CodeOk (.rangeFunc g ps assign body) := by
  intro R X E W F GG n m st K r h G ρ I a w Q S hQ
  simp only [evC] at h
  obtain ⟨st1, hst, h⟩ := bind_eq.1 h
  have hpe := norm_pend hst
  obtain ⟨hfree, hlow⟩ := norm_free hst
  obtain ⟨ρ1, S1⟩ := norm_sound (E := E.at W st.pend) (fun t k hk => G.own t k hk) S hst
  clear S hst
  split at h
  case h_2 => cases h
  rename_i f first cap hgv
  obtain ⟨⟨fnc, c, e1, e2, e3⟩, hI⟩ := G.iter _ _ _ _ _ _ _ _ h
  have hfv := ev_sound S1 hgv
  simp only [RV] at hfv
  obtain ⟨ys, zs, hfe, hys, hzs⟩ := hfv
  refine wpIn_rangeFunc fun fn hfn => ?_
  -- the record
  obtain ⟨l, D, mark, w1, I1, he, hlw, hDl, hwl, hsz, hold, hII, hI1, hmk, hio1⟩ : ∃ (l D : Nat) (mark : List Deferred) (w1 : World) (I1 : Nat → Prop), (Instr.enterLoop fn a.tmps ps assign body F.round).run E.P w = .ok (l, mark) w1 ∧
      w.heap.size ≤ l ∧ ¬ I1 l ∧ w1.heap[l]? = some (.loop (recOf fn a.tmps ps assign body D none)) ∧ w.heap.size ≤ w1.heap.size ∧ (∀ b, b < w.heap.size → w1.heap[b]? = w.heap[b]?) ∧ (∀ b, I b → I1 b) ∧ (∀ b, I1 b → I b ∨ (w.heap.size ≤ b ∧ b < w1.heap.size)) ∧
      Marks E.lo I1 w1 (mark ++ a.defers) ∧ Io w w1 := by
    cases hro : F.round with
    | none =>
      have hr := run_enterLoop_outer (P := E.P) (w := w) fn a.tmps ps assign body
      refine ⟨_, w.heap.size, _, _, fun b => I b ∨ b = w.heap.size, hr, by omega, ?_, ?_, by simp [World.size_alloc]; omega, fun b hb => ?_, fun b hb => .inl hb, fun b hb => ?_, ?_, ⟨rfl, rfl⟩⟩
      · rintro (h | h)
        · have := (S1.immO _ h).1; omega
        · omega
      · have := World.alloc_heap_new (w.alloc (.deferred (some []))) (.loop (recOf fn a.tmps ps assign body w.heap.size none))
        rw [World.size_alloc] at this
        exact this
      · rw [heap_alloc _ _ _ (by rw [World.size_alloc]; omega), heap_alloc _ _ _ hb]
      · rcases hb with h | h
        · exact .inl h
        · right; rw [World.size_alloc, World.size_alloc]; omega
      · obtain ⟨ds, d1, d2, d3⟩ := S1.dfs
        refine ⟨w.heap.size :: ds, ?_, by rw [d2]; rfl, fun D hD => ?_⟩
        · rw [List.nodup_cons]
          exact ⟨fun hm => by have := (S1.immO _ (d3 _ hm).2.1).1; omega, d1⟩
        · rcases List.mem_cons.1 hD with rfl | hD
          · refine ⟨Nat.le_trans (G.lo st.pend) S1.size, .inr rfl, ?_⟩
            rw [heap_alloc _ _ _ (by rw [World.size_alloc]; omega)]
            exact World.alloc_heap_new w _
          · refine ⟨(d3 D hD).1, .inl (d3 D hD).2.1, ?_⟩
            have hlt := (S1.immO _ (d3 D hD).2.1).1
            rw [heap_alloc _ _ _ (by rw [World.size_alloc]; omega), heap_alloc _ _ _ hlt]
            exact (d3 D hD).2.2
    | some l0 =>
      obtain ⟨hi0, hr0⟩ := G.rnd l0 hro
      obtain ⟨r0, hr0⟩ := hr0 st.pend
      have hl0 : w.heap[l0]? = some (.loop r0) := (S1.st0.imm l0 hi0).2.trans hr0
      have hr := run_enterLoop_inner (P := E.P) (w := w) hl0 fn a.tmps ps assign body
      refine ⟨_, r0.defers, _, _, I, hr, by omega, fun h => ?_, ?_, by simp [World.size_alloc], fun b hb => heap_alloc _ _ _ hb, fun b hb => hb, fun b hb => .inl hb, ?_, ⟨rfl, rfl⟩⟩
      · have := (S1.immO _ h).1; omega
      · exact World.alloc_heap_new w _
      · obtain ⟨ds, d1, d2, d3⟩ := S1.dfs
        refine ⟨ds, d1, by rw [d2]; rfl, fun D hD => ⟨(d3 D hD).1, (d3 D hD).2.1, ?_⟩⟩
        rw [heap_alloc _ _ _ (S1.immO _ (d3 D hD).2.1).1]
        exact (d3 D hD).2.2
  have hl1 : l < w1.heap.size := (Array.getElem?_eq_some_iff.1 hwl).1
  -- the activation behind the record
  have st01 : Stays I I1 ρ1 ρ1 w w1 := ⟨fun b hb => ⟨hII b hb, hold b (S1.immO b hb).1⟩, fun _ _ h => h, fun t k s _ hs => by rw [shape_of_heap (hold _ (lt_of_shape hs))]; exact hs, hio1⟩
  have S2 : Sim (E.at W st.pend) ρ1 I1 (lk st1.tm) (lk st1.hp) { a with defers := mark ++ a.defers } w1 := by
    refine ⟨Nat.le_trans S1.size hsz, fun b hb hn => (hold b (Nat.lt_of_lt_of_le hb S1.size)).trans (S1.keep b hb hn), S1.st0.trans st01, fun b hb => ?_, fun t b ht => ?_, S1.dist, S1.dom, fun i v hv => RV.stays st01 v _ (S1.tmp i v hv), S1.num, hmk⟩
    · rcases hI1 b hb with h | ⟨h1, h2⟩
      · exact ⟨Nat.lt_of_lt_of_le (S1.immO b h).1 hsz, (S1.immO b h).2⟩
      · exact ⟨h2, fun h => by have := S1.size; omega⟩
    · obtain ⟨k, g1, g2, g3, g4, g5⟩ := S1.live t b ht
      have hk := lt_of_rel g3
      refine ⟨k, g1, g2, g3.stays st01 (hold _ hk), fun hw hi => ?_, fun hw => hII _ (g5 hw)⟩
      rcases hI1 _ hi with h | ⟨h1, _⟩
      · exact g4 hw h
      · omega
  clear hmk
  let W2 : Option Ex → World := fun p => match p with | none => w1 | some e => w1.putObj l (.loop (recOf fn a.tmps ps assign body D (some e)))
  let E2 : Env := { P := E.P, w0 := w1, own0 := liveOwn (lk st1.hp) ρ1, I0 := fun b => I1 b ∨ b = l, ρ0 := PM.rhoUp ρ1 st1.ctr ⟨l, 0, 0⟩, N := 0, lo := w1.heap.size }
  obtain ⟨st12, S3⟩ := S2.beginRange (t := st1.ctr) (l := l) (N := 0) (T' := fun _ => none) (a' := { tmps := #[], defers := [] }) hfree hwl (fun i v hv => by cases hv) (by simp) rfl
  have hG1 : GOk GG I w := (G.glob st.pend).stays S1.st0
  have hG2 : ∀ p, GOk GG E2.I0 (W2 p) := fun p b cs hb => by
    obtain ⟨q1, q2⟩ := hG1 b cs hb
    have hlt := (S1.immO b q1).1
    refine ⟨.inl (hII b q1), fun j v hv => ?_⟩
    rw [← q2 j v hv]
    refine cell_of_heap ?_
    cases p with
    | none => exact hold b hlt
    | some e => exact (World.putObj_heap_other (by omega)).trans (hold b hlt)
  have hYl : YlOk E2 W2 st1.ctr _ r := yl_ok G hG2 ha hb (E2 := E2) (W2 := W2) (st1 := st1) (ps := ps) (fn := fn) (tmps := a.tmps) (D := D) (l := l) (t := st1.ctr) rfl (fun i v hv => RV.stays st12 v _ (S2.tmp i v hv)) S1.num (.inr rfl)
    (fun p => by cases p <;> simp [W2]) (fun p b hne => by cases p with | none => rfl | some e => exact World.putObj_heap_other hne) (fun p => by cases p <;> exact ⟨rfl, rfl⟩) (fun p => by cases p with | none => exact hwl | some e => exact World.putObj_heap_same hl1) (by simp [E2, PM.rhoUp]) (mCode body)
  have hargs : RVs (fun b => I1 b ∨ b = l) (PM.rhoUp ρ1 st1.ctr ⟨l, 0, 0⟩) w1 (first ++ [.yl st1.ctr] ++ cap) (ys ++ [.func (.yield l) #[] #[]] ++ zs) := by
    refine RVs_append (RVs_append (RVs.stays (st01.trans st12) _ _ hys) ?_) (RVs.stays (st01.trans st12) _ _ hzs)
    simp only [RVs, RV]
    exact ⟨_, [], rfl, ⟨⟨l, 0, 0⟩, rfl, by simp [PM.rhoUp]⟩, rfl⟩
  have hC := hI E2 W2 rfl hG2 (fun p => by cases p <;> simp [W2, E2]) (fun b hb => by
    rcases hb with hb | rfl
    · exact (S2.immO b hb).1
    · exact hl1) (fun t k hk => by
    have hk : PM.rhoUp ρ1 st1.ctr ⟨l, 0, 0⟩ t = some k := hk
    simp only [PM.rhoUp] at hk
    by_cases e : t = st1.ctr
    · omega
    · rw [if_neg e] at hk
      have := hlow t (S1.dom t k hk)
      omega) hYl _ _ _ w1 (by
        have : lk ((st1.ctr, none) :: st1.hp) = hup [(st1.ctr, none)] (lk st1.hp) := by rw [← lk_hw]; rfl
        rw [this]; exact S3) hargs
  have hres : (resolve a.eval (rangeCall g l) 0).run E.P w1 = .ok { target := .fn (.func f) ⟨zs⟩, args := ⟨ys⟩ ++ #[.func (.yield l) #[] #[]] } w1 := by
    simp [resolve, hfe, Deferred.ofValue]
    rfl
  have hargs2 : (⟨ys⟩ : Array Value) ++ #[.func (.yield l) #[] #[]] ++ (⟨zs⟩ : Array Value) = ⟨ys ++ [.func (.yield l) #[] #[]] ++ zs⟩ := by apply Array.ext'; simp
  refine ⟨l, mark, w1, _, w1, f, _, w1, he, hres, fun f' _ => G.opn.fn f', ?_, fun hd => (by rw [G.opn.depth] at hd; cases hd), G.opn.calls (Calls.mono (hargs2 ▸ hC) ?_)⟩
  · simp [invoke, callFunc_enter e1 e3 e2]
  rintro en w3 ⟨s, x, ρ', I', h, rfl, S4⟩
  unfold behind at h
  have hr3 : w3.heap[l]? = some (.loop (recOf fn a.tmps ps assign body D s.pend)) := by
    refine ((S4.st0.imm l (.inr rfl)).2).trans ?_
    cases hp : s.pend with
    | none => exact hwl
    | some e => exact World.putObj_heap_same hl1
  have hl3 : l < w3.heap.size := (Array.getElem?_eq_some_iff.1 hr3).1
  have hend := run_endLoop (P := E.P) hr3 (by cases s.pend <;> simp [recOf])
  have J : Sim (E.at W st.pend) ρ' I' (lk st1.tm) (lk s.hp) { a with defers := mark ++ a.defers } (w3.putObj l (.loop { recOf fn a.tmps ps assign body D s.pend with state := .exhausted })) :=
    Sim.join (E := E.at W st.pend) (l := l) (w0' := W st.pend) (r2 := recOf fn a.tmps ps assign body D s.pend) S2 S4 rfl (fun _ h => h) (fun _ h => .inl h) (fun _ h => h) (fun h => by have := S1.size; exact absurd h (by omega)) st12.tok
      (by cases s.pend <;> simp [W2]) (fun b hne => by cases s.pend with | none => rfl | some e => exact World.putObj_heap_other hne) hwl (by cases s.pend with | none => exact hwl | some e => exact World.putObj_heap_same hl1)
      (by simp) (fun b hne => World.putObj_heap_other hne) hr3 (World.putObj_heap_same hl3) rfl (fun _ _ => rfl) (.inr ⟨Nat.le_trans S1.size hlw, fun h => hDl (S2.st0.imm l h).1⟩) (by cases s.pend <;> exact ⟨rfl, rfl⟩) ⟨rfl, rfl⟩ .rfl
  refine ⟨_, _, hend, ?_⟩
  cases hp : s.pend with
  | none =>
    rw [hp] at h J
    simp only [recOf, Option.map_none]
    exact hQ .normal { st1 with hp := s.hp, ctr := s.ctr } ρ' I' _ _ h (by rw [hpe]; exact J)
  | some e =>
    rw [hp] at h J
    simp only [recOf, Option.map_some]
    exact jump_ok (hQ e { st1 with hp := s.hp, ctr := s.ctr } ρ' I' _ _ h (by rw [hpe]; exact J))

theorem evC_sound : ∀ (c : Code), CodeOk c
  | .skip => fun R X E W F GG n m st K r h G ρ I a w Q S hQ => wpIn_skip (hQ .normal st ρ I a w h S)
  | .label _ => fun R X E W F GG n m st K r h G ρ I a w Q S hQ => wpIn_label (hQ .normal st ρ I a w h S)
  | .ret => fun R X E W F GG n m st K r h G ρ I a w Q S hQ => wpIn_ret (hQ .ret st ρ I a w h S)
  | .exit id => fun R X E W F GG n m st K r h G ρ I a w Q S hQ => wpIn_exit (hQ (.exit id) st ρ I a w h S)
  | .goto l => fun R X E W F GG n m st K r h G ρ I a w Q S hQ => wpIn_goto (hQ (.goto l) st ρ I a w h S)
  | .region id ops draw => fun R X E W F GG n m st K r h G ρ I a w Q S hQ => by
    simp only [evC] at h
    cases draw with
    | false =>
      simp only at h
      refine wpIn_region ?_
      have := evOps_walk (E := E) (W := W) (n := n) (Q := Q) G.opn G.call G.glob G.P G.N G.yl ops.toList 0 _ [] _ (fun j o hj => by simpa using hj) h S fun st' tr' ρ' I' a' w' hK S' => hQ .normal st' ρ' I' a' w' hK S'
      rw [Array.length_toList] at this
      rwa [List.range_eq_range']
    | true =>
      simp only at h
      obtain ⟨es, st', h1, h2, h3⟩ := evOps_run (X := { X with yl := none }) rfl ops.toList 0 _ [] _ r (fun j o hj => by simpa using hj) h
      have hchk : chk ops (trOf 0 es []) = true ∧ K .normal st' = some r := by
        unfold dchk at h3
        cases e : chk ops (trOf 0 es []) with
        | true => rw [e] at h3; exact ⟨rfl, h3⟩
        | false => rw [e] at h3; cases h3
      refine wpIn_region_any G.mix ?_
      have hp := run_pend h1
      exact draw_sound (X := { X with yl := none }) (E := E.at W st.pend) G.opn G.call (G.glob _) G.P G.N h1 (by rw [h2, Array.length_toList]) hchk.1 (fun ρ' I' a' w' S' => hQ .normal st' ρ' I' a' w' hchk.2 (by rw [hp]; exact S')) (S.heap rfl)
  | .seq x y => fun R X E W F GG n m st K r h G ρ I a w Q S hQ => by
    simp only [evC] at h
    refine wpIn_seq (evC_sound x _ _ _ _ _ _ _ _ _ _ _ h G _ _ _ _ _ S fun e st' ρ' I' a' w' hK S' => ?_)
    cases e with
    | normal => exact evC_sound y _ _ _ _ _ _ _ _ _ _ _ hK G _ _ _ _ _ S' hQ
    | exit id => exact hQ _ _ _ _ _ _ hK S'
    | goto l => exact hQ _ _ _ _ _ _ hK S'
    | ret => exact hQ _ _ _ _ _ _ hK S'
  | .cond c x y => fun R X E W F GG n m st K r h G ρ I a w Q S hQ => by
    simp only [evC] at h
    split at h
    · rename_i v hv
      have hc := ev_sound S hv
      simp only [RV] at hc
      rw [br_eq] at h
      refine wpIn_cond hc ?_
      cases v with
      | true => exact evC_sound x _ _ _ _ _ _ _ _ _ _ _ h G _ _ _ _ _ S hQ
      | false => exact evC_sound y _ _ _ _ _ _ _ _ _ _ _ h G _ _ _ _ _ S hQ
    · cases h
  | .block id b => fun R X E W F GG n m st K r h G ρ I a w Q S hQ => by
    simp only [evC] at h
    refine wpIn_block (evC_sound b _ _ _ _ _ _ _ _ _ _ _ h G _ _ _ _ _ S fun e st' ρ' I' a' w' hK S' => ?_)
    cases e with
    | normal => exact hQ .normal _ _ _ _ _ hK S'
    | exit id' =>
      simp only at hK
      simp only [toExit, Exit.inBlock]
      cases e : Nat.beq id' id with
      | true =>
        rw [e] at hK
        rw [if_pos (Nat.eq_of_beq_eq_true e)]
        exact hQ .normal _ _ _ _ _ hK S'
      | false =>
        rw [e] at hK
        rw [if_neg (fun e0 => by rw [e0, Nat.beq_refl] at e; cases e)]
        exact hQ (.exit id') _ _ _ _ _ hK S'
    | goto l => exact hQ (.goto l) _ _ _ _ _ hK S'
    | ret => exact hQ .ret _ _ _ _ _ hK S'
  | .loop b => fun R X E W F GG n m st K r h G ρ I a w Q S hQ => by
    simp only [evC] at h
    refine wpIn_loop_rounds X.fuel ?_
    generalize X.fuel = f at h
    generalize keep X.N (Nat.lor (mCode b) m) st.tm = names at h
    have nrm : ∀ {names : List Nat} {st st1 : St} {ρ : Nat → Option Tk} {I : Nat → Prop} {a : Act} {w : World}, norm X.own names st = some st1 → Sim (E.at W st.pend) ρ I (lk st.tm) (lk st.hp) a w → ∃ ρ', Sim (E.at W st1.pend) ρ' I (lk st1.tm) (lk st1.hp) a w := fun hst S => by
      obtain ⟨ρ1, S1⟩ := norm_sound (E := E.at W _) (fun t k hk => G.own t k hk) S hst
      rw [← norm_pend hst] at S1
      exact ⟨ρ1, S1⟩
    have out : ∀ (e : Ex) (st' : St) (ρ' : Nat → Option Tk) (I' : Nat → Prop) (a' : Act) (w' : World), ((norm X.own (keep X.N m st'.tm) st').bind fun st => K e st) = some r → Sim (E.at W st'.pend) ρ' I' (lk st'.tm) (lk st'.hp) a' w' → Q (toExit e) a' w' := fun e st' ρ' I' a' w' hK S' => by
      obtain ⟨st2, hst2, hK⟩ := bind_eq.1 hK
      obtain ⟨ρ2, S2⟩ := nrm hst2 S'
      exact hQ _ _ _ _ _ _ hK S2
    have key : ∀ (f : Nat) (st : St) (ρ : Nat → Option Tk) (I : Nat → Prop) (a : Act) (w : World), loopN (fun st K => evC b X (Nat.lor (mCode b) m) st K) X.own names (fun st => keep X.N m st.tm) f st K = some r → Sim (E.at W st.pend) ρ I (lk st.tm) (lk st.hp) a w → Code.roundsIn F n E.P b Q f a w := by
      intro f
      induction f with
      | zero => intro st ρ I a w h; rw [loopN_zero] at h; cases h
      | succ f ih =>
        intro st ρ I a w h S
        rw [loopN_succ] at h
        rw [roundsIn_succ]
        refine evC_sound b _ _ _ _ _ _ _ _ _ _ _ h G _ _ _ _ _ S fun e st' ρ' I' a' w' hK S' => ?_
        cases e with
        | normal =>
          obtain ⟨st2, hst2, hK⟩ := bind_eq.1 hK
          obtain ⟨ρ2, S2⟩ := nrm hst2 S'
          exact ih st2 _ _ _ _ hK S2
        | exit id => exact out _ _ _ _ _ _ hK S'
        | goto l => exact out _ _ _ _ _ _ hK S'
        | ret => exact out _ _ _ _ _ _ hK S'
    unfold loopGo at h
    obtain ⟨st1, hst, h⟩ := bind_eq.1 h
    obtain ⟨ρ1, S1⟩ := nrm hst S
    exact key f st1 ρ1 I a w h S1
  | .rangeFunc g ps x y => range_ok (evC_sound x) (evC_sound y) g ps
  | .scope b => fun R X E W F GG n m st K r h G ρ I a w Q S hQ => by
    simp only [evC] at h
    refine wpIn_scope_straight (evC_sound b _ _ _ _ _ _ _ _ _ _ _ h G _ _ _ _ _ S fun e st' ρ' I' a' w' hK S' => ?_)
    cases e with
    | normal => exact hQ .normal _ _ _ _ _ hK S'
    | exit id => exact hQ (.exit id) _ _ _ _ _ hK S'
    | goto l => cases hK
    | ret => exact hQ .ret _ _ _ _ _ hK S'
  | .refuse _ => fun R X E W F GG n m st K r h => by simp [evC] at h
end
end Go.PM
