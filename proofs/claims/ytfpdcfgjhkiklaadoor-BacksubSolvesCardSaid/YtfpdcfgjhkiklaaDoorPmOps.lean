/- Each operation of the evaluator is the machine's. -/
import Derived.Test.YtfpdcfgjhkiklaaDoorPmSim
set_option linter.unusedSimpArgs false
set_option linter.unusedVariables false
set_option autoImplicit false
namespace Go.PM

/-- An operation has gone through. -/
def Done (E : Env) (o : Oper) (T : Nat → Option V) (H : Heap) (a : Act) (w : World) (e : Eff) : Prop :=
  ∃ nx x w' ρ' I', (execOp a.eval o).run E.P w = .ok nx w' ∧ (nx = .value x ∨ (nx = .skip ∧ x = undef)) ∧ Sim E ρ' I' (upd T o.dst e.v) (hup e.hw H) (a.put o.dst x) w'

section
variable {E : Env} {ρ : Nat → Option Tk} {I : Nat → Prop} {T : Nat → Option V} {H : Heap} {a : Act} {w : World}

theorem RVs_s (vs : List Value) : RVs I ρ w (vs.map .s) vs := by
  induction vs with
  | nil => simp [RVs]
  | cons v vs ih => simp only [List.map_cons, RVs]; exact ⟨v, vs, rfl, by simp [RV], ih⟩
theorem oneCell_of {v : V} {x : Value} (h : RV I ρ w v x) (hc : isCell v = true) : x.oneCell' = true := by
  cases v with
  | s v => simp only [RV] at h; subst h; cases x <;> first | rfl | (simp [isCell] at hc)
  | agg cs => simp [isCell] at hc
  | tup cs => simp [isCell] at hc
  | tt v => simp only [RV] at h; obtain ⟨_, a, n, rfl⟩ := h; rfl
  | li k xs => simp only [RV] at h; obtain ⟨a, c, rfl, _⟩ := h; rfl
  | ls xs => simp only [RV] at h; obtain ⟨a, c, rfl, _⟩ := h; rfl
  | lg n xs => simp only [RV] at h; obtain ⟨a, c, ys, rfl, _⟩ := h; rfl
  | lt sh xs => simp only [RV] at h; obtain ⟨a, c, ys, rfl, _⟩ := h; rfl
  | sl t z o l => simp only [RV] at h; obtain ⟨k, c, ty, n, p, rfl, _⟩ := h; rfl
  | ptr t z i o => simp only [RV] at h; obtain ⟨k, rfl, _⟩ := h; rfl
  | lp cs o => simp only [RV] at h; obtain ⟨b, p, ys, rfl, _⟩ := h; rfl
  | fn f x y => simp only [RV] at h; obtain ⟨ys, zs, rfl, _⟩ := h; rfl
  | yl t => simp only [RV] at h; obtain ⟨k, rfl, _⟩ := h; rfl
theorem oneCells_of : ∀ {vs : List V} {xs : List Value}, RVs I ρ w vs xs → vs.all isCell = true → ∀ x ∈ xs, x.oneCell' = true
  | [], xs, h, _ => by simp only [RVs] at h; subst h; simp
  | v :: vs, xs, h, hc => by
    simp only [RVs] at h
    obtain ⟨y, r, rfl, h1, h2⟩ := h
    simp only [List.all_cons, Bool.and_eq_true] at hc
    intro x hx
    rcases List.mem_cons.1 hx with rfl | hx
    · exact oneCell_of h1 hc.1
    · exact oneCells_of h2 hc.2 x hx

theorem RV_ofValue (v : Value) : RV I ρ w (ofValue v) v := by
  unfold ofValue
  split
  · rename_i cs
    cases h : (cs.toList.map V.s).all isCell
    · simp [RV]
    · simp only [cond_true, RV]
      exact ⟨cs.toList, rfl, RVs_s _, oneCells_of (RVs_s (I := I) (ρ := ρ) (w := w) _) h⟩
  · simp [RV]
  · rename_i f x y
    simp only [RV]
    exact ⟨x.toList, y.toList, rfl, RVs_s _, RVs_s _⟩
  · simp [RV]

theorem ev_sound (S : Sim E ρ I T H a w) {x : Operand} {v : V} (h : ev T x = some v) : RV I ρ w v (a.eval x) := by
  cases x with
  | tmp t => exact S.tmp t v h
  | const c => simp only [ev, Option.some.injEq] at h; subst h; exact RV_ofValue c
  | global g => simp only [ev, Option.some.injEq] at h; subst h; simp [RV, Act.eval]
  | func f =>
    simp only [ev, Option.some.injEq] at h; subst h
    simp only [RV, RVs, Act.eval]
    exact ⟨[], [], rfl, rfl, rfl⟩

theorem evL_sound (S : Sim E ρ I T H a w) : ∀ {xs : List Operand} {vs : List V}, evL T xs = some vs → RVs I ρ w vs (xs.map a.eval)
  | [], vs, h => by simp only [evL, Option.some.injEq] at h; subst h; simp [RVs]
  | x :: xs, vs, h => by
    simp only [evL, Option.bind_eq_some_iff, Option.map_eq_some_iff] at h
    obtain ⟨v, hv, us, hu, rfl⟩ := h
    simp only [List.map_cons, RVs]
    exact ⟨_, _, rfl, ev_sound S hv, evL_sound S hu⟩

/-- An operation that yields a value and does nothing else. -/
theorem Done.value (S : Sim E ρ I T H a w) {o : Oper} (hd : dOk o.dst E.N = true) {v : V} {x : Value} {e : Eff} (hv : e.v = v) (hw : e.hw = []) (hx : RV I ρ w v x) (hr : (execOp a.eval o).run E.P w = .ok (.value x) w) : Done E o T H a w e := by
  refine ⟨_, x, w, ρ, I, hr, .inl rfl, ?_⟩
  rw [hv, hw]
  exact S.put hx hd

theorem go_run {α : Type} (P : Program) : ∀ (s : Sem α) (x : α), go P s = some x → ∀ w, s.run P w = .ok x w
  | .pure b, x, h, w => by simp only [go, Option.some.injEq] at h; subst h; rfl
  | .program k, x, h, w => by simp only [go] at h; simp only [Sem.run]; exact go_run P (k P) x h w
  | .load .., _, h, _ => by simp [go] at h
  | .store .., _, h, _ => by simp [go] at h
  | .new .., _, h, _ => by simp [go] at h
  | .shape .., _, h, _ => by simp [go] at h
  | .freeze .., _, h, _ => by simp [go] at h
  | .frozen .., _, h, _ => by simp [go] at h
  | .getObj .., _, h, _ => by simp [go] at h
  | .setObj .., _, h, _ => by simp [go] at h
  | .choose .., _, h, _ => by simp [go] at h
  | .sys .., _, h, _ => by simp [go] at h
  | .mark .., _, h, _ => by simp [go] at h
  | .halt .., _, h, _ => by simp [go] at h

theorem scalar_run (S : Sim E ρ I T H a w) {o : Oper} {x : Value} (h : scalar E.P T o = some x) : (execOp a.eval o).run E.P w = .ok (.value x) w := by
  unfold scalar at h
  cases hc : noSel o.op && o.op.operands.toList.all (fun x => isS (ev T x)) with
  | false => rw [hc] at h; cases h
  | true =>
    rw [hc] at h
    simp only [cond_true] at h
    simp only [Bool.and_eq_true, List.all_eq_true] at hc
    have hcong : execOp a.eval o = execOp (sv T) o := execOp_congr o (fun cs b e => by rw [e] at hc; simp [noSel] at hc) fun y hy => by
      have hs := hc.2 y (by simpa using hy)
      unfold sv
      cases hv : ev T y with
      | none => rw [hv] at hs; cases hs
      | some v =>
        rw [hv] at hs
        cases v <;> first | (simp [isS] at hs; done) | skip
        have := ev_sound S hv
        simp only [RV] at this
        exact this
    cases hg : go E.P (execOp (sv T) o) with
    | none => rw [hg] at h; cases h
    | some n =>
      rw [hg] at h
      cases n <;> first | (cases h; done) | skip
      simp only [Option.some.injEq] at h
      subst h
      rw [hcong]
      exact go_run _ _ _ hg w

theorem done_scalar (S : Sim E ρ I T H a w) {o : Oper} (hd : dOk o.dst E.N = true) {x : Value} {e : Eff} (h : scalar E.P T o = some x) (he : e.v = .s x) (hw : e.hw = []) : Done E o T H a w e :=
  Done.value S hd he hw (by simp [RV]) (scalar_run S h)

/-! Parts of values. -/
theorem RVs_len : ∀ {vs : List V} {xs : List Value}, RVs I ρ w vs xs → xs.length = vs.length
  | [], xs, h => by simp only [RVs] at h; subst h; rfl
  | v :: vs, xs, h => by
    simp only [RVs] at h
    obtain ⟨y, r, rfl, _, h2⟩ := h
    simp [RVs_len h2]
theorem RVs_get : ∀ {vs : List V} {xs : List Value}, RVs I ρ w vs xs → ∀ (i : Nat) (v : V), vs[i]? = some v → ∃ x, xs[i]? = some x ∧ RV I ρ w v x
  | [], xs, _, i, v, hv => by simp at hv
  | u :: vs, xs, h, i, v, hv => by
    simp only [RVs] at h
    obtain ⟨y, r, rfl, h1, h2⟩ := h
    cases i with
    | zero => simp only [List.getElem?_cons_zero, Option.some.injEq] at hv; subst hv; exact ⟨y, rfl, h1⟩
    | succ i => simp only [List.getElem?_cons_succ] at hv ⊢; exact RVs_get h2 i v hv
theorem RVs_drop : ∀ {vs : List V} {xs : List Value} (n : Nat), RVs I ρ w vs xs → RVs I ρ w (vs.drop n) (xs.drop n)
  | vs, xs, 0, h => by simpa using h
  | [], xs, n + 1, h => by simp only [RVs] at h; subst h; simp [RVs]
  | v :: vs, xs, n + 1, h => by
    simp only [RVs] at h
    obtain ⟨y, r, rfl, _, h2⟩ := h
    simpa using RVs_drop n h2
theorem RVs_take : ∀ {vs : List V} {xs : List Value} (n : Nat), RVs I ρ w vs xs → RVs I ρ w (vs.take n) (xs.take n)
  | vs, xs, 0, h => by simp [RVs]
  | [], xs, n + 1, h => by simp only [RVs] at h; subst h; simp [RVs]
  | v :: vs, xs, n + 1, h => by
    simp only [RVs] at h
    obtain ⟨y, r, rfl, h1, h2⟩ := h
    simp only [List.take_succ_cons, RVs]
    exact ⟨y, _, rfl, h1, RVs_take n h2⟩
theorem RVs_append : ∀ {vs us : List V} {xs ys : List Value}, RVs I ρ w vs xs → RVs I ρ w us ys → RVs I ρ w (vs ++ us) (xs ++ ys)
  | [], us, xs, ys, h, g => by simp only [RVs] at h; subst h; simpa using g
  | v :: vs, us, xs, ys, h, g => by
    simp only [RVs] at h
    obtain ⟨y, r, rfl, h1, h2⟩ := h
    simp only [List.cons_append, RVs]
    exact ⟨y, _, rfl, h1, RVs_append h2 g⟩
theorem RVs_splice {cs us : List V} {xs ys : List Value} (o : Nat) (h : RVs I ρ w cs xs) (g : RVs I ρ w us ys) : RVs I ρ w (splice cs o us) (xs.take o ++ ys ++ xs.drop (o + us.length)) :=
  RVs_append (RVs_append (RVs_take o h) g) (RVs_drop _ h)

/-- A value's cells. -/
theorem RV_cells {v : V} {x : Value} (h : RV I ρ w v x) (hc : (cellsOf v).all isCell = true) : RVs I ρ w (cellsOf v) x.cells.toList ∧ (∀ y ∈ x.cells.toList, y.oneCell' = true) := by
  have key : RVs I ρ w (cellsOf v) x.cells.toList := by
    cases v with
    | agg cs =>
      simp only [RV] at h
      obtain ⟨ys, rfl, h1, _⟩ := h
      exact h1
    | _ =>
      have h1 : x.oneCell' = true := oneCell_of h (by simpa [cellsOf] using hc)
      have h2 : x.cells.toList = [x] := by cases x <;> first | rfl | (simp [Value.oneCell'] at h1)
      rw [h2]
      simp only [cellsOf, RVs]
      exact ⟨x, [], rfl, h, rfl⟩
  exact ⟨key, oneCells_of key hc⟩

theorem rowT_eq (d : TypeDesc) : rowT d = d.isRow := by cases d <;> rfl
theorem szOf_of {P : Program} {t : TypeId} {i : TypeInfo} (h : P.info? t = some i) : szOf P t = i.size := by simp [szOf, h]
theorem info_of_underlying {P : Program} {t : TypeId} {d : TypeDesc} (h : P.underlying t = some d) : ∃ i, P.info? t = some i := by
  unfold Program.underlying at h
  cases hi : P.info? t with
  | none => rw [hi] at h; cases h
  | some i => exact ⟨i, rfl⟩

theorem load_run {P : Program} {t : TypeId} {cs : List V} {off : Nat} {v : V} (h : part P t cs off = some v) {ys : List Value} (hy : RVs I ρ w cs ys) (h1 : ∀ y ∈ ys, y.oneCell' = true) {b p : Nat} (hr : w.rangeAt b p ys) :
    ∃ x, (loadVar t ⟨b, p + off, none⟩).run P w = .ok x w ∧ RV I ρ w v x := by
  unfold part at h
  cases hu : P.underlying t with
  | none => rw [hu] at h; cases h
  | some d =>
    rw [hu] at h
    obtain ⟨i, hi⟩ := info_of_underlying hu
    simp only at h
    cases hd : rowT d with
    | true =>
      rw [hd] at h
      simp only [cond_true] at h
      cases hb : Nat.ble (off + szOf P t) cs.length with
      | false => rw [hb] at h; cases h
      | true =>
        rw [hb] at h
        simp only [cond_true, Option.some.injEq] at h
        subst h
        have hl := RVs_len hy
        have hle := Nat.le_of_ble_eq_true hb
        refine ⟨_, run_loadVar_mid w b (p + off) t ((ys.drop off).take (szOf P t)) d (fun j y hj => ?_) hu (by rw [← rowT_eq]; exact hd) (by simp [hi, szOf_of hi] at hle ⊢; omega), ?_⟩
        · rw [List.getElem?_take] at hj
          split at hj
          · rw [List.getElem?_drop] at hj
            have := hr _ _ hj
            rwa [show p + off + j = p + (off + j) by omega]
          · cases hj
        · simp only [RV]
          exact ⟨_, rfl, RVs_take _ (RVs_drop _ hy), fun y hm => h1 y (List.mem_of_mem_drop (List.mem_of_mem_take hm))⟩
    | false =>
      rw [hd] at h
      simp only [cond_false] at h
      obtain ⟨x, hx, hrv⟩ := RVs_get hy off v h
      refine ⟨x, ?_, hrv⟩
      have hc := hr _ _ hx
      have hagg : (isAgg t).run P w = .ok false w := by
        unfold isAgg
        rw [Sem.run_bind, run_underlying hu w]
        cases d <;> simp_all [rowT]
      simp [loadVar, Sem.run_bind, hagg, run_load, hc]

theorem part_run {P : Program} {t : TypeId} {cs : List V} {off : Nat} {v : V} (h : PM.part P t cs off = some v) {ys : List Value} (hy : RVs I ρ w cs ys) (h1 : ∀ y ∈ ys, y.oneCell' = true) :
    ∃ x, (Go.part t ⟨ys⟩ off).run P w = .ok x w ∧ RV I ρ w v x := by
  unfold PM.part at h
  cases hu : P.underlying t with
  | none => rw [hu] at h; cases h
  | some d =>
    rw [hu] at h
    obtain ⟨i, hi⟩ := info_of_underlying hu
    simp only at h
    have hagg : (isAgg t).run P w = .ok (rowT d) w := by
      unfold isAgg
      rw [Sem.run_bind, run_underlying hu w]
      cases d <;> simp [rowT]
    cases hd : rowT d with
    | true =>
      rw [hd] at h hagg
      simp only [cond_true] at h
      cases hb : Nat.ble (off + szOf P t) cs.length with
      | false => rw [hb] at h; cases h
      | true =>
        rw [hb] at h
        simp only [cond_true, Option.some.injEq] at h
        subst h
        refine ⟨.agg ⟨(ys.drop off).take (szOf P t)⟩, ?_, ?_⟩
        · simp [Go.part, Sem.run_bind, hagg, sizeOf, typeInfo, hi, szOf_of hi]
        · simp only [RV]
          exact ⟨_, rfl, RVs_take _ (RVs_drop _ hy), fun y hm => h1 y (List.mem_of_mem_drop (List.mem_of_mem_take hm))⟩
    | false =>
      rw [hd] at h hagg
      simp only [cond_false] at h
      obtain ⟨x, hx, hrv⟩ := RVs_get hy off v h
      refine ⟨x, ?_, hrv⟩
      simp [Go.part, Sem.run_bind, hagg, hx]
end
end Go.PM
