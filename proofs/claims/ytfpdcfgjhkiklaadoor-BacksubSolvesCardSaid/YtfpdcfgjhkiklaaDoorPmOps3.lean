/- Each operation of the evaluator is the machine's: elements, loads, new blocks. -/
import Derived.Test.YtfpdcfgjhkiklaaDoorPmOps2
set_option linter.unusedSimpArgs false
set_option linter.unusedVariables false
set_option autoImplicit false
namespace Go.PM
section
variable {E : Env} {ρ : Nat → Option Tk} {I : Nat → Prop} {T : Nat → Option V} {H : Heap} {a : Act} {w : World} {o : Oper} {e : Eff} {tok : Nat}

theorem RVss_len {n : Nat} : ∀ {xs : List (List V)} {ys : List Value}, RVss I ρ w n xs ys → ys.length = xs.length * n
  | [], ys, h => by simp only [RVss] at h; subst h; simp
  | r :: rs, ys, h => by
    simp only [RVss] at h
    obtain ⟨y, z, rfl, h1, h2, _, h3⟩ := h
    simp only [List.length_append, List.length_cons, RVss_len h3, RVs_len h2, h1, Nat.add_mul, Nat.one_mul]
    omega
theorem RVss_one {n : Nat} : ∀ {xs : List (List V)} {ys : List Value}, RVss I ρ w n xs ys → ∀ y ∈ ys, y.oneCell' = true
  | [], ys, h => by simp only [RVss] at h; subst h; simp
  | r :: rs, ys, h => by
    simp only [RVss] at h
    obtain ⟨y, z, rfl, h1, h2, h4, h3⟩ := h
    intro x hx
    rcases List.mem_append.1 hx with hx | hx
    · exact h4 x hx
    · exact RVss_one h3 x hx
theorem RVss_get {n : Nat} : ∀ {xs : List (List V)} {ys : List Value}, RVss I ρ w n xs ys → ∀ (i : Nat) (r : List V), xs[i]? = some r →
    r.length = n ∧ RVs I ρ w r ((ys.drop (i * n)).take n) ∧ i * n + n ≤ ys.length
  | [], ys, _, i, r, hr => by simp at hr
  | q :: rs, ys, h, i, r, hr => by
    simp only [RVss] at h
    obtain ⟨y, z, rfl, h1, h2, h4, h3⟩ := h
    have hl := RVs_len h2
    cases i with
    | zero =>
      simp only [List.getElem?_cons_zero, Option.some.injEq] at hr
      subst hr
      refine ⟨h1, ?_, by simp; omega⟩
      have : ((y ++ z).drop (0 * n)).take n = y := by simp [← h1, ← hl]
      rw [this]; exact h2
    | succ i =>
      simp only [List.getElem?_cons_succ] at hr
      obtain ⟨g1, g2, g3⟩ := RVss_get h3 i r hr
      have e : (i + 1) * n = y.length + i * n := by rw [hl, h1, Nat.add_mul]; omega
      refine ⟨g1, ?_, by rw [e]; simp; omega⟩
      rw [e, List.drop_append, List.drop_eq_nil_of_le (by omega)]
      simpa using g2

theorem getElem_drop_take {α : Type} {ys : List α} {p n j : Nat} {y : α} (h : ((ys.drop p).take n)[j]? = some y) : ys[p + j]? = some y ∧ j < n := by
  rw [List.getElem?_take] at h
  split at h
  · rename_i hj
    rw [List.getElem?_drop] at h
    exact ⟨h, hj⟩
  · cases h

theorem ix_map {α β : Type} {f : α → β} {xs : List α} {i : Int} {x : α} (h : ix xs i = some x) : ix (xs.map f) i = some (f x) := by
  unfold ix at h ⊢
  split at h
  · rename_i h0
    rw [if_pos h0, List.getElem?_map, h]; rfl
  · cases h

theorem d_indexAddr {t : TypeId} {x y : Operand} (hop : o.op = .indexAddr t x y) (S : Sim E ρ I T H a w) (hd : dOk o.dst E.N = true) (h : eff E.P o T H tok some = some e) : Done E o T H a w e := by
  unfold eff at h
  rw [hop] at h
  simp only at h
  split at h
  case h_2 => cases h
  rename_i i hi
  obtain ⟨kk, hy⟩ := intOf_eq S hi
  split at h
  case h_2 => cases h
  rename_i et hu
  have hsz : ∀ n, szOf E.P et = n → n ≠ 0 → (sizeOf et).run E.P w = .ok n w := fun n hn h0 => by
    cases hi : E.P.info? et with
    | none => simp [szOf, hi] at hn; omega
    | some i => simp [sizeOf, typeInfo, hi]; simp [szOf, hi] at hn; exact hn
  have hrun : ∀ (b p len cap n : Nat), szOf E.P et = n → n ≠ 0 → 0 ≤ i → i < (len : Int) → (Instr.indexAt t (.slice (some ⟨b, p, none⟩) len cap) (.int kk i)).run E.P w = .ok (.pointer (some ⟨b, p + i.toNat * n, none⟩)) w := fun b p len cap n hn h0 h1 h2 => by
    simp [Instr.indexAt, run_underlying hu, asIntOf, h1, h2, hsz n hn h0, add_none]
  have lgc : ∀ (n : Nat) (xs : List (List V)) (cs : List V), RV I ρ w (.lg n xs) (a.eval x) → (Nat.beq (szOf E.P et) n && Nat.blt 0 n) = true → ix xs i = some cs → Done E o T H a w { v := .lp cs 0 } := fun n xs cs hx hz hj => by
    obtain ⟨h0, h1, h2⟩ := ix_eq hj
    simp only [RV] at hx
    obtain ⟨ad, cap, ys, hx, h3, h5, h4⟩ := hx
    rw [Bool.and_eq_true, Nat.blt_eq] at hz
    have hz' := Nat.eq_of_beq_eq_true hz.1
    have hn0 : n ≠ 0 := by have := hz.2; omega
    obtain ⟨g1, g2, g3⟩ := RVss_get h5 _ _ h2
    rcases h4 with h4 | ⟨b, p, rfl, hI, hc⟩
    · subst h4; simp at g3; omega
    refine Done.value S hd rfl rfl (x := .pointer (some ⟨b, p + i.toNat * n, none⟩)) ?_ ?_
    · simp only [RV]
      refine ⟨b, p + i.toNat * n, _, by simp, g2, fun y hy => RVss_one h5 y (List.mem_of_mem_drop (List.mem_of_mem_take hy)), hI, fun q y hq => ?_⟩
      have := hc _ _ (getElem_drop_take hq).1
      rwa [Nat.add_assoc]
    · simp [execOp, hop, hx, hy, hrun b p xs.length cap n hz' hn0 h0 h1]
  split at h
  · rename_i t0 z a0 n hv
    have hx := ev_sound S hv
    obtain ⟨hz, h⟩ := cond_eq.1 h
    obtain ⟨j, hj, h⟩ := bnd_eq.1 h
    cases h
    simp only [RV] at hx
    unfold below at hj
    split at hj
    case isFalse => cases hj
    rename_i h0
    cases hj
    obtain ⟨k, cap, ty, m, p, hx, hp, h1, h2, h3, h4, h5, h6⟩ := hx
    have hp : p = a0 * z := hp.resolve_right (by omega)
    subst hp
    rw [Bool.and_eq_true, Nat.blt_eq] at hz
    have hz' := Nat.eq_of_beq_eq_true hz.1
    have hz0 : z ≠ 0 := by have := hz.2; omega
    refine Done.value S hd rfl rfl (x := .pointer (some ⟨k.r, (a0 + i.toNat) * z + 0, none⟩)) ?_ ?_
    · simp only [RV]; exact ⟨k, rfl, h1, h2⟩
    · simp [execOp, hop, hx, hy, hrun k.r (a0 * z) n cap z hz'.symm hz0 h0.1 h0.2, Nat.add_mul]
  · rename_i k xs hv
    have hx := ev_sound S hv
    obtain ⟨hz, h⟩ := cond_eq.1 h
    obtain ⟨j, hj, h⟩ := bnd_eq.1 h
    cases h
    obtain ⟨h0, h1, h2⟩ := ix_eq hj
    simp only [RV] at hx
    obtain ⟨ad, cap, hx, h3, h4⟩ := hx
    rcases h4 with h4 | ⟨b, p, rfl, hI, hc⟩
    · rw [List.map_eq_nil_iff] at h4; subst h4; simp at h2
    have hz' := Nat.eq_of_beq_eq_true hz
    refine Done.value S hd rfl rfl (x := .pointer (some ⟨b, p + i.toNat, none⟩)) ?_ ?_
    · simp only [RV, RVs]
      refine ⟨b, p + i.toNat, [.int k j], by simp, ⟨_, _, rfl, rfl, rfl⟩, by simp [Value.oneCell'], hI, fun q y hq => ?_⟩
      cases q with
      | zero => simp at hq; subst hq; have := hc i.toNat (.int k j) (by simp [h2]); simpa using this
      | succ q => simp at hq
    · simp [execOp, hop, hx, hy, hrun b p xs.length cap 1 hz' (by decide) h0 h1]
  · rename_i xs hv
    have hx := ev_sound S hv
    obtain ⟨hz, h⟩ := cond_eq.1 h
    obtain ⟨j, hj, h⟩ := bnd_eq.1 h
    cases h
    obtain ⟨h0, h1, h2⟩ := ix_eq hj
    simp only [RV] at hx
    obtain ⟨ad, cap, hx, h3, h4⟩ := hx
    rcases h4 with h4 | ⟨b, p, rfl, hI, hc⟩
    · rw [List.map_eq_nil_iff] at h4; subst h4; simp at h2
    have hz' := Nat.eq_of_beq_eq_true hz
    refine Done.value S hd rfl rfl (x := .pointer (some ⟨b, p + i.toNat, none⟩)) ?_ ?_
    · simp only [RV, RVs]
      refine ⟨b, p + i.toNat, [.string j], by simp, ⟨_, _, rfl, rfl, rfl⟩, by simp [Value.oneCell'], hI, fun q y hq => ?_⟩
      cases q with
      | zero => simp at hq; subst hq; have := hc i.toNat (.string j) (by simp [h2]); simpa using this
      | succ q => simp at hq
    · simp [execOp, hop, hx, hy, hrun b p xs.length cap 1 hz' (by decide) h0 h1]
  · rename_i n xs hv
    have hx := ev_sound S hv
    obtain ⟨hz, h⟩ := cond_eq.1 h
    obtain ⟨cs, hj, h⟩ := bnd_eq.1 h
    cases h
    exact lgc n xs cs hx hz hj
  · rename_i sh xs hv
    have hx := RV_lt.1 (ev_sound S hv)
    obtain ⟨hz, h⟩ := cond_eq.1 h
    obtain ⟨x1, hj, h⟩ := bnd_eq.1 h
    cases h
    exact lgc _ _ _ hx hz (ix_map hj)
  · cases h

theorem cget_sound {R : Type} {P : Program} {b : Blk} {z i : Nat} {K : List V → Option R} {r : R} {ys : List Value} (hF : Flat I ρ w b.c ys) (h : cget b.c z i K = some r) :
    ∃ cs zs, K cs = some r ∧ RVs I ρ w cs zs ∧ (∀ y ∈ zs, y.oneCell' = true) ∧ ∀ j y, zs[j]? = some y → ys[i * z + j]? = some y := by
  unfold cget at h
  split at h
  · rename_i k xs hc
    obtain ⟨hz, h⟩ := cond_eq.1 h
    obtain ⟨x, hx, h⟩ := bnd_eq.1 h
    rw [hc] at hF
    simp only [Flat] at hF
    refine ⟨_, [.int k x], h, by simp [RVs, RV], by simp [Value.oneCell'], fun j y hy => ?_⟩
    cases j with
    | zero => simp at hy; subst hy; subst hF; simp [hx, Nat.eq_of_beq_eq_true hz]
    | succ j => simp at hy
  · rename_i xs hc
    obtain ⟨hz, h⟩ := cond_eq.1 h
    obtain ⟨x, hx, h⟩ := bnd_eq.1 h
    rw [hc] at hF
    simp only [Flat] at hF
    refine ⟨_, [.string x], h, by simp [RVs, RV], by simp [Value.oneCell'], fun j y hy => ?_⟩
    cases j with
    | zero => simp at hy; subst hy; subst hF; simp [hx, Nat.eq_of_beq_eq_true hz]
    | succ j => simp at hy
  · rename_i n xs hc
    obtain ⟨hz, h⟩ := cond_eq.1 h
    obtain ⟨x, hx, h⟩ := bnd_eq.1 h
    rw [hc] at hF
    simp only [Flat] at hF
    obtain ⟨g1, g2, g3⟩ := RVss_get hF _ _ hx
    rw [Nat.eq_of_beq_eq_true hz]
    exact ⟨x, _, h, RVs.stays (.up I ρ w) _ _ g2, fun y hy => RVss_one hF y (List.mem_of_mem_drop (List.mem_of_mem_take hy)), fun j y hy => (getElem_drop_take hy).1⟩
  · rename_i sh xs hc
    obtain ⟨hz, h⟩ := cond_eq.1 h
    obtain ⟨x, hx, h⟩ := bnd_eq.1 h
    rw [hc] at hF
    simp only [Flat] at hF
    have hF := Rows_iff (ρ := nil).1 hF
    obtain ⟨g1, g2, g3⟩ := RVss_get hF i (enc sh x) (by rw [List.getElem?_map, hx]; rfl)
    rw [Nat.eq_of_beq_eq_true hz]
    exact ⟨enc sh x, _, h, RVs.stays (.up I ρ w) _ _ g2, fun y hy => RVss_one hF y (List.mem_of_mem_drop (List.mem_of_mem_take hy)), fun j y hy => (getElem_drop_take hy).1⟩
  · rename_i cs hc
    obtain ⟨hz, h⟩ := cond_eq.1 h
    rw [hc] at hF
    simp only [Flat] at hF
    rw [Nat.eq_of_beq_eq_true hz]
    exact ⟨cs, ys, h, hF.1, hF.2, fun j y hy => by simpa using hy⟩
  · cases h

theorem d_load {t : TypeId} {x : Operand} (hop : o.op = .load t x) (S : Sim E ρ I T H a w) (hd : dOk o.dst E.N = true) (h : eff E.P o T H tok some = some e) : Done E o T H a w e := by
  unfold eff at h
  rw [hop] at h
  simp only at h
  split at h
  · rename_i t0 z i off hv
    have hx := ev_sound S hv
    obtain ⟨b, hb, h⟩ := bind_eq.1 h
    simp only [RV] at hx
    obtain ⟨k, hx, h1, h2⟩ := hx
    obtain ⟨k', g1, g2, ⟨cs, fz, ys, q1, q2, q3, q4, q5, q6⟩, g4⟩ := S.live t0 b hb
    rw [g1] at h1; cases h1
    obtain ⟨us, zs, h, r1, r2, r3⟩ := cget_sound (P := E.P) q2 h
    obtain ⟨v, hp, h⟩ := bind_eq.1 h
    cases h
    obtain ⟨y, hr, hrv⟩ := load_run (w := w) hp r1 r2 (b := k.r) (p := i * z) (fun j y hy => by have := q3 _ _ (r3 j y hy); simpa using this)
    refine Done.value S hd rfl rfl hrv ?_
    simp [execOp, hop, hx, Instr.loadAt, Instr.sureAddr, hr]
  · rename_i cs off hv
    have hx := ev_sound S hv
    obtain ⟨v, hp, h⟩ := bind_eq.1 h
    cases h
    simp only [RV] at hx
    obtain ⟨b, p, ys, hx, h1, h2, h3, h4⟩ := hx
    obtain ⟨y, hr, hrv⟩ := load_run (w := w) hp h1 h2 (b := b) (p := p) h4
    refine Done.value S hd rfl rfl (RV.stays (.up I ρ w) _ _ hrv) ?_
    simp [execOp, hop, hx, Instr.loadAt, Instr.sureAddr, hr]
  · cases h

theorem Sim.rhoUp (S : Sim E ρ I T H a w) (hf : PM.fresh H tok = true) (k : Tk) : ∀ t' k', ρ t' = some k' → PM.rhoUp ρ tok k t' = some k' := fun t' k' g => by
  unfold PM.rhoUp
  by_cases e0 : t' = tok
  · rw [e0, S.fresh hf] at g; cases g
  · rw [if_neg e0]; exact g

/-- An operation that lays a block. -/
theorem Done.new (S : Sim E ρ I T H a w) (hd : dOk o.dst E.N = true) (hf : fresh H tok = true) {x : Value} {ob : Obj} {k : Tk} {b : Blk} {w1 : World} (hw1 : w1.heap = w.heap) (hk : k.r = w.heap.size) (hw : b.wr = true)
    (hr : (execOp a.eval o).run E.P w = .ok (.value x) (w1.alloc ob)) (hb : BlkRel E.P I (rhoUp ρ tok k) (w1.alloc ob) k b) (hx : RV I (rhoUp ρ tok k) (w1.alloc ob) e.v x) (he : e.hw = [(tok, some b)]) (io : Io w w1 := by exact ⟨rfl, rfl⟩) : Done E o T H a w e := by
  refine ⟨_, x, _, rhoUp ρ tok k, I, hr, .inl rfl, ?_⟩
  rw [he]
  have S1 := (S.heap hw1 io).new hf (by rw [hw1]; exact hk) hw hb
  exact S1.put hx hd

theorem heap_last (w : World) (ob : Obj) : (w.alloc ob).heap[w.heap.size]? = some ob := by unfold World.alloc; simp

/-- A new block's cells. -/
theorem rel_newF {P : Program} (k : Tk) (hk : k.r = w.heap.size) (cells : Array Value) (ty : TypeId) (fz : Nat × Nat) (hfz : ∀ o, o < cells.size → ¬ (fz.1 ≤ o ∧ o < fz.2)) {b : Blk} (hty : b.ty = ty) {ys : List Value} (hF : Flat I ρ (w.alloc (.cells cells ty fz)) b.c ys)
    (hp : ∀ (j : Nat) (y : Value), ys[j]? = some y → cells[j]? = some y) (hl : lenC b.c = k.L) (hfit : Fits P b k.z) : BlkRel P I ρ (w.alloc (.cells cells ty fz)) k b := by
  have hh := heap_last w (.cells cells ty fz)
  refine ⟨cells, fz, ys, by rw [hk, hty]; exact hh, hF, fun j y hy => ?_, fun j hj => ?_, hl, hfit⟩
  · unfold World.cell?
    rw [hk]
    simp only
    rw [hh]
    simpa using hp j y hy
  · unfold World.cell? World.frozen?
    rw [hk]
    simp only
    rw [hh]
    have := hfz j hj
    simp [hj]
    omega
theorem rel_new {P : Program} (k : Tk) (hk : k.r = w.heap.size) (cells : Array Value) (ty : TypeId) {b : Blk} (hty : b.ty = ty) {ys : List Value} (hF : Flat I ρ (w.alloc (.cells cells ty)) b.c ys) (hp : ∀ (j : Nat) (y : Value), ys[j]? = some y → cells[j]? = some y)
    (hl : lenC b.c = k.L) (hfit : Fits P b k.z) : BlkRel P I ρ (w.alloc (.cells cells ty)) k b :=
  rel_newF k hk cells ty (0, 0) (fun _ _ => by simp) hty hF hp hl hfit

theorem zero_run {P : Program} {t : TypeId} {z : List Value} (h : zeroV P t = some z) : ∃ v, (∀ w : World, (zeroValue t).run P w = .ok v w) ∧ v.cells.toList = z ∧ ∃ i, P.info? t = some i ∧ i.zero = some v := by
  unfold zeroV at h
  cases hi : P.info? t with
  | none => simp [hi] at h
  | some i =>
    cases hz : i.zero with
    | none => simp [hi, hz] at h
    | some v =>
      simp [hi, hz] at h
      exact ⟨v, fun w => by simp [zeroValue, typeInfo, hi, hz], by rw [← h], i, rfl, hz⟩

theorem d_alloc {t : TypeId} (hop : o.op = .alloc t) (S : Sim E ρ I T H a w) (hd : dOk o.dst E.N = true) (h : eff E.P o T H tok some = some e) : Done E o T H a w e := by
  unfold eff at h
  rw [hop] at h
  simp only at h
  obtain ⟨hf, h⟩ := cond_eq.1 h
  obtain ⟨z, hz, h⟩ := bind_eq.1 h
  obtain ⟨h1, h⟩ := cond_eq.1 h
  cases h
  obtain ⟨v, hr, hv, _⟩ := zero_run hz
  refine Done.new S hd hf (x := .pointer (some ⟨w.heap.size, 0, none⟩)) (ob := .cells v.cells t) (k := ⟨w.heap.size, 0, szOf E.P t⟩) (b := ⟨t, .agg (z.map .s), true⟩) (w1 := w) rfl rfl rfl ?_ ?_ ?_ rfl
  · simp [execOp, hop, Instr.alloc, hr, newVar, newRow]
  · refine rel_new _ rfl _ t rfl (ys := z) ?_ (fun j y hy => by rw [← hv] at hy; simpa using hy) rfl trivial
    simp only [Flat]
    exact ⟨RVs_s _, oneCells_of (I := I) (ρ := ρ) (w := w) (RVs_s _) h1⟩
  · simp only [RV]
    exact ⟨⟨w.heap.size, 0, szOf E.P t⟩, by simp, by simp [rhoUp], rfl⟩

theorem d_box {t : TypeId} {x : Operand} (hop : o.op = .box t x) (S : Sim E ρ I T H a w) (hd : dOk o.dst E.N = true) (h : eff E.P o T H tok some = some e) : Done E o T H a w e := by
  unfold eff at h
  rw [hop] at h
  simp only at h
  obtain ⟨hf, h⟩ := cond_eq.1 h
  obtain ⟨v, hv, h⟩ := bind_eq.1 h
  obtain ⟨h1, h⟩ := cond_eq.1 h
  cases h
  have hx := ev_sound S hv
  obtain ⟨h2, h3⟩ := RV_cells hx h1
  have st := Stays.alloc S (.cells (a.eval x).cells t) (S.rhoUp hf ⟨w.heap.size, 0, szOf E.P t⟩)
  refine Done.new S hd hf (x := .pointer (some ⟨w.heap.size, 0, none⟩)) (ob := .cells (a.eval x).cells t) (k := ⟨w.heap.size, 0, szOf E.P t⟩) (b := ⟨t, .agg (cellsOf v), true⟩) (w1 := w) rfl rfl rfl ?_ ?_ ?_ rfl
  · simp [execOp, hop, Instr.box, newVar, newRow]
  · refine rel_new _ rfl _ t rfl (ys := (a.eval x).cells.toList) ?_ (fun j y hy => by simpa using hy) rfl trivial
    simp only [Flat]
    exact ⟨RVs.stays st _ _ h2, h3⟩
  · simp only [RV]
    exact ⟨⟨w.heap.size, 0, szOf E.P t⟩, by simp, by simp [rhoUp], rfl⟩
end
end Go.PM
