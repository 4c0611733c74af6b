/- The builtins copy and clear. -/
import Derived.Test.YtfpdcfgjhkiklaaDoorPmOps7
set_option linter.unusedSimpArgs false
set_option linter.unusedVariables false
set_option autoImplicit false
namespace Go.PM
section
variable {E : Env} {ρ : Nat → Option Tk} {I : Nat → Prop} {T : Nat → Option V} {H : Heap} {a : Act} {w : World} {o : Oper} {e : Eff} {tok : Nat}

def cellsC : V → List Value
  | .li k xs => xs.map (.int k)
  | .ls xs => xs.map .string
  | _ => []

theorem cellsC_one {c : V} : ∀ x ∈ cellsC c, x.oneCell' = true := by
  intro x hx
  cases c <;> simp only [cellsC, List.mem_map, List.not_mem_nil] at hx
  · obtain ⟨y, _, rfl⟩ := hx; rfl
  · obtain ⟨y, _, rfl⟩ := hx; rfl

theorem cput_eq {c0 s c : V} {a : Nat} (h : cput c0 a s = some c) : (∃ k xs ys, c0 = .li k xs ∧ s = .li k ys ∧ c = .li k (xs.take a ++ ys ++ xs.drop (a + ys.length))) ∨ (∃ xs ys, c0 = .ls xs ∧ s = .ls ys ∧ c = .ls (xs.take a ++ ys ++ xs.drop (a + ys.length))) := by
  unfold cput at h
  split at h
  · rename_i k xs k' ys
    obtain ⟨hk, h⟩ := cond_eq.1 h
    cases h
    have hk := of_decide_eq_true hk
    subst hk
    exact .inl ⟨_, xs, ys, rfl, rfl, rfl⟩
  · rename_i xs ys
    cases h
    exact .inr ⟨xs, ys, rfl, rfl, rfl⟩
  · cases h

theorem put_ok (S : Sim E ρ I T H a w) {t0 : Nat} {b : Blk} {k : Tk} {s c : V} {off : Nat} (hb : at_ H t0 = some b) (g1 : ρ t0 = some k) (hw : b.wr = true) (hc : cput b.c off s = some c) (hlen : off + (cellsC s).length ≤ k.L) :
    (∀ P : Program, (storeCells ⟨k.r, off, none⟩ (cellsC s)).run P w = .ok () (w.setCells k.r off (cellsC s))) ∧ Sim E ρ I T (hup [(t0, some { b with c := c })] H) a (w.setCells k.r off (cellsC s)) := by
  obtain ⟨k', e1, g2, g3, g4⟩ := S.live t0 b hb
  rw [g1] at e1; cases e1
  obtain ⟨cs, fz, ys, q1, q2, q3, q4, q5, q6⟩ := g3
  have hys := len_cells (P := E.P) q1 q3
  have key : ys.length = k.L ∧ ∀ w', Flat I ρ w' c (spl ys off (cellsC s)) ∧ lenC c = k.L ∧ Fits E.P { b with c := c } k.z := by
    rcases cput_eq hc with ⟨kk, xs, us, e1, e2, e3⟩ | ⟨xs, us, e1, e2, e3⟩
    · subst e2; subst e3
      rw [e1] at q2 q5
      unfold Fits at q6
      rw [e1] at q6
      simp only [Flat] at q2
      subst q2
      simp only [lenC] at q5
      simp only [cellsC, List.length_map] at hlen
      refine ⟨by simpa using q5, fun w' => ⟨?_, ?_, q6⟩⟩
      · simp [Flat, spl, cellsC, List.map_append, List.map_take, List.map_drop]
      · simp only [lenC, List.length_append, List.length_take, List.length_drop]; omega
    · subst e2; subst e3
      rw [e1] at q2 q5
      unfold Fits at q6
      rw [e1] at q6
      simp only [Flat] at q2
      subst q2
      simp only [lenC] at q5
      simp only [cellsC, List.length_map] at hlen
      refine ⟨by simpa using q5, fun w' => ⟨?_, ?_, q6⟩⟩
      · simp [Flat, spl, cellsC, List.map_append, List.map_take, List.map_drop]
      · simp only [lenC, List.length_append, List.length_take, List.length_drop]; omega
  obtain ⟨hyl, key⟩ := key
  have hth : w.there k.r off (cellsC s).length := there_sub q4 (by omega)
  have onl := Only.setCells q1 off (cellsC s)
  refine ⟨fun P => ?_, ?_⟩
  · have := run_storeCells_cells (P := P) k.r off (cellsC s) 0 w (fun j hj => by simpa using (hth j hj).1) (fun j hj => by simpa using (hth j hj).2) cellsC_one
    simpa using this
  · refine S.write hb g1 hw (b' := { b with c := c }) hw onl ?_
    obtain ⟨cs', m1, m2, _⟩ := setCells_heap k.r b.ty fz (cellsC s) off w cs q1
    obtain ⟨k1, k2, k3⟩ := key (w.setCells k.r off (cellsC s))
    exact ⟨cs', fz, _, m1, k1, rangeAt_spl q3 hth (by omega), by rw [m2]; exact World.there_setCells q4 _ _ _, k2, k3⟩

/-- The first cells of a copy's source. -/
theorem src_cells {P : Program} {u s s' : V} {x : Value} {n : Nat} (hx : RV I nil w u x) (hs : srcC u = some s) (ht : ctake s n = some s') : ∃ m, (Builtin.lenOf x).run P w = .ok m w ∧ (Builtin.firstCells 1 (Nat.min m n) x).run P w = .ok (cellsC s').toArray w ∧ lenC s' = Nat.min m n ∧ (cellsC s').length = Nat.min m n := by
  have fr : ∀ (ys : List Value) (a0 : Option Addr) (m cap : Nat), ys.length = m → Frozen I w a0 ys → (Builtin.firstCells 1 (Nat.min m n) (.slice a0 m cap)).run P w = .ok (ys.take n).toArray w := fun ys a0 m cap hl hf => by
    have e : ys.take n = ys.take (Nat.min m n) := by
      rw [← hl]
      show ys.take n = ys.take (min ys.length n)
      rw [Nat.min_comm, List.take_eq_take_min]
    have hl2 : (ys.take n).length = Nat.min m n * 1 := by
      rw [List.length_take, hl, Nat.mul_one]; exact Nat.min_comm _ _
    rcases hf with h | ⟨b, q, rfl, _, hc⟩
    · subst h
      simp only [List.length_nil] at hl
      subst hl
      have hm : Nat.min 0 n = 0 := Nat.zero_min n
      rw [hm]
      cases a0 with
      | none => simpa using run_firstCells_none w 1 0 0 cap
      | some ad => simpa using run_firstCells_some w 1 0 ad 0 cap [] (by simp) (fun j u hu => by simp at hu)
    · exact run_firstCells_some w 1 (Nat.min m n) ⟨b, q, none⟩ m cap (ys.take n) hl2 (fun j u hu => by
        rw [add_none]
        refine hc j u ?_
        rw [List.getElem?_take] at hu
        split at hu
        · exact hu
        · cases hu)
  unfold srcC at hs
  split at hs
  · rename_i b
    cases hs
    simp only [ctake, Option.some.injEq] at ht
    subst ht
    simp only [RV] at hx
    subst hx
    refine ⟨b.size, by simp [Builtin.lenOf], ?_, ?_, ?_⟩
    · simp only [Builtin.firstCells, cellsC, Sem.run_pure]
      congr 1
      apply Array.ext'
      simp only [Array.toList_map, ByteArray.data_extract, Array.toList_extract, bytesL, List.map_take, List.map_map]
      simp only [Nat.sub_zero, List.drop_zero]
      have e : ∀ l : List Value, l.length = b.size → l.take (b.size.min n) = l.take n := fun l hl => by
        rw [← hl]
        show l.take (min l.length n) = l.take n
        rw [Nat.min_comm, ← List.take_eq_take_min]
      exact e _ (by rw [List.length_map, Array.length_toList]; rfl)
    · simp [lenC, bytesL]
      exact Nat.min_comm _ _
    · simp [cellsC, bytesL]
      exact Nat.min_comm _ _
  · rename_i k xs
    cases hs
    simp only [ctake, Option.some.injEq] at ht
    subst ht
    simp only [RV] at hx
    obtain ⟨a0, cap, rfl, hle, hf⟩ := hx
    refine ⟨xs.length, by simp [Builtin.lenOf], ?_, ?_, ?_⟩
    · simp only [cellsC, List.map_take]
      exact fr _ a0 xs.length cap (by simp) hf
    · simp only [lenC, List.length_take]; exact Nat.min_comm _ _
    · simp only [cellsC, List.length_map, List.length_take]; exact Nat.min_comm _ _
  · rename_i xs
    cases hs
    simp only [ctake, Option.some.injEq] at ht
    subst ht
    simp only [RV] at hx
    obtain ⟨a0, cap, rfl, hle, hf⟩ := hx
    refine ⟨xs.length, by simp [Builtin.lenOf], ?_, ?_, ?_⟩
    · simp only [cellsC, List.map_take]
      exact fr _ a0 xs.length cap (by simp) hf
    · simp only [lenC, List.length_take]; exact Nat.min_comm _ _
    · simp only [cellsC, List.length_map, List.length_take]; exact Nat.min_comm _ _
  · cases hs

theorem d_min {args : Array Operand} {argTypes : Array TypeId} (hop : o.op = .call { callee := .builtin .min, args := args, argTypes := argTypes }) (S : Sim E ρ I T H a w) (hd : dOk o.dst E.N = true) (h : eff E.P o T H tok some = some e) : Done E o T H a w e := by
  have other : (scalar E.P T o).bind (fun v => some ({ v := .s v } : Eff)) = some e → Done E o T H a w e := fun h => by
    obtain ⟨v, hv, h⟩ := bind_eq.1 h
    cases h
    exact done_scalar S hd hv rfl rfl
  unfold eff at h
  rw [hop] at h
  simp only at h
  split at h
  · rename_i x y hargs
    have ha : args = #[x, y] := by apply Array.ext'; simpa using hargs
    subst ha
    split at h
    · rename_i k p k' q hx hy
      cases h
      have hx' := ev_sound S hx
      have hy' := ev_sound S hy
      simp only [RV] at hx' hy'
      refine Done.value S hd rfl rfl (x := .int k (min p q)) (by simp [RV]) ?_
      have e1 : (if q < p then q else p) = min p q := by split <;> omega
      have hrun : (Builtin.min_ argTypes o.type #[a.eval x, a.eval y]).run E.P w = .ok (.int k (min p q)) w := by
        rw [hx', hy']
        simp [Builtin.min_, Builtin.min2, e1]
      simp [execOp, hop, resolve, invoke, builtin, hrun]
    · exact other h
  · exact other h

theorem d_max {args : Array Operand} {argTypes : Array TypeId} (hop : o.op = .call { callee := .builtin .max, args := args, argTypes := argTypes }) (S : Sim E ρ I T H a w) (hd : dOk o.dst E.N = true) (h : eff E.P o T H tok some = some e) : Done E o T H a w e := by
  have other : (scalar E.P T o).bind (fun v => some ({ v := .s v } : Eff)) = some e → Done E o T H a w e := fun h => by
    obtain ⟨v, hv, h⟩ := bind_eq.1 h
    cases h
    exact done_scalar S hd hv rfl rfl
  unfold eff at h
  rw [hop] at h
  simp only at h
  split at h
  · rename_i x y hargs
    have ha : args = #[x, y] := by apply Array.ext'; simpa using hargs
    subst ha
    split at h
    · rename_i k p k' q hx hy
      cases h
      have hx' := ev_sound S hx
      have hy' := ev_sound S hy
      simp only [RV] at hx' hy'
      refine Done.value S hd rfl rfl (x := .int k (max p q)) (by simp [RV]) ?_
      have e1 : (if q > p then q else p) = max p q := by split <;> omega
      have hrun : (Builtin.max_ argTypes o.type #[a.eval x, a.eval y]).run E.P w = .ok (.int k (max p q)) w := by
        rw [hx', hy']
        simp [Builtin.max_, Builtin.max2, e1]
      simp [execOp, hop, resolve, invoke, builtin, hrun]
    · exact other h
  · exact other h

theorem setCells_nil (w : World) (r p : Nat) : w.setCells r p [] = w := rfl

theorem d_copy {args : Array Operand} {argTypes : Array TypeId} (hop : o.op = .call { callee := .builtin .copy, args := args, argTypes := argTypes }) (S : Sim E ρ I T H a w) (hd : dOk o.dst E.N = true) (h : eff E.P o T H tok some = some e) : Done E o T H a w e := by
  unfold eff at h
  rw [hop] at h
  simp only at h
  split at h
  case h_2 => cases h
  rename_i x y t ts hargs htys
  have ha : args = #[x, y] := by apply Array.ext'; simpa using hargs
  have ht0 : argTypes[0]? = some t := by rw [← Array.getElem?_toList, htys]; rfl
  subst ha
  split at h
  case h_2 => cases h
  rename_i et hu
  split at h
  case h_2 => cases h
  rename_i t0 z off n hv
  obtain ⟨v, hvv, h⟩ := bind_eq.1 h
  obtain ⟨u, huv, h⟩ := bind_eq.1 h
  obtain ⟨b, hb, h⟩ := bind_eq.1 h
  obtain ⟨s0, hs0, h⟩ := bind_eq.1 h
  obtain ⟨s, hs, h⟩ := bind_eq.1 h
  obtain ⟨hc, h⟩ := cond_eq.1 h
  obtain ⟨c, hcp, h⟩ := bind_eq.1 h
  cases h
  simp only [Bool.and_eq_true] at hc
  obtain ⟨⟨hw, hz⟩, hsz⟩ := hc
  have hz := Nat.eq_of_beq_eq_true hz
  have hsz := Nat.eq_of_beq_eq_true hsz
  subst hz
  have hx := ev_sound S hv
  have hy := ev_sound S hvv
  simp only [RV] at hx
  obtain ⟨k, cap, ty, m0, p, hx, hp, hk, hkz, hle, hl, _⟩ := hx
  have S1 := S.freeze (toks v)
  have st1 : Stays I (frzI I ρ H (toks v)) ρ ρ w w := stf _ _
  have hu1 := view_sound S st1 v u _ huv (fun t ht b' k hb' hk => .inr ⟨t, ht, b', k, hb', hk, rfl⟩) hy
  obtain ⟨m, r1, r2, r3, r4⟩ := src_cells (P := E.P) hu1 hs0 hs
  obtain ⟨i, hi, his⟩ := info_of_sz (P := E.P) (t := et) (by omega)
  have hmn : Nat.min m n ≤ n := Nat.min_le_right _ _
  obtain ⟨p1, p2⟩ := put_ok S (s := s) (off := off) hb hk hw hcp (by omega)
  have hp2 : cellsC s = [] ∨ p = off := by
    rcases hp with h | h
    · right; omega
    · left
      apply List.eq_nil_of_length_eq_zero
      omega
  refine ⟨.value (.int .i64 (lenC s)), .int .i64 (lenC s), w.setCells k.r off (cellsC s), ρ, I, ?_, .inl rfl, Sim.put p2 (by simp [RV]) hd⟩
  have hrun : (Builtin.copy_ argTypes o.type #[a.eval x, a.eval y]).run E.P w = .ok (.int .i64 (lenC s)) (w.setCells k.r off (cellsC s)) := by
    rw [hx]
    have hst : (storeCells ⟨k.r, p, none⟩ (cellsC s)).run E.P w = .ok () (w.setCells k.r off (cellsC s)) := by
      rcases hp2 with h | h
      · rw [h]; rfl
      · rw [h]; exact p1 E.P
    simp [Builtin.copy_, ht0, run_underlying hu, r1, sizeOf, typeInfo, hi, his, hsz, r2, hst, goInt, r3]
  simp [execOp, hop, resolve, invoke, builtin, hrun]

theorem d_clear {args : Array Operand} {argTypes : Array TypeId} (hop : o.op = .call { callee := .builtin .clear, args := args, argTypes := argTypes }) (S : Sim E ρ I T H a w) (hd : dOk o.dst E.N = true) (h : eff E.P o T H tok some = some e) : Done E o T H a w e := by
  unfold eff at h
  rw [hop] at h
  simp only at h
  split at h
  case h_2 => cases h
  rename_i x t hargs htys
  have ha : args = #[x] := by apply Array.ext'; simpa using hargs
  have ht0 : argTypes[0]? = some t := by rw [← Array.getElem?_toList, htys]; rfl
  subst ha
  split at h
  case h_2 => cases h
  rename_i et hu
  split at h
  case h_2 => cases h
  rename_i t0 z off n hv
  obtain ⟨b, hb, h⟩ := bind_eq.1 h
  obtain ⟨s, hs, h⟩ := bind_eq.1 h
  obtain ⟨hc, h⟩ := cond_eq.1 h
  obtain ⟨c, hcp, h⟩ := bind_eq.1 h
  cases h
  simp only [Bool.and_eq_true] at hc
  obtain ⟨⟨hw, hz⟩, hsz⟩ := hc
  have hz := Nat.eq_of_beq_eq_true hz
  have hsz := Nat.eq_of_beq_eq_true hsz
  subst hz
  have hx := ev_sound S hv
  simp only [RV] at hx
  obtain ⟨k, cap, ty, m0, p, hx, hp, hk, hkz, hle, hl, _⟩ := hx
  obtain ⟨i, zv, m1, m2, m3, m4, m5, m6, m7, m8, ys, m9, m10⟩ := made_cells hs
  have hys : ys = cellsC s := by
    have := m9 I ρ w
    rcases cput_eq hcp with ⟨kk, xs, us, e1, e2, e3⟩ | ⟨xs, us, e1, e2, e3⟩ <;> (subst e2; simpa [Flat, cellsC] using this)
  have hlen : (cellsC s).length = n := by
    rw [← m5]
    rcases cput_eq hcp with ⟨kk, xs, us, e1, e2, e3⟩ | ⟨xs, us, e1, e2, e3⟩ <;> (subst e2; simp [lenC, cellsC])
  have hzc : (Builtin.zeroCells zv.cells n).toList = cellsC s := by
    have hsz2 : (Builtin.zeroCells zv.cells n) = madeCells zv.cells (n * i.size) := by unfold Builtin.zeroCells madeCells; rw [m8, m3]
    rw [hsz2, ← hys]
    apply List.ext_getElem?
    intro j
    rcases Nat.lt_or_ge j ys.length with hj | hj
    · rw [List.getElem?_eq_getElem hj, Array.getElem?_toList]
      exact m10 j _ (List.getElem?_eq_getElem hj)
    · rw [List.getElem?_eq_none hj, List.getElem?_eq_none]
      rw [Array.length_toList, size_madeCells, m3, hsz]
      rw [hys, hlen] at hj
      omega
  obtain ⟨p1, p2⟩ := put_ok S (s := s) (off := off) hb hk hw hcp (by omega)
  have hp2 : cellsC s = [] ∨ p = off := by
    rcases hp with h | h
    · right; omega
    · left
      apply List.eq_nil_of_length_eq_zero
      omega
  refine ⟨.value (.tuple #[]), .tuple #[], w.setCells k.r off (cellsC s), ρ, I, ?_, .inl rfl, Sim.put p2 (by simp [RV]) hd⟩
  have hrun : (Builtin.clear_ argTypes o.type #[a.eval x]).run E.P w = .ok (.tuple #[]) (w.setCells k.r off (cellsC s)) := by
    rw [hx]
    cases n with
    | zero =>
      have : cellsC s = [] := List.eq_nil_of_length_eq_zero hlen
      rw [this]
      simp [Builtin.clear_, ht0, run_underlying hu, setCells_nil]
    | succ n =>
      have hst : (storeCells ⟨k.r, p, none⟩ (cellsC s)).run E.P w = .ok () (w.setCells k.r off (cellsC s)) := by
        rcases hp2 with h | h
        · rw [h]; rfl
        · rw [h]; exact p1 E.P
      simp [Builtin.clear_, ht0, run_underlying hu, zeroValue, typeInfo, m1, m2, hzc, hst]
  simp [execOp, hop, resolve, invoke, builtin, hrun]
end
end Go.PM
