/- Each operation of the evaluator is the machine's: stores, slices made and cut, conversions. -/
import Derived.Test.YtfpdcfgjhkiklaaDoorPmOps4
set_option linter.unusedSimpArgs false
set_option linter.unusedVariables false
set_option autoImplicit false
namespace Go.PM
section
variable {E : Env} {ρ : Nat → Option Tk} {I : Nat → Prop} {T : Nat → Option V} {H : Heap} {a : Act} {w : World} {o : Oper} {e : Eff} {tok : Nat}

theorem info_of_sz {P : Program} {t : TypeId} (h : 0 < szOf P t) : ∃ i, P.info? t = some i ∧ i.size = szOf P t := by
  cases hi : P.info? t with
  | none => simp [szOf, hi] at h
  | some i => exact ⟨i, rfl, (szOf_of hi).symm⟩

theorem store_run {P : Program} {t : TypeId} {x : Value} {r p : Nat} (hs : x.cells.size = szOf P t) (h0 : 0 < szOf P t) (ht : w.there r p x.cells.size) (h1 : ∀ y ∈ x.cells.toList, y.oneCell' = true) :
    (storeVar t ⟨r, p, none⟩ x).run P w = .ok () (w.setCells r p x.cells.toList) := by
  obtain ⟨i, hi, his⟩ := info_of_sz h0
  have := run_storeCells_cells (P := P) r p x.cells.toList 0 w (fun j hj => by simpa using (ht j (by simpa using hj)).1) (fun j hj => by simpa using (ht j (by simpa using hj)).2) h1
  simp only [Nat.add_zero] at this
  have hs' : x.cells.size = i.size := by rw [hs, his]
  simp [storeVar, sizeOf, typeInfo, hi, hs', this]

theorem hup_append (h1 h2 : List (Nat × Option Blk)) (H : Heap) : hup (h1 ++ h2) H = hup h1 (hup h2 H) := by
  funext t
  unfold hup
  rw [lk_append]
  cases lk h1 t <;> rfl
theorem hup_cons (x : Nat × Option Blk) (h2 : List (Nat × Option Blk)) (H : Heap) : hup (x :: h2) H = hup [x] (hup h2 H) := hup_append [x] h2 H

theorem any_beq {k : Nat} {l : List Nat} (h : (!(l.any (Nat.beq k))) = true) : k ∉ l := by
  intro hm
  simp only [Bool.not_eq_true', List.any_eq_false] at h
  exact h k hm (Nat.beq_refl k)

theorem there_sub {r n m p : Nat} (h : w.there r 0 n) (hle : p + m ≤ n) : w.there r p m := fun j hj => by
  have := h (p + j) (by omega)
  simpa using this

theorem len_cells {P : Program} {k : Tk} {b : Blk} {cs : Array Value} {fz : Nat × Nat} {ys : List Value} (h1 : w.heap[k.r]? = some (.cells cs b.ty fz)) (h : w.rangeAt k.r 0 ys) : ys.length ≤ cs.size := by
  rcases Nat.eq_zero_or_pos ys.length with h0 | h0
  · omega
  · have hl : ys.length - 1 < ys.length := by omega
    have := h (ys.length - 1) _ (List.getElem?_eq_getElem hl)
    unfold World.cell? at this
    simp only at this
    rw [h1] at this
    simp only [Option.isSome_none, Bool.false_eq_true, if_false, Nat.zero_add] at this
    have := (Array.getElem?_eq_some_iff.1 this).1
    omega

theorem d_store {t : TypeId} {x y : Operand} (hop : o.op = .store t x y) (S : Sim E ρ I T H a w) (hd : dOk o.dst E.N = true) (h : eff E.P o T H tok some = some e) : Done E o T H a w e := by
  unfold eff at h
  rw [hop] at h
  simp only at h
  split at h
  case h_2 => cases h
  rename_i t0 z i off hv
  have hx := ev_sound S hv
  obtain ⟨v, hvv, h⟩ := bind_eq.1 h
  obtain ⟨hc, h⟩ := cond_eq.1 h
  simp only [Bool.and_eq_true] at hc
  obtain ⟨⟨hc1, hc2⟩, hc3⟩ := hc
  have hc1 := Nat.eq_of_beq_eq_true hc1
  rw [Nat.blt_eq] at hc2
  obtain ⟨b, hb, h⟩ := bind_eq.1 h
  obtain ⟨hw, h⟩ := cond_eq.1 h
  have hy := ev_sound S hvv
  obtain ⟨hy1, hy2⟩ := RV_cells hy hc3
  have hlen := RVs_len hy1
  have hsz : (a.eval y).cells.size = szOf E.P t := by simpa [hc1] using hlen
  simp only [RV] at hx
  obtain ⟨k, hx, h1, h2⟩ := hx
  obtain ⟨k', g1, g2, g3, g4⟩ := S.live t0 b hb
  rw [g1] at h1; cases h1
  have fin : ∀ {r p : Nat}, r = k.r → p = i * z + off → w.there r p (a.eval y).cells.size →
      (execOp a.eval o).run E.P w = .ok .skip (w.setCells r p (a.eval y).cells.toList) := fun hr hp ht => by
    subst hr; subst hp
    simp [execOp, hop, hx, Instr.storeAt, Instr.sureAddr, store_run hsz hc2 ht hy2]
  split at h
  · rename_i cs hcs
    rw [← hcs] at h
    obtain ⟨xs, fz, ys, q1, q2, q3, q4, q5, q6⟩ := g3
    rw [h2] at q6
    obtain ⟨c, h, r1, r2, r3, r4, r5⟩ := cset_sound q2 hy1 (.inl ⟨cs, hcs⟩) q6 h
    cases h
    have hys := len_cells (P := E.P) q1 q3
    have hth : w.there k.r (i * z + off) (a.eval y).cells.toList.length := there_sub q4 (by omega)
    have hth' : w.there k.r (i * z + off) (a.eval y).cells.size := by simpa using hth
    have onl := Only.setCells q1 (i * z + off) (a.eval y).cells.toList
    refine ⟨_, _, _, ρ, I, fin rfl rfl hth', .inr ⟨rfl, rfl⟩, ?_⟩
    refine Sim.put (S.write hb g1 hw (b' := { b with c := c }) hw onl ?_) (by simp [RV]) hd
    obtain ⟨cs', m1, m2, _⟩ := setCells_heap k.r b.ty fz (a.eval y).cells.toList (i * z + off) w xs q1
    have st : Stays I I ρ ρ w (w.setCells k.r (i * z + off) (a.eval y).cells.toList) := onl.stays (g4.1 hw)
    exact ⟨cs', fz, _, m1, r1.stays st, rangeAt_spl q3 hth r4, by rw [m2]; exact World.there_setCells q4 _ _ _, by simpa [r2] using q5, by rw [h2]; exact r3⟩
  · obtain ⟨u, hu, h⟩ := bind_eq.1 h
    obtain ⟨hc4, h⟩ := cond_eq.1 h
    simp only [Bool.and_eq_true] at hc4
    have hnot := any_beq hc4.2
    have S1 := S.freeze (toks v)
    have st1 : Stays I (frzI I ρ H (toks v)) ρ ρ w w := ⟨fun b hb => ⟨.inl hb, rfl⟩, fun _ _ h => h, fun _ _ _ _ h => h, .rfl⟩
    have hu1 := view_sound S st1 v u _ hu (fun t ht b' k hb' hk => .inr ⟨t, ht, b', k, hb', hk, rfl⟩) hy
    obtain ⟨hu2, hu3⟩ := RV_cells hu1 hc4.1
    have hb1 : at_ (hup (frz H (toks v)) H) t0 = some b := by rw [at_frz, hb]; simp only [if_neg hnot]
    obtain ⟨k'', m1, m2, m3, m4⟩ := S1.live t0 b hb1
    rw [g1] at m1; cases m1
    obtain ⟨xs, fz, ys, q1, q2, q3, q4, q5, q6⟩ := m3
    rw [h2] at q6
    obtain ⟨c, h, r1, r2, r3, r4, r5⟩ := cset_sound q2 (RVs.stays (.up _ ρ w) _ _ hu2) (.inr hu2) q6 h
    cases h
    have hys := len_cells (P := E.P) q1 q3
    have hth : w.there k.r (i * z + off) (a.eval y).cells.toList.length := there_sub q4 (by omega)
    have hth' : w.there k.r (i * z + off) (a.eval y).cells.size := by simpa using hth
    have onl := Only.setCells q1 (i * z + off) (a.eval y).cells.toList
    refine ⟨.skip, undef, w.setCells k.r (i * z + off) (a.eval y).cells.toList, ρ, frzI I ρ H (toks v), fin rfl rfl hth', .inr ⟨rfl, rfl⟩, ?_⟩
    rw [hup_cons]
    refine Sim.put (S1.write hb1 g1 hw (b' := { b with c := c }) hw onl ?_) (by simp [RV]) hd
    obtain ⟨cs', n1, n2, _⟩ := setCells_heap k.r b.ty fz (a.eval y).cells.toList (i * z + off) w xs q1
    have st : Stays (frzI I ρ H (toks v)) (frzI I ρ H (toks v)) ρ ρ w (w.setCells k.r (i * z + off) (a.eval y).cells.toList) := onl.stays (m4.1 hw)
    exact ⟨cs', fz, _, n1, r1.stays st, rangeAt_spl q3 hth r4, by rw [n2]; exact World.there_setCells q4 _ _ _, by simpa [r2] using q5, by rw [h2]; exact r3⟩

theorem eff_hw_nil {e : Eff} (h : e.hw = []) : hup e.hw H = H := by rw [h]; rfl

/-! A slice made. -/
theorem getElem_zip_range {z : Array Value} (m j : Nat) (hj : j < m) : ((Array.range m).map fun i => z[i % z.size]!)[j]? = some (z[j % z.size]!) := by
  simp [hj]

theorem flat_rep {n : Nat} (z : List Value) (hz : z.length = n) (h1 : ∀ y ∈ z, y.oneCell' = true) : ∀ m, RVss I ρ w n (List.replicate m (z.map .s)) ((List.replicate m z).flatten)
  | 0 => by simp [RVss]
  | m + 1 => by
    simp only [List.replicate_succ, List.flatten_cons, RVss]
    exact ⟨z, _, rfl, by simpa using hz, RVs_s z, h1, flat_rep z hz h1 m⟩

theorem flatten_get (z : List Value) (n : Nat) (hz : z.length = n) (h0 : 0 < n) : ∀ (m j : Nat) (y : Value), ((List.replicate m z).flatten)[j]? = some y → z[j % n]? = some y ∧ j < m * n
  | 0, j, y, h => by simp at h
  | m + 1, j, y, h => by
    simp only [List.replicate_succ, List.flatten_cons] at h
    rw [List.getElem?_append] at h
    split at h
    · rename_i hj
      refine ⟨by rw [Nat.mod_eq_of_lt (by omega)]; exact h, ?_⟩
      have : n ≤ (m + 1) * n := by rw [Nat.add_mul]; omega
      omega
    · rename_i hj
      obtain ⟨g1, g2⟩ := flatten_get z n hz h0 m _ y h
      rw [hz] at g1 g2
      have e : j = (j - n) + n := by omega
      refine ⟨by rw [e, Nat.add_mod_right]; exact g1, ?_⟩
      rw [Nat.add_mul]; omega

theorem rows_rep {sh : Sh} {x0 : El sh} {z : List Value} (hr : RE I w sh x0 z) : ∀ n, Rows (RE I w sh) (List.replicate n x0) ((List.replicate n z).flatten)
  | 0 => rfl
  | n + 1 => by simp only [List.replicate_succ, List.flatten_cons, Rows]; exact ⟨z, _, rfl, hr, rows_rep hr n⟩

/-- The cells of a row that is made. -/
theorem made_cells {P : Program} {et : TypeId} {n : Nat} {c : V} (h : mkC P et n = some c) : ∃ i z, P.info? et = some i ∧ i.zero = some z ∧ i.size = szOf P et ∧ 0 < szOf P et ∧ lenC c = n ∧ (∀ wr, Fits P ⟨et, c, wr⟩ (szOf P et)) ∧ clen c = some n ∧ z.cells.size = szOf P et ∧
    ∃ ys : List Value, (∀ (I : Nat → Prop) (ρ : Nat → Option Tk) (w : World), Flat I ρ w c ys) ∧ ∀ (j : Nat) (y : Value), ys[j]? = some y → (madeCells z.cells (n * i.size))[j]? = some y := by
  have key : ∀ z : List Value, zeroV P et = some z → z.length = szOf P et → 0 < szOf P et → ∃ i v, P.info? et = some i ∧ i.zero = some v ∧ i.size = szOf P et ∧ v.cells.size = szOf P et ∧
      ∀ (j : Nat) (y : Value), ((List.replicate n z).flatten)[j]? = some y → (madeCells v.cells (n * i.size))[j]? = some y := fun z hz hl h0 => by
    obtain ⟨v, _, hv, i, hi, hiz⟩ := zero_run hz
    have his := szOf_of hi
    have hs : v.cells.size = szOf P et := by rw [← hl, ← hv]; simp
    refine ⟨i, v, hi, hiz, his.symm, hs, fun j y hy => ?_⟩
    obtain ⟨g1, g2⟩ := flatten_get z (szOf P et) hl h0 n j y hy
    unfold madeCells
    rw [getElem_zip_range _ _ (by rw [← his]; exact g2), hs]
    have hlt : j % szOf P et < v.cells.size := by rw [hs]; exact Nat.mod_lt _ h0
    rw [← hv, Array.getElem?_toList, Array.getElem?_eq_getElem hlt] at g1
    rw [getElem!_pos v.cells _ hlt]
    exact g1
  unfold mkC at h
  split at h
  · rename_i k k' x hu hz
    obtain ⟨hc, h⟩ := cond_eq.1 h
    cases h
    simp only [Bool.and_eq_true, decide_eq_true_eq] at hc
    obtain ⟨⟨rfl, rfl⟩, h1⟩ := hc
    have h1 := Nat.eq_of_beq_eq_true h1
    obtain ⟨i, v, g1, g2, g3, g4, g5⟩ := key _ hz (by simp [h1]) (by omega)
    refine ⟨i, v, g1, g2, g3, by omega, by simp [lenC], fun wr => by simp only [Fits]; exact ⟨hu, h1, h1⟩, by simp [clen], g4, _, fun I ρ w => ?_, g5⟩
    simp only [Flat, List.map_replicate]
    clear key g5
    induction n with
    | zero => rfl
    | succ n ih => simp [List.replicate_succ]
  · rename_i x hu hz
    obtain ⟨hc, h⟩ := cond_eq.1 h
    cases h
    simp only [Bool.and_eq_true, decide_eq_true_eq] at hc
    obtain ⟨rfl, h1⟩ := hc
    have h1 := Nat.eq_of_beq_eq_true h1
    obtain ⟨i, v, g1, g2, g3, g4, g5⟩ := key _ hz (by simp [h1]) (by omega)
    refine ⟨i, v, g1, g2, g3, by omega, by simp [lenC], fun wr => by simp only [Fits]; exact ⟨hu, h1, h1⟩, by simp [clen], g4, _, fun I ρ w => ?_, g5⟩
    simp only [Flat, List.map_replicate]
    clear key g5
    induction n with
    | zero => rfl
    | succ n ih => simp [List.replicate_succ]
  · cases h
  · cases h
  · rename_i d z _ _ _ _ hu hz
    obtain ⟨hc, h⟩ := cond_eq.1 h
    simp only [Bool.and_eq_true] at hc
    obtain ⟨⟨h1, h2⟩, h3⟩ := hc
    have h1 := Nat.eq_of_beq_eq_true h1
    rw [Nat.blt_eq] at h2
    obtain ⟨i, v, g1, g2, g3, g4, g5⟩ := key _ hz h1 h2
    split at h
    · rename_i sh _
      obtain ⟨hs, h⟩ := cond_eq.1 h
      have hs := Nat.eq_of_beq_eq_true hs
      obtain ⟨x0, hx0, rfl⟩ := Option.map_eq_some_iff.1 h
      refine ⟨i, v, g1, g2, g3, h2, by simp [lenC], fun wr => by simp only [Fits]; exact ⟨hs, hs.symm⟩, by simp [clen], g4, _, fun I ρ w => ?_, g5⟩
      simp only [Flat]
      have hr := dec_sound (I := I) (ρ := nil) (w := w) sh _ x0 z hx0 (RVs_s z)
      exact rows_rep hr n
    · cases h
      refine ⟨i, v, g1, g2, g3, h2, by simp [lenC], fun wr => by simp [Fits], by simp [clen], g4, _, fun I ρ w => ?_, g5⟩
      simp only [Flat]
      exact flat_rep z h1 (oneCells_of (I := I) (ρ := nil) (w := w) (RVs_s z) h3) n
  · cases h

theorem mkN_eq {n m : Int} {b q : Nat} (h : mkN n m b = some q) : 0 ≤ n ∧ n = m ∧ n * b ≤ 140737488355328 ∧ n ≤ 140737488355328 ∧ q = n.toNat := by
  unfold mkN at h
  split at h
  · rename_i hc
    cases h
    exact ⟨hc.1, hc.2.1, hc.2.2.1, hc.2.2.2, rfl⟩
  · cases h

theorem d_makeSlice {t : TypeId} {x y : Operand} (hop : o.op = .makeSlice t x y) (S : Sim E ρ I T H a w) (hd : dOk o.dst E.N = true) (h : eff E.P o T H tok some = some e) : Done E o T H a w e := by
  unfold eff at h
  rw [hop] at h
  simp only at h
  split at h
  case h_2 => cases h
  rename_i n m hn hm
  obtain ⟨k1, hx⟩ := intOf_eq S hn
  obtain ⟨k2, hy⟩ := intOf_eq S hm
  obtain ⟨hf, h⟩ := cond_eq.1 h
  obtain ⟨et, het, h⟩ := bind_eq.1 h
  obtain ⟨q, hq, h⟩ := bnd_eq.1 h
  obtain ⟨c, hc, h⟩ := bind_eq.1 h
  cases h
  obtain ⟨h0, rfl, hb, hn2, rfl⟩ := mkN_eq hq
  obtain ⟨i, z, g1, g2, g3, g4, g5, g6, g7, _, ys, g8, g9⟩ := made_cells hc
  have hu : E.P.underlying t = some (.slice et) := by
    unfold elemT at het
    split at het
    · rename_i e0 hu; cases het; exact hu
    · cases het
  have hbytes : bytesOf E.P et = i.bytes := by simp [bytesOf, g1]
  have hib : (i.bytes : Int) * n ≤ 281474976710656 := by rw [hbytes, Int.mul_comm] at hb; omega
  have h63 : n ≤ 9223372036854775807 := by omega
  have hr := run_make (P := E.P) w t et i z hu g1 g2 k1 k2 n n h0 (Int.le_refl _) hib h63
  refine Done.new S hd hf (x := .slice (some ⟨w.heap.size, 0, none⟩) n.toNat n.toNat) (ob := .cells (madeCells z.cells (n.toNat * i.size)) et) (k := ⟨w.heap.size, n.toNat, szOf E.P et⟩) (b := ⟨et, c, true⟩) (w1 := w) rfl rfl rfl ?_ ?_ ?_ rfl
  · simp [execOp, hop, hx, hy, hr]
  · exact rel_new _ rfl _ et rfl (g8 _ _ _) g9 g5 (g6 true)
  · simp only [RV]
    refine ⟨⟨w.heap.size, n.toNat, szOf E.P et⟩, n.toNat, et, n.toNat * i.size, 0, by simp, by simp, by simp [rhoUp], rfl, Nat.le_refl _, by simp, ?_, by rw [g3]; simp⟩
    unfold World.shape?
    rw [heap_last]
    simp [size_madeCells]

theorem upTo_eq {i : Int} {m n : Nat} (h : upTo i m = some n) : 0 ≤ i ∧ i ≤ m ∧ n = i.toNat := by
  unfold upTo at h
  split at h
  · rename_i hc
    cases h
    exact ⟨hc.1, hc.2, rfl⟩
  · cases h

/-- A bound of a slice. -/
def Bnd (E : Env) (a : Act) (w : World) (x : Option Operand) (m d n : Nat) : Prop :=
  match x with
  | none => n = d
  | some x => n ≤ m ∧ ∀ y code, m ≤ y → (Instr.sliceBound (a.eval x) y code).run E.P w = .ok n w

theorem bound_sound {R : Type} (S : Sim E ρ I T H a w) {m d : Nat} {x : Option Operand} {K : Nat → Option R} {r : R} (h : bound T m x d K = some r) :
    ∃ n, K n = some r ∧ Bnd E a w x m d n := by
  cases x with
  | none => exact ⟨d, h, rfl⟩
  | some x =>
    unfold bound at h
    simp only at h
    cases hi : intOf T x with
    | none => rw [hi] at h; cases h
    | some i =>
      rw [hi] at h
      obtain ⟨k, hx⟩ := intOf_eq S hi
      obtain ⟨n, hn, h⟩ := bnd_eq.1 h
      obtain ⟨h0, h1, rfl⟩ := upTo_eq hn
      refine ⟨_, h, by omega, fun y code hy => ?_⟩
      rw [hx]
      have : i ≤ (y : Int) := by omega
      simp [Instr.sliceBound, asIntOf, h0, this]

theorem bounds_run {isS : Bool} {n cap : Nat} {lo hi : Option Operand} {hh ll : Nat} (hn : n ≤ cap) (h1 : Bnd E a w hi n n hh) (h2 : Bnd E a w lo hh 0 ll) :
    (Instr.sliceBounds isS n cap (lo.map a.eval) (hi.map a.eval) none).run E.P w = .ok (ll, hh, cap) w ∧ ll ≤ hh ∧ hh ≤ n := by
  cases hi with
  | none =>
    simp only [Bnd] at h1
    subst h1
    cases lo with
    | none => simp only [Bnd] at h2; subst h2; simp [Instr.sliceBounds]
    | some x => simp only [Bnd] at h2; simp [Instr.sliceBounds, h2.1, h2.2 _ _ (Nat.le_refl _)]
  | some y =>
    simp only [Bnd] at h1
    cases lo with
    | none => simp only [Bnd] at h2; subst h2; simp [Instr.sliceBounds, h1.1, h1.2 _ _ hn]
    | some x => simp only [Bnd] at h2; simp [Instr.sliceBounds, h1.1, h1.2 _ _ hn, h2.1, h2.2 _ _ (Nat.le_refl _)]

theorem bounds3_run {n cap : Nat} {lo hi : Option Operand} {x : Operand} {mm hh ll : Nat} (hn : n ≤ cap) (h0 : Bnd E a w (some x) n n mm) (h1 : Bnd E a w hi mm n hh) (hhi : hi.isSome = true) (h2 : Bnd E a w lo hh 0 ll) :
    (Instr.sliceBounds true n cap (lo.map a.eval) (hi.map a.eval) (some (a.eval x))).run E.P w = .ok (ll, hh, mm) w ∧ ll ≤ hh ∧ hh ≤ mm ∧ mm ≤ n := by
  cases hi with
  | none => cases hhi
  | some y =>
    simp only [Bnd] at h0 h1
    cases lo with
    | none => simp only [Bnd] at h2; subst h2; simp [Instr.sliceBounds, h0.1, h0.2 _ _ hn, h1.1, h1.2 _ _ (Nat.le_refl _)]
    | some z => simp only [Bnd] at h2; simp [Instr.sliceBounds, h0.1, h0.2 _ _ hn, h1.1, h1.2 _ _ (Nat.le_refl _), h2.1, h2.2 _ _ (Nat.le_refl _)]

theorem RV_seq {c : V} {x : Value} {z : Nat} {ρ' : Nat → Option Tk} (hz : zOk c z = true) (h : RV I ρ w c x) : RV I ρ' w c x := by
  cases c with
  | li k xs => simpa only [RV] using h
  | ls xs => simpa only [RV] using h
  | lg n xs => simpa only [RV] using h
  | lt sh xs => simpa only [RV] using h
  | _ => cases hz

/-- A piece of a frozen slice. -/
theorem csub_sound {c u : V} {x : Value} {n l m z : Nat} (hx : RV I ρ w c x) (hn : clen c = some n) (hlm : l + m ≤ n) (hz : zOk c z = true) (h : csub c l m = some u) :
    ∃ a0 cap, x = .slice a0 n cap ∧ n ≤ cap ∧ ∀ cap' a1, m ≤ cap' → (a1 = a0.map (·.add (l * z)) ∨ m = 0) → RV I ρ w u (.slice a1 m cap') := by
  cases c with
  | li k xs =>
    simp only [clen, Option.some.injEq] at hn
    simp only [csub, Option.some.injEq] at h
    have hz := Nat.eq_of_beq_eq_true hz
    subst h; subst hn; subst hz
    simp only [RV] at hx
    obtain ⟨a0, cap, rfl, h1, h2⟩ := hx
    refine ⟨a0, cap, rfl, h1, fun cap' a1 hc ha => ?_⟩
    have hl : ((xs.drop l).take m).length = m := by simp; omega
    simp only [RV]
    refine ⟨a1, cap', by rw [hl], by omega, ?_⟩
    by_cases hm : m = 0
    · exact .inl (by subst hm; simp)
    · rcases h2 with h2 | ⟨b, o, rfl, hI, hcell⟩
      · rw [List.map_eq_nil_iff] at h2; subst h2; simp at hlm; omega
      · refine .inr ⟨b, o + l, by rw [ha.resolve_right hm]; simp [add_none], hI, fun j y hy => ?_⟩
        rw [map_get] at hy
        have := hcell _ _ (getElem_drop_take hy).1
        rwa [Nat.add_assoc]
  | ls xs =>
    simp only [clen, Option.some.injEq] at hn
    simp only [csub, Option.some.injEq] at h
    have hz := Nat.eq_of_beq_eq_true hz
    subst h; subst hn; subst hz
    simp only [RV] at hx
    obtain ⟨a0, cap, rfl, h1, h2⟩ := hx
    refine ⟨a0, cap, rfl, h1, fun cap' a1 hc ha => ?_⟩
    have hl : ((xs.drop l).take m).length = m := by simp; omega
    simp only [RV]
    refine ⟨a1, cap', by rw [hl], by omega, ?_⟩
    by_cases hm : m = 0
    · exact .inl (by subst hm; simp)
    · rcases h2 with h2 | ⟨b, o, rfl, hI, hcell⟩
      · rw [List.map_eq_nil_iff] at h2; subst h2; simp at hlm; omega
      · refine .inr ⟨b, o + l, by rw [ha.resolve_right hm]; simp [add_none], hI, fun j y hy => ?_⟩
        rw [map_get] at hy
        have := hcell _ _ (getElem_drop_take hy).1
        rwa [Nat.add_assoc]
  | lg q xs =>
    simp only [clen, Option.some.injEq] at hn
    simp only [csub, Option.some.injEq] at h
    have hz := Nat.eq_of_beq_eq_true hz
    subst h; subst hn; subst hz
    simp only [RV] at hx
    obtain ⟨a0, cap, ys, rfl, h1, h3, h2⟩ := hx
    refine ⟨a0, cap, rfl, h1, fun cap' a1 hc ha => ?_⟩
    have hl : ((xs.drop l).take m).length = m := by simp; omega
    simp only [RV]
    refine ⟨a1, cap', _, by rw [hl], by omega, RVss_take m (RVss_drop l h3), ?_⟩
    by_cases hm : m = 0
    · exact .inl (by subst hm; simp)
    · rcases h2 with h2 | ⟨b, o, rfl, hI, hcell⟩
      · subst h2; exact .inl (by simp)
      · refine .inr ⟨b, o + l * q, by rw [ha.resolve_right hm]; simp [add_none], hI, fun j y hy => ?_⟩
        have := hcell _ _ (getElem_drop_take hy).1
        rwa [Nat.add_assoc]
  | lt sh xs =>
    simp only [clen, Option.some.injEq] at hn
    simp only [csub, Option.some.injEq] at h
    have hz := Nat.eq_of_beq_eq_true hz
    subst h; subst hn; subst hz
    have hx := RV_lt.1 hx
    simp only [RV, List.length_map] at hx
    obtain ⟨a0, cap, ys, rfl, h1, h3, h2⟩ := hx
    refine ⟨a0, cap, rfl, h1, fun cap' a1 hc ha => ?_⟩
    have hl : ((xs.drop l).take m).length = m := by simp; omega
    rw [RV_lt]
    simp only [RV, List.length_map]
    refine ⟨a1, cap', _, by rw [hl], by omega, by have := RVss_take m (RVss_drop l h3); rwa [← List.map_drop, ← List.map_take] at this, ?_⟩
    by_cases hm : m = 0
    · exact .inl (by subst hm; simp)
    · rcases h2 with h2 | ⟨b, o, rfl, hI, hcell⟩
      · subst h2; exact .inl (by simp)
      · refine .inr ⟨b, o + l * sh.sz, by rw [ha.resolve_right hm]; simp [add_none], hI, fun j y hy => ?_⟩
        have := hcell _ _ (getElem_drop_take hy).1
        rwa [Nat.add_assoc]
  | _ => cases hz

theorem sliceAt_run {P : Program} {t et : TypeId} {i : TypeInfo} (hu : P.underlying t = some (.slice et)) (hi : P.info? et = some i) {a0 : Option Addr} {n cap l h m : Nat} {lo hi' mx : Option Value}
    (hb : (Instr.sliceBounds true n cap lo hi' mx).run P w = .ok (l, h, m) w) :
    (Instr.sliceAt t (.slice a0 n cap) lo hi' mx).run P w = .ok (.slice (if m = l then a0 else a0.map (·.add (l * i.size))) (h - l) (m - l)) w := by
  simp [Instr.sliceAt, Instr.slice, run_underlying hu, hb, sizeOf, typeInfo, hi]

theorem d_slice {t : TypeId} {x : Operand} {lo hi mx : Option Operand} (hop : o.op = .slice t x lo hi mx) (S : Sim E ρ I T H a w) (hd : dOk o.dst E.N = true) (h : eff E.P o T H tok some = some e) : Done E o T H a w e := by
  unfold eff at h
  rw [hop] at h
  simp only at h
  split at h
  · rename_i hu
    split at h
    · rename_i s hv
      obtain ⟨hm, h⟩ := cond_eq.1 h
      have hx := ev_sound S hv
      simp only [RV] at hx
      obtain ⟨hh, h, hb1⟩ := bound_sound S h
      obtain ⟨ll, h, hb2⟩ := bound_sound S h
      cases h
      obtain ⟨hr, h1, h2⟩ := bounds_run (isS := false) (Nat.le_refl _) hb1 hb2
      cases mx with
      | some q => cases hm
      | none =>
        refine Done.value S hd rfl rfl (x := .string (s.extract ll hh)) (by simp [RV]) ?_
        simp [execOp, hop, hx, Instr.sliceAt, Instr.slice, run_underlying hu, hr]
    · cases h
  · rename_i et hu
    split at h
    · rename_i t0 z a0 n hv
      have hx := ev_sound S hv
      obtain ⟨hc, h⟩ := cond_eq.1 h
      simp only [Bool.and_eq_true] at hc
      obtain ⟨⟨hm, hz⟩, hz0⟩ := hc
      have hz := Nat.eq_of_beq_eq_true hz
      rw [Nat.blt_eq] at hz0
      obtain ⟨hh, h, hb1⟩ := bound_sound S h
      obtain ⟨ll, h, hb2⟩ := bound_sound S h
      cases h
      simp only [RV] at hx
      obtain ⟨k, cap, ty, m, p, hx, hp, q1, q2, q3, q4, q5, q6⟩ := hx
      obtain ⟨hr, h1, h2⟩ := bounds_run (isS := true) q3 hb1 hb2
      obtain ⟨i, hi, his⟩ := info_of_sz (P := E.P) (t := et) (by omega)
      cases mx with
      | some q => cases hm
      | none =>
        have hrun := sliceAt_run (w := w) hu hi (a0 := some ⟨k.r, p, none⟩) hr
        refine Done.value S hd rfl rfl (x := .slice (if cap = ll then some ⟨k.r, p, none⟩ else some ⟨k.r, p + ll * z, none⟩) (hh - ll) (cap - ll)) ?_ ?_
        · simp only [RV]
          refine ⟨k, cap - ll, ty, m, if cap = ll then p else p + ll * z, by split <;> rfl, ?_, q1, q2, by omega, by omega, q5, ?_⟩
          · by_cases hcl : cap = ll
            · right; omega
            · rw [if_neg hcl]
              rcases hp with rfl | rfl
              · left; rw [Nat.add_mul]
              · right; omega
          · have : a0 + ll + (cap - ll) = a0 + cap := by omega
            rw [this]; exact q6
        · have e1 : i.size = z := by omega
          simp [execOp, hop, hx, hrun, e1, add_none]
    · rename_i hv
      have hx := ev_sound S hv
      simp only [RV] at hx
      cases hc : (mx.isNone && Nat.blt 0 (szOf E.P et)) with
      | false =>
        rw [hc, cond_false] at h
        obtain ⟨v', hv', h⟩ := bind_eq.1 h
        cases h
        exact done_scalar S hd hv' rfl rfl
      | true =>
        rw [hc, cond_true] at h
        simp only [Bool.and_eq_true] at hc
        obtain ⟨hm, hz0⟩ := hc
        rw [Nat.blt_eq] at hz0
        obtain ⟨i, hi, his⟩ := info_of_sz (P := E.P) (t := et) hz0
        obtain ⟨hh, h, hb1⟩ := bound_sound S h
        obtain ⟨ll, h, hb2⟩ := bound_sound S h
        cases h
        cases mx with
        | some q => cases hm
        | none =>
          obtain ⟨hr, h1, h2⟩ := bounds_run (isS := true) (Nat.le_refl 0) hb1 hb2
          have hrun := sliceAt_run (w := w) hu hi (a0 := none) hr
          have e1 : hh - ll = 0 := by omega
          refine Done.value S hd rfl rfl (x := .slice none 0 0) (by simp [RV]) ?_
          simp [execOp, hop, hx, hrun, e1]
    · rename_i v _ hv
      obtain ⟨v', hv', h⟩ := bind_eq.1 h
      cases h
      exact done_scalar S hd hv' rfl rfl
    · rename_i c _ _ _ hv
      have hx := ev_sound S hv
      split at h
      case h_2 => cases h
      rename_i n hn
      obtain ⟨hc, h⟩ := cond_eq.1 h
      simp only [Bool.and_eq_true] at hc
      obtain ⟨hz, hz0⟩ := hc
      rw [Nat.blt_eq] at hz0
      obtain ⟨i, hi, his⟩ := info_of_sz (P := E.P) (t := et) hz0
      cases mx with
      | none =>
        simp only at h
        obtain ⟨hh, h, hb1⟩ := bound_sound S h
        obtain ⟨ll, h, hb2⟩ := bound_sound S h
        obtain ⟨u, hu', h⟩ := bind_eq.1 h
        cases h
        have key := bounds_run (E := E) (a := a) (w := w) (isS := true) (Nat.le_refl n) hb1 hb2
        obtain ⟨a0, cap, hx, hcap, hrv⟩ := csub_sound hx hn (by omega) hz hu'
        obtain ⟨hr, h1, h2⟩ := bounds_run (isS := true) hcap hb1 hb2
        have hrun := sliceAt_run (w := w) hu hi (a0 := a0) hr
        refine Done.value S hd rfl rfl (x := .slice (if cap = ll then a0 else a0.map (·.add (ll * i.size))) (hh - ll) (cap - ll)) (hrv _ _ (by omega) ?_) ?_
        · by_cases hcl : cap = ll
          · right; omega
          · left; rw [if_neg hcl, his]
        · simp [execOp, hop, hx, hrun]
      | some q =>
        simp only at h
        obtain ⟨hhi, h⟩ := cond_eq.1 h
        obtain ⟨mm, h, hb0⟩ := bound_sound S h
        obtain ⟨hh, h, hb1⟩ := bound_sound S h
        obtain ⟨ll, h, hb2⟩ := bound_sound S h
        obtain ⟨hmm, h⟩ := grd_eq.1 h
        have hmm := Nat.eq_of_beq_eq_true hmm
        obtain ⟨u, hu', h⟩ := bind_eq.1 h
        cases h
        have key := bounds3_run (E := E) (a := a) (w := w) (Nat.le_refl n) hb0 hb1 hhi hb2
        obtain ⟨a0, cap, hx, hcap, hrv⟩ := csub_sound (RV_seq (ρ' := nil) hz hx) hn (by omega) hz hu'
        obtain ⟨hr, h1, h2, h3⟩ := bounds3_run hcap hb0 hb1 hhi hb2
        have hrun := sliceAt_run (w := w) hu hi (a0 := a0) hr
        refine Done.value S hd rfl rfl (x := .slice (if mm = ll then a0 else a0.map (·.add (ll * i.size))) (hh - ll) (mm - ll)) ?_ ?_
        · simp only [RV]
          refine ⟨hrv _ _ (by omega) ?_, _, mm - ll, by rw [hmm]⟩
          by_cases hcl : mm = ll
          · right; omega
          · left; rw [if_neg hcl, his]
        · simp [execOp, hop, hx, hrun]
    · cases h
  · cases h
end
end Go.PM
