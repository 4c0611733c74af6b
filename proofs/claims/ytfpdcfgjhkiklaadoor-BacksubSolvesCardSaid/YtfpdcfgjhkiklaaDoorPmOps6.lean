/- Each operation of the evaluator is the machine's: literals, conversions, lengths. -/
import Derived.Test.YtfpdcfgjhkiklaaDoorPmOps5
import Derived.Laws.BytesArg
set_option linter.unusedSimpArgs false
set_option linter.unusedVariables false
set_option autoImplicit false
namespace Go.PM
section
variable {E : Env} {ρ : Nat → Option Tk} {I : Nat → Prop} {T : Nat → Option V} {H : Heap} {a : Act} {w : World} {o : Oper} {e : Eff} {tok : Nat}

theorem fold_set (off : Nat) : ∀ (l : List Value) (k : Nat) (arr : Array Value), off + k + l.length ≤ arr.size →
    ((l.zipIdx k).foldl (fun cs (x : Value × Nat) => cs.setIfInBounds (off + x.2) x.1) arr).toList = spl arr.toList (off + k) l
  | [], k, arr, _ => by simp [spl]
  | v :: l, k, arr, h => by
    simp only [List.zipIdx_cons, List.foldl_cons]
    simp only [List.length_cons] at h
    rw [fold_set off l (k + 1) _ (by simp; omega)]
    unfold spl
    simp only [Array.toList_setIfInBounds, List.length_cons]
    have hlt : off + k < arr.toList.length := by simp; omega
    rw [List.set_eq_take_append_cons_drop, if_pos hlt]
    have hl : (arr.toList.take (off + k)).length = off + k := by simp; omega
    have e1 : off + (k + 1) = (arr.toList.take (off + k)).length + 1 := by rw [hl]; omega
    have e2 : off + (k + 1) + l.length = (arr.toList.take (off + k)).length + (1 + l.length) := by rw [hl]; omega
    have e3 : off + k + (l.length + 1) = off + k + 1 + l.length := by omega
    rw [e1, List.take_length_add_append]
    rw [show (arr.toList.take (off + k)).length + 1 + l.length = (arr.toList.take (off + k)).length + (1 + l.length) by omega, List.drop_length_add_append]
    rw [Nat.add_comm 1 l.length, List.drop_succ_cons, List.drop_drop, e3]
    simp [List.append_assoc]

theorem fold_cells (off : Nat) (xs : Array Value) (arr : Array Value) (h : off + xs.size ≤ arr.size) :
    (xs.zipIdx.foldl (fun cs (x : Value × Nat) => cs.setIfInBounds (off + x.2) x.1) arr).toList = spl arr.toList off xs.toList := by
  have := fold_set off xs.toList 0 arr (by simpa using h)
  rw [← Array.toList_zipIdx, Array.foldl_toList] at this
  simpa using this

theorem length_spl {ys us : List Value} {p : Nat} (h : p + us.length ≤ ys.length) : (spl ys p us).length = ys.length := by unfold spl; simp; omega

theorem evPs_sound (S : Sim E ρ I T H a w) : ∀ {ps : List (Nat × Operand)} {vs : List (Nat × V)}, evPs T ps = some vs → (ps.map (·.1)) = vs.map (·.1) ∧ RVs I ρ w (vs.map (·.2)) (ps.map fun p => a.eval p.2)
  | [], vs, h => by simp only [evPs, Option.some.injEq] at h; subst h; simp [RVs]
  | (i, x) :: ps, vs, h => by
    simp only [evPs] at h
    obtain ⟨v, hv, h⟩ := bind_eq.1 h
    simp only [Option.map_eq_some_iff] at h
    obtain ⟨us, hu, rfl⟩ := h
    obtain ⟨h1, h2⟩ := evPs_sound S hu
    refine ⟨by simp [h1], ?_⟩
    simp only [List.map_cons, RVs]
    exact ⟨_, _, rfl, ev_sound S hv, h2⟩

/-- The parts of a literal. -/
theorem fill_sound {place : Nat → Option (Nat × Nat)} : ∀ {vs : List (Nat × V)} {cells r : List V} {arr : Array Value} {xs : List (Nat × Value)}, PM.fill place cells vs = some r → RVs I ρ w cells arr.toList →
    vs.map (·.1) = xs.map (·.1) → RVs I ρ w (vs.map (·.2)) (xs.map (·.2)) → (∀ y ∈ arr.toList, y.oneCell' = true) →
    ∃ arr', Instr.fill place arr xs = some arr' ∧ RVs I ρ w r arr'.toList ∧ ∀ y ∈ arr'.toList, y.oneCell' = true
  | [], cells, r, arr, xs, h, hc, hi, hv, h1 => by
    simp only [PM.fill, Option.some.injEq] at h
    subst h
    cases xs with
    | cons x xs => simp at hi
    | nil => exact ⟨arr, rfl, hc, h1⟩
  | (i, v) :: vs, cells, r, arr, xs, h, hc, hi, hv, h1 => by
    cases xs with
    | nil => simp at hi
    | cons x xs =>
      obtain ⟨i', x⟩ := x
      simp only [List.map_cons, List.cons.injEq] at hi
      obtain ⟨rfl, hi⟩ := hi
      simp only [List.map_cons, RVs] at hv
      obtain ⟨y, q, hyq, hv1, hv2⟩ := hv
      simp only [List.cons.injEq] at hyq
      obtain ⟨rfl, rfl⟩ := hyq
      simp only [PM.fill] at h
      split at h
      · cases h
      · rename_i off size hp
        obtain ⟨hcond, h⟩ := cond_eq.1 h
        simp only [Bool.and_eq_true] at hcond
        obtain ⟨⟨c1, c2⟩, c3⟩ := hcond
        have c1 := Nat.eq_of_beq_eq_true c1
        have c2 := Nat.le_of_ble_eq_true c2
        obtain ⟨g1, g2⟩ := RV_cells hv1 c3
        have hl := RVs_len g1
        have hla := RVs_len hc
        have hxs : x.cells.size = size := by simpa [c1] using hl
        have hsz : off + x.cells.size ≤ arr.size := by simp at hla; omega
        have hfc := fold_cells off x.cells arr hsz
        have hspl : RVs I ρ w (splice cells off (cellsOf v)) (spl arr.toList off x.cells.toList) := by
          have := RVs_splice off hc g1
          rw [← hl] at this
          exact this
        obtain ⟨arr', r1, r2, r3⟩ := fill_sound (arr := x.cells.zipIdx.foldl (fun cs (x : Value × Nat) => cs.setIfInBounds (off + x.2) x.1) arr) h (by rw [hfc]; exact hspl) hi hv2 (by
          rw [hfc]
          intro y hy
          unfold spl at hy
          rcases List.mem_append.1 hy with hy | hy
          · rcases List.mem_append.1 hy with hy | hy
            · exact h1 y (List.mem_of_mem_take hy)
            · exact g2 y hy
          · exact h1 y (List.mem_of_mem_drop hy))
        refine ⟨arr', ?_, r2, r3⟩
        simp only [Instr.fill, hp]
        have hno : ¬ (x.cells.size ≠ size ∨ off + x.cells.size > arr.size) := by omega
        simp only [decide_eq_true_eq, Bool.or_eq_true, hno, if_false]
        exact r1

theorem d_build {t : TypeId} {ps : Array (Nat × Operand)} (hop : o.op = .build t ps) (S : Sim E ρ I T H a w) (hd : dOk o.dst E.N = true) (h : eff E.P o T H tok some = some e) : Done E o T H a w e := by
  unfold eff at h
  rw [hop] at h
  simp only at h
  obtain ⟨vs, hvs, h⟩ := bind_eq.1 h
  obtain ⟨z, hz, h⟩ := bind_eq.1 h
  obtain ⟨zv, hzr, hzc, i0, hi0, hiz⟩ := zero_run hz
  obtain ⟨p1, p2⟩ := evPs_sound S hvs
  obtain ⟨hz1, h⟩ := cond_eq.1 h
  have hzs : RVs I ρ w (z.map .s) zv.cells.toList := by rw [hzc]; exact RVs_s z
  have hz2 : ∀ y ∈ zv.cells.toList, y.oneCell' = true := by rw [hzc]; exact oneCells_of (I := I) (ρ := ρ) (w := w) (RVs_s z) hz1
  have hps : (ps.map fun (i, x) => (i, a.eval x)).toList = ps.toList.map fun p => (p.1, a.eval p.2) := by simp
  have hfin : ∀ (place : Nat → Option (Nat × Nat)) (cs : List V), PM.fill place (z.map .s) vs = some cs → ∃ arr', Instr.fill place zv.cells (ps.map fun (i, x) => (i, a.eval x)).toList = some arr' ∧ RV I ρ w (.agg cs) (.agg arr') := fun place cs hf => by
    obtain ⟨arr', r1, r2, r3⟩ := fill_sound (xs := ps.toList.map fun p => (p.1, a.eval p.2)) hf hzs (by rw [← p1]; simp) (by simpa [Function.comp_def] using p2) hz2
    refine ⟨arr', by rw [hps]; exact r1, ?_⟩
    simp only [RV]
    exact ⟨arr'.toList, by simp, r2, r3⟩
  split at h
  · rename_i fields hu
    obtain ⟨hall, h⟩ := cond_eq.1 h
    obtain ⟨cs, hf, h⟩ := bind_eq.1 h
    cases h
    obtain ⟨arr', r1, r2⟩ := hfin _ _ hf
    refine Done.value S hd rfl rfl r2 ?_
    have hm : fields.toList.mapM (fun f => (E.P.info? f.type).map fun i => (f.offset, i.size)) = some (fields.toList.map fun f => (f.offset, szOf E.P f.type)) := by
      clear r1 hf hu
      revert hall
      induction fields.toList with
      | nil => simp
      | cons f fs ih =>
        intro hall
        simp only [List.all_cons, Bool.and_eq_true] at hall
        obtain ⟨i, hi⟩ := Option.isSome_iff_exists.1 hall.1
        simp [List.mapM_cons, hi, ih hall.2, szOf_of hi]
    have hb : E.P.built t (ps.map fun (i, x) => (i, a.eval x)).toList = some arr' := by
      unfold Program.built
      simp only [hi0, hu, hiz, hm]
      rw [← r1]
      congr 1
      funext i
      simp
    have := run_build (P := E.P) w t _ _ hb
    simp [execOp, hop, this]
  · rename_i n et hu
    obtain ⟨hall, h⟩ := cond_eq.1 h
    obtain ⟨cs, hf, h⟩ := bind_eq.1 h
    cases h
    obtain ⟨arr', r1, r2⟩ := hfin _ _ hf
    refine Done.value S hd rfl rfl r2 ?_
    obtain ⟨i, hi⟩ := Option.isSome_iff_exists.1 hall
    have hb : E.P.built t (ps.map fun (i, x) => (i, a.eval x)).toList = some arr' := by
      unfold Program.built
      simp only [hi0, hu, hiz, hi]
      rw [← r1, szOf_of hi]
    have := run_build (P := E.P) w t _ _ hb
    simp [execOp, hop, this]
  · cases h

theorem inOrder_map : ∀ {vs : List (Nat × V)} {n : Nat}, inOrder n vs = true → vs.map (·.1) = List.range' n vs.length
  | [], n, _ => by simp
  | (i, v) :: vs, n, h => by
    simp only [inOrder, Bool.and_eq_true] at h
    have := Nat.eq_of_beq_eq_true h.1
    subst this
    simp [List.range'_succ, inOrder_map h.2]

theorem flen {z : Nat} : ∀ {xs : List Value}, (∀ x ∈ xs, x.cells.size = z) → ((xs.map fun x => x.cells.toList).flatten).length = xs.length * z
  | [], _ => by simp
  | x :: xs, h => by
    simp only [List.map_cons, List.flatten_cons, List.length_append, List.length_cons]
    rw [flen fun q hq => h q (List.mem_cons_of_mem _ hq), Array.length_toList, h x (by simp), Nat.add_mul]; omega

/-- Elements in order fill a row. -/
theorem fill_row (z : Nat) : ∀ (xs : List Value) (n : Nat) (arr : Array Value), (∀ x ∈ xs, x.cells.size = z) → (n + xs.length) * z ≤ arr.size →
    ∃ arr', Instr.fill (fun i => some (i * z, z)) arr ((List.range' n xs.length).zip xs) = some arr' ∧ arr'.toList = spl arr.toList (n * z) (xs.map fun x => x.cells.toList).flatten
  | [], n, arr, _, _ => ⟨arr, rfl, by simp [spl]⟩
  | x :: xs, n, arr, hx, hl => by
    have hxs : x.cells.size = z := hx x (by simp)
    simp only [List.length_cons] at hl
    have e : (n + (xs.length + 1)) * z = n * z + z + xs.length * z := by rw [Nat.add_mul, Nat.add_mul]; omega
    have hfc := fold_cells (n * z) x.cells arr (by omega)
    have hls : (spl arr.toList (n * z) x.cells.toList).length = arr.size := by rw [length_spl (by simp; omega)]; simp
    obtain ⟨arr', r1, r2⟩ := fill_row z xs (n + 1) (x.cells.zipIdx.foldl (fun cs (x : Value × Nat) => cs.setIfInBounds (n * z + x.2) x.1) arr) (fun y hy => hx y (by simp [hy])) (by
      have : (x.cells.zipIdx.foldl (fun cs (x : Value × Nat) => cs.setIfInBounds (n * z + x.2) x.1) arr).size = arr.size := by rw [← Array.length_toList, hfc, hls]
      rw [this, show n + 1 + xs.length = n + (xs.length + 1) by omega]; exact hl)
    refine ⟨arr', ?_, ?_⟩
    · simp only [List.length_cons, List.range'_succ, List.zip_cons_cons, Instr.fill]
      have hno : ¬ (x.cells.size ≠ z ∨ n * z + x.cells.size > arr.size) := by omega
      simp only [decide_eq_true_eq, Bool.or_eq_true, hno, if_false]
      exact r1
    · rw [r2, hfc]
      simp only [List.map_cons, List.flatten_cons]
      have hlf := flen (fun q hq => hx q (List.mem_cons_of_mem _ hq))
      unfold spl
      have l1 : (arr.toList.take (n * z)).length = n * z := by simp; omega
      have l2 : x.cells.toList.length = z := by simpa using hxs
      have e1 : (n + 1) * z = (arr.toList.take (n * z) ++ x.cells.toList).length := by rw [List.length_append, l1, l2, Nat.add_mul]; omega
      rw [e1, List.take_left, List.drop_length_add_append, List.drop_drop, List.length_append, l2]
      simp only [List.append_assoc]
      congr 3
      congr 1
      omega

theorem ints_sound {k : IntKind} : ∀ {us : List V} {zs : List Int} {xs : List Value}, ints k us = some zs → RVs I ρ w us xs → xs = zs.map (.int k) ∧ zs.length = us.length
  | [], zs, xs, h, hr => by simp only [ints, Option.some.injEq] at h; subst h; simp only [RVs] at hr; subst hr; simp
  | u :: us, zs, xs, h, hr => by
    simp only [RVs] at hr
    obtain ⟨y, r, rfl, h1, h2⟩ := hr
    unfold ints at h
    split at h
    · rename_i heq; cases heq
    · rename_i k' n vs heq
      cases heq
      obtain ⟨hk, h⟩ := cond_eq.1 h
      simp only [Option.map_eq_some_iff] at h
      obtain ⟨ms, hm, rfl⟩ := h
      obtain ⟨g1, g2⟩ := ints_sound hm h2
      simp only [RV] at h1
      rw [of_decide_eq_true hk] at h1
      subst h1
      exact ⟨by simp [g1], by simp [g2]⟩
    · cases h
theorem strs_sound : ∀ {us : List V} {zs : List ByteArray} {xs : List Value}, strs us = some zs → RVs I ρ w us xs → xs = zs.map .string ∧ zs.length = us.length
  | [], zs, xs, h, hr => by simp only [strs, Option.some.injEq] at h; subst h; simp only [RVs] at hr; subst hr; simp
  | u :: us, zs, xs, h, hr => by
    simp only [RVs] at hr
    obtain ⟨y, r, rfl, h1, h2⟩ := hr
    unfold strs at h
    split at h
    · rename_i heq; cases heq
    · rename_i n vs heq
      cases heq
      simp only [Option.map_eq_some_iff] at h
      obtain ⟨ms, hm, rfl⟩ := h
      obtain ⟨g1, g2⟩ := strs_sound hm h2
      simp only [RV] at h1
      subst h1
      exact ⟨by simp [g1], by simp [g2]⟩
    · cases h
theorem rows_sound {n : Nat} : ∀ {us : List V} {zs : List (List V)} {xs : List Value}, rows n us = some zs → RVs I ρ w us xs →
    zs.length = us.length ∧ (∀ x ∈ xs, x.cells.size = n) ∧ RVss I ρ w n zs (xs.map fun x => x.cells.toList).flatten
  | [], zs, xs, h, hr => by simp only [rows, Option.some.injEq] at h; subst h; simp only [RVs] at hr; subst hr; simp [RVss]
  | u :: us, zs, xs, h, hr => by
    simp only [RVs] at hr
    obtain ⟨y, r, rfl, h1, h2⟩ := hr
    simp only [rows] at h
    obtain ⟨hc, h⟩ := cond_eq.1 h
    simp only [Bool.and_eq_true] at hc
    have hc1 := Nat.eq_of_beq_eq_true hc.1
    simp only [Option.map_eq_some_iff] at h
    obtain ⟨ms, hm, rfl⟩ := h
    obtain ⟨g1, g2, g3⟩ := rows_sound hm h2
    obtain ⟨q1, q2⟩ := RV_cells h1 hc.2
    have hl := RVs_len q1
    refine ⟨by simp [g1], fun x hx => ?_, ?_⟩
    · rcases List.mem_cons.1 hx with rfl | hx
      · simpa [hc1] using hl
      · exact g2 x hx
    · simp only [List.map_cons, List.flatten_cons, RVss]
      exact ⟨_, _, rfl, hc1, q1, q2, g3⟩

theorem rowsT_sound {s : Sh} : ∀ {us : List V} {zs : List (El s)} {xs : List Value}, rowsT s us = some zs → RVs I ρ w us xs →
    zs.length = us.length ∧ (∀ x ∈ xs, x.cells.size = s.sz) ∧ Rows (RE I w s) zs (xs.map fun x => x.cells.toList).flatten
  | [], zs, xs, h, hr => by simp only [rowsT, Option.some.injEq] at h; subst h; simp only [RVs] at hr; subst hr; simp [Rows]
  | u :: us, zs, xs, h, hr => by
    simp only [RVs] at hr
    obtain ⟨y, r, rfl, h1, h2⟩ := hr
    simp only [rowsT] at h
    obtain ⟨hc, h⟩ := cond_eq.1 h
    simp only [Bool.and_eq_true] at hc
    have hc1 := Nat.eq_of_beq_eq_true hc.1
    obtain ⟨x0, hx0, h⟩ := bind_eq.1 h
    simp only [Option.map_eq_some_iff] at h
    obtain ⟨ms, hm, rfl⟩ := h
    obtain ⟨g1, g2, g3⟩ := rowsT_sound hm h2
    obtain ⟨q1, q2⟩ := RV_cells h1 hc.2
    have hl := RVs_len q1
    refine ⟨by simp [g1], fun x hx => ?_, ?_⟩
    · rcases List.mem_cons.1 hx with rfl | hx
      · simpa [hc1] using hl
      · exact g2 x hx
    · simp only [List.map_cons, List.flatten_cons, Rows]
      exact ⟨_, _, rfl, dec_sound s _ x0 _ hx0 q1, g3⟩

theorem flat1 {α : Type} (f : α → Value) (hf : ∀ x, (f x).cells.toList = [f x]) : ∀ zs : List α, ((zs.map f).map fun x => x.cells.toList).flatten = zs.map f
  | [] => rfl
  | z :: zs => by simp only [List.map_cons, List.flatten_cons, flat1 f hf zs, hf]; rfl

theorem ofElems_sound {P : Program} {et : TypeId} {us : List V} {c : V} {xs : List Value} (h : ofElems P et us = some c) (hr : RVs I nil w us xs) :
    lenC c = us.length ∧ (∀ wr, Fits P ⟨et, c, wr⟩ (szOf P et)) ∧ (∀ x ∈ xs, x.cells.size = szOf P et) ∧ Flat I ρ w c (xs.map fun x => x.cells.toList).flatten := by
  unfold ofElems at h
  split at h
  · rename_i k hu
    obtain ⟨hs, h⟩ := cond_eq.1 h
    have hs := Nat.eq_of_beq_eq_true hs
    simp only [Option.map_eq_some_iff] at h
    obtain ⟨zs, hz, rfl⟩ := h
    obtain ⟨rfl, g2⟩ := ints_sound hz hr
    refine ⟨g2, fun wr => by simp only [Fits]; exact ⟨hu, hs, hs⟩, fun x hx => ?_, ?_⟩
    · obtain ⟨n, _, rfl⟩ := List.mem_map.1 hx
      rw [hs]; rfl
    · simp only [Flat]
      exact flat1 _ (fun _ => rfl) _
  · rename_i hu
    obtain ⟨hs, h⟩ := cond_eq.1 h
    have hs := Nat.eq_of_beq_eq_true hs
    simp only [Option.map_eq_some_iff] at h
    obtain ⟨zs, hz, rfl⟩ := h
    obtain ⟨rfl, g2⟩ := strs_sound hz hr
    refine ⟨g2, fun wr => by simp only [Fits]; exact ⟨hu, hs, hs⟩, fun x hx => ?_, ?_⟩
    · obtain ⟨n, _, rfl⟩ := List.mem_map.1 hx
      rw [hs]; rfl
    · simp only [Flat]
      exact flat1 _ (fun _ => rfl) _
  · split at h
    · rename_i sh _
      obtain ⟨hs, h⟩ := cond_eq.1 h
      have hs := Nat.eq_of_beq_eq_true hs
      simp only [Option.map_eq_some_iff] at h
      obtain ⟨zs, hz, rfl⟩ := h
      obtain ⟨g1, g2, g3⟩ := rowsT_sound hz hr
      exact ⟨g1, fun wr => by simp only [Fits]; exact ⟨hs, hs.symm⟩, fun x hx => (g2 x hx).trans hs, g3⟩
    · simp only [Option.map_eq_some_iff] at h
      obtain ⟨zs, hz, rfl⟩ := h
      obtain ⟨g1, g2, g3⟩ := rows_sound hz hr
      exact ⟨g1, fun wr => by simp [Fits], g2, g3⟩
  · cases h

theorem elemT_eq {P : Program} {t et : TypeId} (h : elemT P t = some et) : P.underlying t = some (.slice et) := by
  unfold elemT at h
  split at h
  · rename_i e0 hu; cases h; exact hu
  · cases h

theorem run_buildSlice' {P : Program} (w : World) (t e : TypeId) (len : Nat) (parts : Array (Nat × Value)) (cells : Array Value) (ie : TypeInfo) (z : Value)
    (hu : P.underlying t = some (.slice e)) (hie : P.info? e = some ie) (hz : ie.zero = some z) (hsmall : ¬ len * ie.size > 2 ^ 24)
    (h : Instr.fill (fun i => some (i * ie.size, ie.size)) ((Array.range (len * ie.size)).map (z.cells[· % z.cells.size]!)) parts.toList = some cells) :
    (Instr.buildSlice t len parts).run P w = .ok (.slice (some ⟨w.heap.size, 0, none⟩) len len) (w.alloc (.cells cells e)) := by
  by_cases hpos : len * ie.size = 0
  · have e0 : ∀ f : Nat → Value, (Array.range (len * ie.size)).map f = #[] := fun f => by rw [hpos]; simp
    rw [e0] at h
    simp [Instr.buildSlice, run_underlying hu, sizeOf, typeInfo, hie, hsmall, hpos, newRow] at h ⊢
    have e1 : ∀ f : Nat → Value, (Array.range 0).map f = #[] := fun f => by simp
    rw [e1, h]
    simp
  · exact run_buildSlice w t e len parts cells ie z hu hie hz hsmall hpos h

theorem d_buildSlice {t : TypeId} {n : Nat} {ps : Array (Nat × Operand)} (hop : o.op = .buildSlice t n ps) (S : Sim E ρ I T H a w) (hd : dOk o.dst E.N = true) (h : eff E.P o T H tok some = some e) : Done E o T H a w e := by
  unfold eff at h
  rw [hop] at h
  simp only at h
  obtain ⟨hf, h⟩ := cond_eq.1 h
  obtain ⟨vs, hvs, h⟩ := bind_eq.1 h
  obtain ⟨et, het, h⟩ := bind_eq.1 h
  obtain ⟨hc, h⟩ := cond_eq.1 h
  simp only [Bool.and_eq_true] at hc
  obtain ⟨⟨⟨⟨c1, c2⟩, c3⟩, c4⟩, c5⟩ := hc
  have c2 := Nat.eq_of_beq_eq_true c2
  have c3 := Nat.le_of_ble_eq_true c3
  rw [Nat.blt_eq] at c4
  obtain ⟨us, hus, h⟩ := bind_eq.1 h
  obtain ⟨c, hcc, h⟩ := bind_eq.1 h
  cases h
  have hu := elemT_eq het
  have hz0 : 0 < szOf E.P et := c4
  obtain ⟨ie, hie, his⟩ := info_of_sz (P := E.P) hz0
  obtain ⟨p1, p2⟩ := evPs_sound S hvs
  have S1 := S.freeze (toksL (vs.map (·.2)))
  have st1 : Stays I (frzI I ρ H (toksL (vs.map (·.2)))) ρ ρ w w := ⟨fun b hb => ⟨.inl hb, rfl⟩, fun _ _ h => h, fun _ _ _ _ h => h, .rfl⟩
  have hr := viewL_sound S st1 _ us _ hus (fun t ht b' k hb' hk => .inr ⟨t, ht, b', k, hb', hk, rfl⟩) p2
  obtain ⟨g1, g2, g3, g4⟩ := ofElems_sound (ρ := ρ) hcc hr
  have hlx := RVs_len p2
  obtain ⟨z, hz⟩ := Option.isSome_iff_exists.1 c5
  obtain ⟨zv, _, hzc, i', hi', hiz⟩ := zero_run hz
  rw [hie] at hi'; cases hi'
  have hlp : ps.toList.length = n := by rw [← c2, ← List.length_map (as := vs) (f := (·.1)), ← p1, List.length_map]
  have hparts : (ps.map fun (i, x) => (i, a.eval x)).toList = (List.range' 0 (ps.toList.map fun p => a.eval p.2).length).zip (ps.toList.map fun p => a.eval p.2) := by
    have h1 : ps.toList.map (·.1) = List.range' 0 (ps.toList.map fun p => a.eval p.2).length := by
      rw [p1, inOrder_map c1, List.length_map, c2, hlp]
    rw [← h1]
    simp only [Array.toList_map]
    clear hlp p1 p2 hvs h1 hlx hr
    induction ps.toList with
    | nil => rfl
    | cons p q ih => simp [ih]
  have hlen : (ps.toList.map fun p => a.eval p.2).length = n := by rw [List.length_map, hlp]
  obtain ⟨arr', r1, r2⟩ := fill_row (szOf E.P et) (ps.toList.map fun p => a.eval p.2) 0 (madeCells zv.cells (n * ie.size)) g3 (by rw [size_madeCells, hlen, his]; simp)
  have hrun := run_buildSlice' (P := E.P) w t et n (ps.map fun (i, x) => (i, a.eval x)) arr' ie zv hu hie hiz (by rw [his]; omega) (by rw [hparts, his]; rw [his] at r1; exact r1)
  have hmem := hus
  have hlc : lenC c = n := by
    rw [g1]
    have h1 := RVs_len hr
    rw [hlen] at h1; exact h1.symm
  let k : Tk := ⟨w.heap.size, n, szOf E.P et⟩
  have hf1 : fresh (hup (frz H (toksL (vs.map (·.2)))) H) tok = true := by
    unfold fresh hup
    unfold fresh at hf
    rw [lk_frz]
    unfold at_
    rw [Option.isNone_iff_eq_none] at hf ⊢
    rw [hf]
    rfl
  have st2 := Stays.alloc S1 (.cells arr' et) (S1.rhoUp hf1 k)
  have hblk : BlkRel E.P (frzI I ρ H (toksL (vs.map (·.2)))) (rhoUp ρ tok k) (w.alloc (.cells arr' et)) k ⟨et, c, true⟩ := by
    refine rel_new k rfl arr' et rfl (g4.stays st2) (fun j y hy => ?_) hlc (g2 true)
    rw [← Array.getElem?_toList, r2]
    unfold spl
    simp only [Nat.zero_mul, List.take_zero, List.nil_append]
    rw [List.getElem?_append_left (List.getElem?_eq_some_iff.1 hy).1]
    exact hy
  refine ⟨.value (.slice (some ⟨w.heap.size, 0, none⟩) n n), .slice (some ⟨w.heap.size, 0, none⟩) n n, w.alloc (.cells arr' et), rhoUp ρ tok k, frzI I ρ H (toksL (vs.map (·.2))), by simp [execOp, hop, hrun], .inl rfl, ?_⟩
  rw [hup_cons]
  refine (S1.new hf1 rfl rfl hblk).put ?_ hd
  simp only [RV]
  refine ⟨k, n, et, arr'.size, 0, rfl, by simp, by simp [rhoUp], rfl, Nat.le_refl _, by simp [k], ?_, ?_⟩
  · unfold World.shape?
    rw [show k.r = w.heap.size from rfl, heap_last]
  · have : arr'.size = n * szOf E.P et := by
      have h1 : arr'.toList.length = (spl (madeCells zv.cells (n * ie.size)).toList (0 * szOf E.P et) ((ps.toList.map fun p => a.eval p.2).map fun x => x.cells.toList).flatten).length := by rw [r2]
      rw [Array.length_toList] at h1
      rw [h1, length_spl, Array.length_toList, size_madeCells, his]
      rw [flen g3, hlen, Array.length_toList, size_madeCells, his]; omega
    simp [this]

theorem d_convert {src dst : TypeId} {x : Operand} (hop : o.op = .convert src dst x) (S : Sim E ρ I T H a w) (hd : dOk o.dst E.N = true) (h : eff E.P o T H tok some = some e) : Done E o T H a w e := by
  unfold eff at h
  rw [hop] at h
  simp only at h
  split at h
  · rename_i et t0 z off n hs hdst hv
    have hx := ev_sound S hv
    split at h
    case h_2 => cases h
    rename_i he
    obtain ⟨b, hb, h⟩ := bind_eq.1 h
    split at h
    case h_2 => cases h
    rename_i xs hc
    obtain ⟨hg, h⟩ := grd_eq.1 h
    cases h
    have hg := Nat.le_of_ble_eq_true hg
    simp only [RV] at hx
    obtain ⟨k, cap, ty, m, p, hx, hp, h1, h2, h3, h4, h5, h6⟩ := hx
    obtain ⟨k', g1, g2, ⟨cs, fz, ys, q1, q2, q3, q4, q5, q6⟩, g4⟩ := S.live t0 b hb
    rw [g1] at h1; cases h1
    unfold Fits at q6
    rw [hc] at q2 q6
    simp only [Flat] at q2
    have hl : ((xs.drop off).take n).length = n := by simp; omega
    refine Done.value S hd rfl rfl (x := .string (strOfNums ((xs.drop off).take n))) (by simp [RV, strOfNums]) ?_
    have hrun := run_convert_bytes_arg (P := E.P) w src et hs he k.r p n cap ((xs.drop off).take n) hl (fun i hi => by
      rcases hp with rfl | rfl
      · have hj : ((xs.drop off).take n)[i]? = some (((xs.drop off).take n).getD i 0) := by
          rw [List.getD_eq_getElem?_getD, List.getElem?_eq_getElem (by omega)]; rfl
        have hj' := (getElem_drop_take hj).1
        have := q3 (off + i) (.int .u8 (((xs.drop off).take n).getD i 0)) (by rw [q2, List.getElem?_map, hj']; rfl)
        have hz : z = 1 := h2.symm.trans q6.2.2
        rw [hz, Nat.mul_one]
        simpa using this
      · omega) dst hdst
    simp [execOp, hop, hx, hrun]
  · rename_i et b hs hdst hv
    have hx := ev_sound S hv
    simp only [RV] at hx
    split at h
    case h_2 => cases h
    rename_i he
    obtain ⟨hf, h⟩ := cond_eq.1 h
    obtain ⟨hsz, h⟩ := cond_eq.1 h
    cases h
    have hsz := Nat.eq_of_beq_eq_true hsz
    have hrun := run_bytes_of_string (P := E.P) w src dst et b hs hdst he
    have hbs : (bytesL b).length = b.size := by unfold bytesL; rw [List.length_map, Array.length_toList]; rfl
    have hbr : (bytesRow b (grownCap w b.size 0 et)).size = b.size + (grownCap w b.size 0 et - b.size) := by unfold bytesRow; simp
    have hbc : b.size ≤ grownCap w b.size 0 et := grownCap_ge w b.size 0 et
    refine Done.new S hd hf (x := .slice (some ⟨w.heap.size, 0, none⟩) b.size (grownCap w b.size 0 et)) (k := ⟨w.heap.size, b.size, 1⟩) (b := ⟨et, .li .u8 (bytesL b), true⟩) (w1 := w.drew) rfl rfl rfl ?_ ?_ ?_ rfl
      (ob := .cells (bytesRow b (grownCap w b.size 0 et)) et ((bytesRow b (grownCap w b.size 0 et)).size, (bytesRow b (grownCap w b.size 0 et)).size + 1))
    · simp [execOp, hop, hx, hrun]
    · refine rel_newF _ rfl _ et _ (fun o ho => by simp; omega) rfl (ys := (bytesL b).map (.int .u8)) (by simp [Flat]) (fun j y hy => ?_) (by simpa [lenC] using hbs) (by simp only [Fits]; exact ⟨he, hsz, trivial⟩)
      have hj := (List.getElem?_eq_some_iff.1 hy).1
      rw [List.length_map, hbs] at hj
      have hj' : j < b.data.size := hj
      unfold bytesRow
      rw [Array.getElem?_append_left (by simpa using hj')]
      rw [← hy]
      unfold bytesL
      simp [Function.comp_def]
    · simp only [RV]
      refine ⟨⟨w.heap.size, b.size, 1⟩, grownCap w b.size 0 et, et, (bytesRow b (grownCap w b.size 0 et)).size, 0, rfl, by simp, by simp [rhoUp], rfl, hbc, by simp, ?_, by rw [hbr]; omega⟩
      unfold World.shape?
      rw [show (w.heap.size) = w.drew.heap.size from rfl, heap_last]
  · obtain ⟨v, hv, h⟩ := bind_eq.1 h
    cases h
    exact done_scalar S hd hv rfl rfl
end
end Go.PM
