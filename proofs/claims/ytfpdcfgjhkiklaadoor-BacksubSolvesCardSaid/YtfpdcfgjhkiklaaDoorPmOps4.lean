/- Each operation of the evaluator is the machine's: division, stores, views. -/
import Derived.Test.YtfpdcfgjhkiklaaDoorPmOps3
set_option linter.unusedSimpArgs false
set_option linter.unusedVariables false
set_option autoImplicit false
namespace Go.PM
section
variable {E : Env} {ρ : Nat → Option Tk} {I : Nat → Prop} {T : Nat → Option V} {H : Heap} {a : Act} {w : World} {o : Oper} {e : Eff} {tok : Nat}

theorem equal_nil_slice {P : Program} {w : World} {t et : TypeId} {b : Addr} {n c : Nat} (hu : P.underlying t = some (.slice et)) : (Op.equal t (.slice (some b) n c) (.slice none 0 0)).run P w = .ok false w := by
  unfold Op.equal
  show (Op.equalIn (9999 + 1) t _ _).run P w = _
  generalize (9999 : Nat) = d
  simp [Op.equalIn, run_underlying hu]
theorem equal_nil_ptr {P : Program} {w : World} {t et : TypeId} {b : Addr} (hu : P.underlying t = some (.pointer et)) : (Op.equal t (.pointer (some b)) (.pointer none)).run P w = .ok false w := by
  unfold Op.equal
  show (Op.equalIn (9999 + 1) t _ _).run P w = _
  generalize (9999 : Nat) = d
  simp [Op.equalIn, run_underlying hu]
theorem eqFs_sound {P : Program} {I : Nat → Prop} {ρ : Nat → Option Tk} {w : World} {cs ds : List V} {ys zs : List Value} (hy : RVs I ρ w cs ys) (hy1 : ∀ y ∈ ys, y.oneCell' = true) (hz : RVs I ρ w ds zs) (hz1 : ∀ y ∈ zs, y.oneCell' = true) (d : Nat) :
    ∀ (fs : List Field) (r : Bool), eqFs P fs cs ds = some r → (Op.eqFields (d + 1) ⟨ys⟩ ⟨zs⟩ fs).run P w = .ok r w
  | [], r, h => by simp only [eqFs, Option.some.injEq] at h; subst h; simp [Op.eqFields]
  | f :: fs, r, h => by
    simp only [eqFs] at h
    replace h := cond_eq.1 h
    obtain ⟨hn, h⟩ := h
    have hn : f.name ≠ "_" := by simpa using hn
    split at h
    · rename_i k0 k a k' b hu hp hq
      replace h := cond_eq.1 h
      obtain ⟨hk, h⟩ := h
      have hk := of_decide_eq_true hk
      subst hk
      obtain ⟨r', hr, rfl⟩ := Option.map_eq_some_iff.1 h
      obtain ⟨x, hx, hxv⟩ := part_run (w := w) hp hy hy1
      obtain ⟨y, hy', hyv⟩ := part_run (w := w) hq hz hz1
      simp only [RV] at hxv hyv
      subst hxv; subst hyv
      have ih := eqFs_sound hy hy1 hz hz1 d fs r' hr
      simp only [Op.eqFields, if_pos hn, Sem.run_bind, hx, hy', Result.andThen_ok, run_equalIn_int w d f.type _ _ a b hu]
      cases a == b <;> simp [ih]
    · rename_i a b hu hp hq
      obtain ⟨r', hr, rfl⟩ := Option.map_eq_some_iff.1 h
      obtain ⟨x, hx, hxv⟩ := part_run (w := w) hp hy hy1
      obtain ⟨y, hy', hyv⟩ := part_run (w := w) hq hz hz1
      simp only [RV] at hxv hyv
      subst hxv; subst hyv
      have ih := eqFs_sound hy hy1 hz hz1 d fs r' hr
      simp only [Op.eqFields, if_pos hn, Sem.run_bind, hx, hy', Result.andThen_ok, run_equalIn_string w d f.type a b hu]
      cases a.toList == b.toList <;> simp [ih]
    · rename_i a b hu hp hq
      obtain ⟨r', hr, rfl⟩ := Option.map_eq_some_iff.1 h
      obtain ⟨x, hx, hxv⟩ := part_run (w := w) hp hy hy1
      obtain ⟨y, hy', hyv⟩ := part_run (w := w) hq hz hz1
      simp only [RV] at hxv hyv
      subst hxv; subst hyv
      have ih := eqFs_sound hy hy1 hz hz1 d fs r' hr
      simp only [Op.eqFields, if_pos hn, Sem.run_bind, hx, hy', Result.andThen_ok, run_equalIn_bool' w d f.type a b hu]
      cases a == b <;> simp [ih]
    · cases h
theorem RE_len {I : Nat → Prop} {w : World} : ∀ (s : Sh) (x : El s) (ys : List Value), RE I w s x ys → ys.length = s.sz
  | .int k, x, ys, h => by simp only [RE] at h; subst h; rfl
  | .str, x, ys, h => by simp only [RE] at h; subst h; rfl
  | .bool, x, ys, h => by simp only [RE] at h; subst h; rfl
  | .sl s, x, ys, h => by simp only [RE] at h; obtain ⟨a, cap, cs, rfl, _⟩ := h; rfl
  | .pair a b, p, ys, h => by
    simp only [RE] at h
    obtain ⟨y, z, rfl, h1, h2⟩ := h
    rw [List.length_append, RE_len a _ _ h1, RE_len b _ _ h2]; rfl
  | .unit, x, ys, h => by simp only [RE] at h; subst h; rfl
theorem frozen_some {I : Nat → Prop} {w : World} {a : Option Addr} {ys : List Value} (h : Frozen I w a ys) (hn : ys ≠ []) : ∃ b, a = some b := by
  rcases h with h | ⟨b, o, rfl, _⟩
  · exact absurd h hn
  · exact ⟨_, rfl⟩
theorem isSliceT_spec {P : Program} {t : TypeId} (h : isSliceT (P.underlying t) = true) : ∃ et, P.underlying t = some (.slice et) := by
  cases e : P.underlying t with
  | none => rw [e] at h; cases h
  | some d => rw [e] at h; cases d <;> first | exact ⟨_, rfl⟩ | cases h
theorem eqT_spec {P : Program} {t : TypeId} (h : eqT P t = true) : P.underlying t = some (.struct (P.fieldsOf t)) ∧ P.stoodInHeld t = false ∧ P.eqGuardType P.depth t = false := by
  unfold eqT isStructT at h
  simp only [Bool.and_eq_true, Bool.not_eq_true'] at h
  obtain ⟨⟨h1, h2⟩, h3⟩ := h
  refine ⟨?_, h2, h3⟩
  split at h1
  · rename_i fs hu
    rw [hu]; simp [Program.fieldsOf, hu]
  · cases h1
theorem d_binOp {op : BinOp} {t u : TypeId} {x y : Operand} (hop : o.op = .binOp op t x y u) (S : Sim E ρ I T H a w) (hd : dOk o.dst E.N = true) (h : eff E.P o T H tok some = some e) : Done E o T H a w e := by
  unfold eff at h
  rw [hop] at h
  simp only at h
  split at h
  · rename_i k p k' q hx hy
    obtain ⟨hk, h⟩ := cond_eq.1 h
    obtain ⟨v, hv, h⟩ := bnd_eq.1 h
    have hx' := ev_sound S hx
    have hy' := ev_sound S hy
    simp only [RV] at hx' hy'
    have hk' := of_decide_eq_true hk
    cases h
    unfold divI at hv
    split at hv
    case isTrue => cases hv
    rename_i hq
    simp only [Option.some.injEq] at hv
    subst hv
    refine Done.value S hd rfl rfl (x := .int k (k.wrap (p.tdiv q))) (by simp [RV]) ?_
    simp [execOp, hop, hx', hy', eqGuard, binOp, hk', Op.intDiv, hq]
  · rename_i k p k' q hx hy
    obtain ⟨hk, h⟩ := cond_eq.1 h
    obtain ⟨v, hv, h⟩ := bnd_eq.1 h
    have hx' := ev_sound S hx
    have hy' := ev_sound S hy
    simp only [RV] at hx' hy'
    have hk' := of_decide_eq_true hk
    cases h
    unfold divI at hv
    split at hv
    case isTrue => cases hv
    rename_i hq
    simp only [Option.some.injEq] at hv
    subst hv
    refine Done.value S hd rfl rfl (x := .int k (p.tmod q)) (by simp [RV]) ?_
    simp [execOp, hop, hx', hy', eqGuard, binOp, hk', Op.intDiv, hq]
  · rename_i k p k' q hx hy
    obtain ⟨v, hv, h⟩ := bnd_eq.1 h
    have hx' := ev_sound S hx
    have hy' := ev_sound S hy
    simp only [RV] at hx' hy'
    cases h
    unfold shfI at hv
    split at hv
    case isTrue => cases hv
    rename_i hq
    simp only [Option.some.injEq] at hv
    subst hv
    refine Done.value S hd rfl rfl (x := .int k (k.wrap (p * 2 ^ min q.toNat k.bits))) (by simp [RV]) ?_
    simp [execOp, hop, hx', hy', eqGuard, binOp, Op.shift, hq]
  · rename_i k p k' q hx hy
    obtain ⟨v, hv, h⟩ := bnd_eq.1 h
    have hx' := ev_sound S hx
    have hy' := ev_sound S hy
    simp only [RV] at hx' hy'
    cases h
    unfold shfI at hv
    split at hv
    case isTrue => cases hv
    rename_i hq
    simp only [Option.some.injEq] at hv
    subst hv
    refine Done.value S hd rfl rfl (x := .int k (p.fdiv (2 ^ min q.toNat k.bits))) (by simp [RV]) ?_
    simp [execOp, hop, hx', hy', eqGuard, binOp, Op.shift, hq]
  · rename_i p q hx hy
    obtain ⟨hg, h⟩ := grd_eq.1 h
    cases h
    have hx' := ev_sound S hx
    have hy' := ev_sound S hy
    simp only [RV] at hx' hy'
    have hg := Nat.le_of_ble_eq_true hg
    refine Done.value S hd rfl rfl (x := .string (p ++ q)) (by simp [RV]) ?_
    have hng : ¬ ((p.size + q.size : Nat) : Int) > IntKind.i64.max := by
      have : IntKind.i64.max = 9223372036854775807 := by decide
      omega
    simp only [execOp, hop, hx', hy', eqGuard, binOp, Op.stringOp, if_neg hng]
    simp
  · rename_i hx hy
    obtain ⟨hu, h⟩ := cond_eq.1 h
    cases h
    have hx' := ev_sound S hx
    have hy' := ev_sound S hy
    simp only [RV] at hx' hy'
    obtain ⟨k, cap, ty, n, p, hx', _⟩ := hx'
    obtain ⟨et, hu⟩ : ∃ et, E.P.underlying t = some (.slice et) := by
      cases e : E.P.underlying t with
      | none => rw [e] at hu; cases hu
      | some d => rw [e] at hu; cases d <;> first | exact ⟨_, rfl⟩ | cases hu
    refine Done.value S hd rfl rfl (x := .bool false) (by simp [RV]) ?_
    simp [execOp, hop, hx', hy', eqGuard, binOp, equal_nil_slice hu]
  · rename_i hx hy
    obtain ⟨hu, h⟩ := cond_eq.1 h
    cases h
    have hx' := ev_sound S hx
    have hy' := ev_sound S hy
    simp only [RV] at hx' hy'
    obtain ⟨k, cap, ty, n, p, hx', _⟩ := hx'
    obtain ⟨et, hu⟩ : ∃ et, E.P.underlying t = some (.slice et) := by
      cases e : E.P.underlying t with
      | none => rw [e] at hu; cases hu
      | some d => rw [e] at hu; cases d <;> first | exact ⟨_, rfl⟩ | cases hu
    refine Done.value S hd rfl rfl (x := .bool true) (by simp [RV]) ?_
    simp [execOp, hop, hx', hy', eqGuard, binOp, equal_nil_slice hu]
  · rename_i hx hy
    obtain ⟨hu, h⟩ := cond_eq.1 h
    cases h
    have hx' := ev_sound S hx
    have hy' := ev_sound S hy
    simp only [RV] at hx' hy'
    obtain ⟨k, hx', _⟩ := hx'
    obtain ⟨et, hu⟩ : ∃ et, E.P.underlying t = some (.pointer et) := by
      cases e : E.P.underlying t with
      | none => rw [e] at hu; cases hu
      | some d => rw [e] at hu; cases d <;> first | exact ⟨_, rfl⟩ | cases hu
    refine Done.value S hd rfl rfl (x := .bool false) (by simp [RV]) ?_
    simp [execOp, hop, hx', hy', eqGuard, binOp, equal_nil_ptr hu]
  · rename_i hx hy
    obtain ⟨hu, h⟩ := cond_eq.1 h
    cases h
    have hx' := ev_sound S hx
    have hy' := ev_sound S hy
    simp only [RV] at hx' hy'
    obtain ⟨k, hx', _⟩ := hx'
    obtain ⟨et, hu⟩ : ∃ et, E.P.underlying t = some (.pointer et) := by
      cases e : E.P.underlying t with
      | none => rw [e] at hu; cases hu
      | some d => rw [e] at hu; cases d <;> first | exact ⟨_, rfl⟩ | cases hu
    refine Done.value S hd rfl rfl (x := .bool true) (by simp [RV]) ?_
    simp [execOp, hop, hx', hy', eqGuard, binOp, equal_nil_ptr hu]
  · rename_i kk xs hx hy
    obtain ⟨hu, h⟩ := cond_eq.1 h
    obtain ⟨hl, h⟩ := grd_eq.1 h
    cases h
    obtain ⟨et, hu⟩ := isSliceT_spec hu
    have hl : 0 < xs.length := by simpa using hl
    have hx' := ev_sound S hx
    have hy' := ev_sound S hy
    simp only [RV] at hx' hy'
    obtain ⟨b, cap, hx', _, hf⟩ := hx'
    obtain ⟨b, rfl⟩ := frozen_some hf (by intro e; have := congrArg List.length e; simp at this; rw [this] at hl; simp at hl)
    refine Done.value S hd rfl rfl (x := .bool false) (by simp [RV]) ?_
    simp [execOp, hop, hx', hy', eqGuard, binOp, equal_nil_slice hu]
  · rename_i xs hx hy
    obtain ⟨hu, h⟩ := cond_eq.1 h
    obtain ⟨hl, h⟩ := grd_eq.1 h
    cases h
    obtain ⟨et, hu⟩ := isSliceT_spec hu
    have hl : 0 < xs.length := by simpa using hl
    have hx' := ev_sound S hx
    have hy' := ev_sound S hy
    simp only [RV] at hx' hy'
    obtain ⟨b, cap, hx', _, hf⟩ := hx'
    obtain ⟨b, rfl⟩ := frozen_some hf (by intro e; have := congrArg List.length e; simp at this; rw [this] at hl; simp at hl)
    refine Done.value S hd rfl rfl (x := .bool false) (by simp [RV]) ?_
    simp [execOp, hop, hx', hy', eqGuard, binOp, equal_nil_slice hu]
  · rename_i s xs hx hy
    obtain ⟨hu, h⟩ := cond_eq.1 h
    obtain ⟨hl, h⟩ := grd_eq.1 h
    cases h
    obtain ⟨hu, hs⟩ := Bool.and_eq_true_iff.1 hu
    obtain ⟨et, hu⟩ := isSliceT_spec hu
    have hs : 0 < s.sz := by simpa using hs
    have hl : 0 < List.length (α := El s) xs := by simpa using hl
    have hx' := ev_sound S hx
    have hy' := ev_sound S hy
    simp only [RV] at hx' hy'
    obtain ⟨b, cap, ys, hx', _, hr, hf⟩ := hx'
    have hne : ys ≠ [] := by
      cases xs with
      | nil => simp at hl
      | cons x xs =>
        simp only [Rows] at hr
        obtain ⟨y, z, rfl, h1, _⟩ := hr
        have := RE_len s x y h1
        intro e
        have e2 := congrArg List.length e
        rw [List.length_append] at e2
        simp at e2
        have : y.length = 0 := by rw [e2.1]; rfl
        omega
    obtain ⟨b, rfl⟩ := frozen_some hf hne
    refine Done.value S hd rfl rfl (x := .bool false) (by simp [RV]) ?_
    simp [execOp, hop, hx', hy', eqGuard, binOp, equal_nil_slice hu]
  · rename_i cs ds hx hy
    obtain ⟨ht, h⟩ := cond_eq.1 h
    obtain ⟨r, hr, h⟩ := bind_eq.1 h
    cases h
    obtain ⟨hu, h1, h2⟩ := eqT_spec ht
    have hx' := ev_sound S hx
    have hy' := ev_sound S hy
    simp only [RV] at hx' hy'
    obtain ⟨ys, hx', a1, a2⟩ := hx'
    obtain ⟨zs, hy', b1, b2⟩ := hy'
    refine Done.value S hd rfl rfl (x := .bool r) (by simp [RV]) ?_
    have := eqFs_sound a1 a2 b1 b2 9998 _ _ hr
    simp [execOp, hop, hx', hy', run_eqGuard_agg w .eql t x y _ _ h2, run_eql_struct, run_equalIn_struct w 9999 t _ _ hu h1, this]
  · rename_i cs ds hx hy
    obtain ⟨ht, h⟩ := cond_eq.1 h
    obtain ⟨r, hr, h⟩ := bind_eq.1 h
    cases h
    obtain ⟨hu, h1, h2⟩ := eqT_spec ht
    have hx' := ev_sound S hx
    have hy' := ev_sound S hy
    simp only [RV] at hx' hy'
    obtain ⟨ys, hx', a1, a2⟩ := hx'
    obtain ⟨zs, hy', b1, b2⟩ := hy'
    refine Done.value S hd rfl rfl (x := .bool (!r)) (by simp [RV]) ?_
    have := eqFs_sound a1 a2 b1 b2 9998 _ _ hr
    simp [execOp, hop, hx', hy', run_eqGuard_agg w .neq t x y _ _ h2, run_neq_struct, run_equalIn_struct w 9999 t _ _ hu h1, this]
  · obtain ⟨v, hv, h⟩ := bind_eq.1 h
    cases h
    exact done_scalar S hd hv rfl rfl

/-! Stores. -/
theorem setCells_heap (r : Nat) (ty : TypeId) (fz : Nat × Nat) : ∀ (vs : List Value) (p : Nat) (w : World) (cs : Array Value), w.heap[r]? = some (.cells cs ty fz) →
    ∃ cs', (w.setCells r p vs).heap[r]? = some (.cells cs' ty fz) ∧ cs'.size = cs.size ∧ (w.setCells r p vs).heap.size = w.heap.size ∧ ∀ b, b ≠ r → (w.setCells r p vs).heap[b]? = w.heap[b]?
  | [], p, w, cs, h => ⟨cs, h, rfl, rfl, fun _ _ => rfl⟩
  | v :: vs, p, w, cs, h => by
    have e : (w.setCell ⟨r, p, none⟩ v) = w.setRow r (cs.setIfInBounds p v) := setCell_eq_setRow w r p cs ty fz v h
    have h1 : (w.setCell ⟨r, p, none⟩ v).heap[r]? = some (.cells (cs.setIfInBounds p v) ty fz) := by rw [e]; exact setRow_heap w r cs _ ty fz h
    obtain ⟨cs', g1, g2, g3, g4⟩ := setCells_heap r ty fz vs (p + 1) _ _ h1
    refine ⟨cs', g1, by rw [g2]; simp, by rw [show w.setCells r p (v :: vs) = (w.setCell ⟨r, p, none⟩ v).setCells r (p + 1) vs from rfl, g3, e]; simp, fun b hb => ?_⟩
    rw [show w.setCells r p (v :: vs) = (w.setCell ⟨r, p, none⟩ v).setCells r (p + 1) vs from rfl, g4 b hb, e]
    exact setRow_other w r b _ hb

theorem setCell_io (w : World) (a : Addr) (v : Value) : Io w (w.setCell a v) := by
  unfold World.setCell
  split <;> exact ⟨rfl, rfl⟩
theorem setCells_io (r : Nat) : ∀ (vs : List Value) (p : Nat) (w : World), Io w (w.setCells r p vs)
  | [], p, w => ⟨rfl, rfl⟩
  | v :: vs, p, w => (setCell_io w _ v).trans (setCells_io r vs (p + 1) _)
theorem Only.setCells {w : World} {r : Nat} {ty : TypeId} {fz : Nat × Nat} {cs : Array Value} (h : w.heap[r]? = some (.cells cs ty fz)) (p : Nat) (vs : List Value) : Only r w (w.setCells r p vs) := by
  obtain ⟨cs', g1, g2, g3, g4⟩ := setCells_heap r ty fz vs p w cs h
  refine ⟨g3, g4, fun s hs => ?_, setCells_io r vs p w⟩
  unfold World.shape? at hs ⊢
  rw [h] at hs
  rw [g1]
  simpa [g2] using hs

def spl (ys : List Value) (p : Nat) (us : List Value) : List Value := ys.take p ++ us ++ ys.drop (p + us.length)

theorem rangeAt_spl {r p : Nat} {ys us : List Value} (h : w.rangeAt r 0 ys) (ht : w.there r p us.length) (hle : p + us.length ≤ ys.length) : (w.setCells r p us).rangeAt r 0 (spl ys p us) := by
  intro j v hv
  unfold spl at hv
  rw [List.append_assoc, List.getElem?_append] at hv
  have hlp : (ys.take p).length = p := by simp; omega
  rw [hlp] at hv
  have hout : (j < p ∨ p + us.length ≤ j) → ys[j]? = some v → (w.setCells r p us).cell? ⟨r, 0 + j, none⟩ = some v := fun hj hy => by
    rw [World.cell?_setCells_out r us p w ⟨r, 0 + j, none⟩ (fun _ _ => by simpa using hj)]
    exact h j v hy
  split at hv
  · rename_i hj
    rw [List.getElem?_take, if_pos hj] at hv
    exact hout (.inl hj) hv
  · rename_i hj
    rw [List.getElem?_append] at hv
    split at hv
    · rename_i hj2
      have := World.rangeAt_setCells_same w r p us ht (j - p) v hv
      rwa [show p + (j - p) = 0 + j by omega] at this
    · rename_i hj2
      rw [List.getElem?_drop, show p + us.length + (j - p - us.length) = j by omega] at hv
      exact hout (.inr (by omega)) hv

theorem RVss_set {n : Nat} : ∀ {xs : List (List V)} {ys : List Value}, RVss I ρ w n xs ys → ∀ (i : Nat) (r : List V) (zs : List Value), i < xs.length → r.length = n → RVs I ρ w r zs → (∀ y ∈ zs, y.oneCell' = true) →
    RVss I ρ w n (xs.set i r) (spl ys (i * n) zs)
  | [], _, _, i, _, _, hi, _, _, _ => by simp at hi
  | q :: rs, ys, h, i, r, zs, hi, hr, hz, h1 => by
    simp only [RVss] at h
    obtain ⟨y, z, rfl, g1, g2, g4, g3⟩ := h
    have hl := RVs_len g2
    have hlz := RVs_len hz
    cases i with
    | zero =>
      simp only [List.set_cons_zero, RVss]
      refine ⟨zs, z, ?_, hr, hz, h1, g3⟩
      unfold spl
      simp only [Nat.zero_mul, List.take_zero, List.nil_append, Nat.zero_add]
      rw [List.drop_append, List.drop_eq_nil_of_le (by omega), show zs.length - y.length = 0 by omega]
      simp
    | succ i =>
      simp only [List.length_cons] at hi
      simp only [List.set_cons_succ, RVss]
      refine ⟨y, spl z (i * n) zs, ?_, g1, g2, g4, RVss_set g3 i r zs (by omega) hr hz h1⟩
      unfold spl
      have e : (i + 1) * n = y.length + i * n := by rw [hl, g1, Nat.add_mul]; omega
      rw [e, List.take_length_add_append, Nat.add_assoc, List.drop_length_add_append]
      simp [List.append_assoc]

theorem spl_row {ys us : List Value} {p n q : Nat} (hq : q + us.length ≤ n) (hn : p + n ≤ ys.length) :
    spl ys p (((ys.drop p).take n).take q ++ us ++ ((ys.drop p).take n).drop (q + us.length)) = spl ys (p + q) us := by
  have hl : ((ys.drop p).take n).length = n := by simp; omega
  apply List.ext_getElem?
  intro j
  unfold spl
  have l1 : (ys.take p).length = p := by simp; omega
  have l2 : (ys.take (p + q)).length = p + q := by simp; omega
  have l3 : (((ys.drop p).take n).take q).length = q := by simp; omega
  have l4 : (((ys.drop p).take n).drop (q + us.length)).length = n - (q + us.length) := by rw [List.length_drop, hl]
  have l5 : (((ys.drop p).take n).take q ++ us ++ ((ys.drop p).take n).drop (q + us.length)).length = n := by simp only [List.length_append, l3, l4]; omega
  rw [l5]
  simp only [List.getElem?_append, List.length_append, l1, l2, l3, l4, List.getElem?_take, List.getElem?_drop]
  by_cases c1 : j < p
  · simp [c1, show j < p + q by omega, show j < p + (q + us.length + (n - (q + us.length))) by omega, show j < p + q + us.length by omega, show j < p + n by omega]
  · by_cases c2 : j < p + q
    · have : p + (j - p) = j := by omega
      simp [c1, c2, show j - p < q by omega, show j - p < q + us.length by omega, show j < p + (q + us.length + (n - (q + us.length))) by omega, show j < p + q + us.length by omega, this, show j - p < n by omega, show j < p + n by omega]
    · by_cases c3 : j < p + q + us.length
      · simp [c1, c2, c3, show ¬ (j - p < q) by omega, show j - p < q + us.length by omega, show j < p + (q + us.length + (n - (q + us.length))) by omega, show j - p - q = j - (p + q) by omega, show j < p + n by omega]
      · by_cases c4 : j < p + n
        · simp [c1, c2, c3, show ¬ (j - p < q) by omega, show ¬ (j - p < q + us.length) by omega, show j < p + (q + us.length + (n - (q + us.length))) by omega,
            show q + us.length + (j - p - (q + us.length)) < n by omega, show p + (q + us.length + (j - p - (q + us.length))) = j by omega, show p + q + us.length + (j - (p + q + us.length)) = j by omega, c4]
        · simp [c1, c2, c3, c4, show ¬ (j - p < q) by omega, show ¬ (j - p < q + us.length) by omega, show ¬ (j < p + (q + us.length + (n - (q + us.length)))) by omega,
            show p + n + (j - (p + (q + us.length + (n - (q + us.length))))) = j by omega, show p + q + us.length + (j - (p + q + us.length)) = j by omega]

theorem cset_sound {R : Type} {P : Program} {b : Blk} {z i q : Nat} {vs : List V} {K : V → Option R} {r : R} {ys us : List Value} (hF : Flat I ρ w b.c ys) (hv : RVs I ρ w vs us) (hv' : (∃ cs, b.c = .agg cs) ∨ RVs I nil w vs us) (hfit : Fits P b z)
    (h : cset b.c z i q vs K = some r) :
    ∃ c, K c = some r ∧ Flat I ρ w c (spl ys (i * z + q) us) ∧ lenC c = lenC b.c ∧ Fits P { b with c := c } z ∧ i * z + q + us.length ≤ ys.length ∧ ∀ y ∈ us, y.oneCell' = true := by
  have hlu := RVs_len hv
  unfold cset at h
  split at h
  · rename_i k xs hc
    split at h
    · rename_i k' x
      obtain ⟨hz, h⟩ := cond_eq.1 h
      obtain ⟨x0, hx, h⟩ := bnd_eq.1 h
      simp only [Bool.and_eq_true, decide_eq_true_eq] at hz
      obtain ⟨⟨hz1, hz2⟩, hk⟩ := hz
      have hz1 := Nat.eq_of_beq_eq_true hz1
      have hz2 := Nat.eq_of_beq_eq_true hz2
      simp only [RVs, RV] at hv
      obtain ⟨y, r', rfl, rfl, rfl⟩ := hv
      rw [hc] at hF
      simp only [Flat] at hF
      have hi := (List.getElem?_eq_some_iff.1 hx).1
      refine ⟨_, h, ?_, by rw [hc]; simp [lenC], ?_, by subst hF; rw [hz1, hz2]; simp; omega, by simp [Value.oneCell']⟩
      · simp only [Flat]
        subst hF
        unfold spl
        rw [hz1, hz2, List.map_set, List.set_eq_take_append_cons_drop, if_pos (by simpa using hi)]
        simp [hk]
      · unfold Fits at hfit ⊢
        rw [hc] at hfit
        exact hfit
    · cases h
  · rename_i xs hc
    split at h
    · rename_i x
      obtain ⟨hz, h⟩ := cond_eq.1 h
      obtain ⟨x0, hx, h⟩ := bnd_eq.1 h
      simp only [Bool.and_eq_true] at hz
      obtain ⟨hz1, hz2⟩ := hz
      have hz1 := Nat.eq_of_beq_eq_true hz1
      have hz2 := Nat.eq_of_beq_eq_true hz2
      simp only [RVs, RV] at hv
      obtain ⟨y, r', rfl, rfl, rfl⟩ := hv
      rw [hc] at hF
      simp only [Flat] at hF
      have hi := (List.getElem?_eq_some_iff.1 hx).1
      refine ⟨_, h, ?_, by rw [hc]; simp [lenC], ?_, by subst hF; rw [hz1, hz2]; simp; omega, by simp [Value.oneCell']⟩
      · simp only [Flat]
        subst hF
        unfold spl
        rw [hz1, hz2, List.map_set, List.set_eq_take_append_cons_drop, if_pos (by simpa using hi)]
        simp
      · unfold Fits at hfit ⊢
        rw [hc] at hfit
        exact hfit
    · cases h
  · rename_i n xs hc
    obtain ⟨hz, h⟩ := cond_eq.1 h
    obtain ⟨x0, hx, h⟩ := bnd_eq.1 h
    simp only [Bool.and_eq_true] at hz
    obtain ⟨⟨hz1, hz2⟩, hz3⟩ := hz
    have hz1 := Nat.eq_of_beq_eq_true hz1
    have hz2 := Nat.le_of_ble_eq_true hz2
    have h1 := oneCells_of hv hz3
    rw [hc] at hF
    simp only [Flat] at hF
    obtain ⟨g1, g2, g3⟩ := RVss_get hF _ _ hx
    have hi := (List.getElem?_eq_some_iff.1 hx).1
    refine ⟨_, h, ?_, by rw [hc]; simp [lenC], ?_, by rw [hz1]; omega, h1⟩
    · simp only [Flat]
      have hv'' : RVs I nil w vs us := by
        rcases hv' with ⟨cs, hcs⟩ | hv'
        · rw [hc] at hcs; cases hcs
        · exact hv'
      have hrow := RVs_splice q g2 hv''
      have := RVss_set hF i _ _ hi (by unfold splice; simp; omega) hrow (fun y hy => by
        rcases List.mem_append.1 hy with hy | hy
        · rcases List.mem_append.1 hy with hy | hy
          · exact RVss_one hF y (List.mem_of_mem_drop (List.mem_of_mem_take (List.mem_of_mem_take hy)))
          · exact h1 y hy
        · exact RVss_one hF y (List.mem_of_mem_drop (List.mem_of_mem_take (List.mem_of_mem_drop hy))))
      rw [← hlu, spl_row (by omega) g3] at this
      rw [hz1]
      exact this
    · unfold Fits at hfit ⊢
      rw [hc] at hfit
      exact hfit
  · rename_i sh xs hc
    obtain ⟨hz, h⟩ := cond_eq.1 h
    obtain ⟨x0, hx, h⟩ := bnd_eq.1 h
    obtain ⟨y0, hy0, h⟩ := bind_eq.1 h
    simp only [Bool.and_eq_true] at hz
    obtain ⟨⟨hz1, hz2⟩, hz3⟩ := hz
    have hz1 := Nat.eq_of_beq_eq_true hz1
    have hz2 := Nat.le_of_ble_eq_true hz2
    have h1 := oneCells_of hv hz3
    rw [hc] at hF
    simp only [Flat] at hF
    have hF := Rows_iff (ρ := nil).1 hF
    obtain ⟨g1, g2, g3⟩ := RVss_get hF i (enc sh x0) (by rw [List.getElem?_map, hx]; rfl)
    have hi := (List.getElem?_eq_some_iff.1 hx).1
    refine ⟨_, h, ?_, by rw [hc]; simp [lenC], ?_, by rw [hz1]; omega, h1⟩
    · simp only [Flat]
      have hv'' : RVs I nil w vs us := by
        rcases hv' with ⟨cs, hcs⟩ | hv'
        · rw [hc] at hcs; cases hcs
        · exact hv'
      have hrow := (RE_iff (ρ := nil) sh y0 _).1 (dec_sound sh _ y0 _ hy0 (RVs_splice q g2 hv''))
      have := RVss_set hF i _ _ (by simpa using hi) (enc_len sh y0) hrow (fun y hy => by
        rcases List.mem_append.1 hy with hy | hy
        · rcases List.mem_append.1 hy with hy | hy
          · exact RVss_one hF y (List.mem_of_mem_drop (List.mem_of_mem_take (List.mem_of_mem_take hy)))
          · exact h1 y hy
        · exact RVss_one hF y (List.mem_of_mem_drop (List.mem_of_mem_take (List.mem_of_mem_drop hy))))
      rw [← hlu, spl_row (by omega) g3, ← List.map_set] at this
      rw [hz1]
      exact Rows_iff.2 this
    · unfold Fits at hfit ⊢
      rw [hc] at hfit
      exact hfit
  · rename_i cs hc
    obtain ⟨hz, h⟩ := cond_eq.1 h
    simp only [Bool.and_eq_true] at hz
    obtain ⟨⟨hz1, hz2⟩, hz3⟩ := hz
    have hz1 := Nat.eq_of_beq_eq_true hz1
    have hz2 := Nat.le_of_ble_eq_true hz2
    have h1 := oneCells_of hv hz3
    rw [hc] at hF
    simp only [Flat] at hF
    have hly := RVs_len hF.1
    refine ⟨_, h, ?_, by rw [hc]; simp [lenC], by simp [Fits], by rw [hz1]; omega, h1⟩
    simp only [Flat, hz1, Nat.zero_mul, Nat.zero_add]
    refine ⟨by have := RVs_splice q hF.1 hv; rw [← hlu] at this; exact this, fun y hy => ?_⟩
    unfold spl at hy
    rcases List.mem_append.1 hy with hy | hy
    · rcases List.mem_append.1 hy with hy | hy
      · exact hF.2 y (List.mem_of_mem_take hy)
      · exact h1 y hy
    · exact hF.2 y (List.mem_of_mem_drop hy)
  · cases h

/-! Slices of one's own, seen as frozen. -/
theorem map_get {α : Type} (f : α → Value) (xs : List α) (a0 n : Nat) : ((xs.drop a0).take n).map f = ((xs.map f).drop a0).take n := by simp
theorem RVss_take {n : Nat} : ∀ {xs : List (List V)} {ys : List Value} (m : Nat), RVss I ρ w n xs ys → RVss I ρ w n (xs.take m) (ys.take (m * n))
  | xs, ys, 0, _ => by simp [RVss]
  | [], ys, m + 1, h => by simp only [RVss] at h; subst h; simp [RVss]
  | r :: rs, ys, m + 1, h => by
    simp only [RVss] at h
    obtain ⟨y, z, rfl, h1, h2, h3, h4⟩ := h
    simp only [List.take_succ_cons, RVss]
    refine ⟨y, z.take (m * n), ?_, h1, h2, h3, RVss_take m h4⟩
    have e : (m + 1) * n = y.length + m * n := by rw [RVs_len h2, h1, Nat.add_mul]; omega
    rw [e, List.take_length_add_append]
theorem RVss_drop {n : Nat} : ∀ {xs : List (List V)} {ys : List Value} (m : Nat), RVss I ρ w n xs ys → RVss I ρ w n (xs.drop m) (ys.drop (m * n))
  | xs, ys, 0, h => by simpa using h
  | [], ys, m + 1, h => by simp only [RVss] at h; subst h; simp [RVss]
  | r :: rs, ys, m + 1, h => by
    simp only [RVss] at h
    obtain ⟨y, z, rfl, h1, h2, h3, h4⟩ := h
    have e : (m + 1) * n = y.length + m * n := by rw [RVs_len h2, h1, Nat.add_mul]; omega
    rw [e, List.drop_length_add_append]
    simpa using RVss_drop m h4

theorem view_sl {I' : Nat → Prop} {P : Program} {k : Tk} {b : Blk} {t off len : Nat} {x : Value} {u : V} (hb : BlkRel P I ρ w k b) (hk : ρ t = some k) (hI : I' k.r) (st : Stays I I' ρ ρ w w) (hx : RV I ρ w (.sl t k.z off len) x)
    (h : csub b.c off len = some u) : RV I' nil w u x := by
  simp only [RV] at hx
  obtain ⟨k', cap, ty, n, p, rfl, hp, h1, h2, h3, h4, h5, h6⟩ := hx
  rw [hk] at h1; cases h1
  obtain ⟨cs, fz, ys, q1, q2, q3, q4, q5, q6⟩ := hb
  unfold Fits at q6
  cases hc : b.c with
  | li kk xs =>
    rw [hc] at q2 q5 q6 h
    simp only [csub, Option.some.injEq] at h
    subst h
    simp only [Flat, lenC] at q2 q5
    have hl : ((xs.drop off).take len).length = len := by simp; omega
    simp only [RV]
    refine ⟨_, cap, by rw [hl], by omega, ?_⟩
    rcases hp with rfl | rfl
    case inr => exact .inl (by rw [List.map_eq_nil_iff]; exact List.eq_nil_of_length_eq_zero (by omega))
    refine .inr ⟨k.r, off * k.z, rfl, hI, fun j y hy => ?_⟩
    rw [map_get] at hy
    have := q3 _ _ (by rw [q2]; exact (getElem_drop_take hy).1)
    rw [q6.2.2]
    simpa using this
  | ls xs =>
    rw [hc] at q2 q5 q6 h
    simp only [csub, Option.some.injEq] at h
    subst h
    simp only [Flat, lenC] at q2 q5
    have hl : ((xs.drop off).take len).length = len := by simp; omega
    simp only [RV]
    refine ⟨_, cap, by rw [hl], by omega, ?_⟩
    rcases hp with rfl | rfl
    case inr => exact .inl (by rw [List.map_eq_nil_iff]; exact List.eq_nil_of_length_eq_zero (by omega))
    refine .inr ⟨k.r, off * k.z, rfl, hI, fun j y hy => ?_⟩
    rw [map_get] at hy
    have := q3 _ _ (by rw [q2]; exact (getElem_drop_take hy).1)
    rw [q6.2.2]
    simpa using this
  | lg m xs =>
    rw [hc] at q2 q5 q6 h
    simp only [csub, Option.some.injEq] at h
    subst h
    simp only [Flat, lenC] at q2 q5
    have hl : ((xs.drop off).take len).length = len := by simp; omega
    have hz : k.z = m := q6.2
    simp only [RV]
    refine ⟨_, cap, _, by rw [hl], by omega, RVss.stays st.nil m _ _ (RVss_take len (RVss_drop off q2)), ?_⟩
    rcases hp with rfl | rfl
    case inr => exact .inl (by have : len = 0 := by omega
                               subst this; simp)
    refine .inr ⟨k.r, off * k.z, rfl, hI, fun j y hy => ?_⟩
    have := q3 _ _ (getElem_drop_take hy).1
    rw [hz]
    simpa using this
  | lt sh xs =>
    rw [hc] at q2 q5 q6 h
    simp only [csub, Option.some.injEq] at h
    subst h
    simp only [Flat, lenC] at q2 q5
    have hl : ((xs.drop off).take len).length = len := by simp; omega
    have hz : k.z = sh.sz := q6.2
    have q2 := Rows_iff (ρ := nil).1 q2
    rw [RV_lt]
    simp only [RV, List.length_map]
    refine ⟨_, cap, _, by rw [hl], by omega, by have := RVss.stays st.nil sh.sz _ _ (RVss_take len (RVss_drop off q2)); rwa [← List.map_drop, ← List.map_take] at this, ?_⟩
    rcases hp with rfl | rfl
    case inr => exact .inl (by have : len = 0 := by omega
                               subst this; simp)
    refine .inr ⟨k.r, off * k.z, rfl, hI, fun j y hy => ?_⟩
    have := q3 _ _ (getElem_drop_take hy).1
    rw [hz]
    simpa using this
  | agg cs => rw [hc] at h; simp [csub] at h
  | _ => rw [hc] at q2; exact q2.elim

mutual
theorem view_sound {I' : Nat → Prop} (S : Sim E ρ I T H a w) (st : Stays I I' ρ ρ w w) : ∀ (v : V) (u : V) (x : Value), view H v = some u → (∀ t ∈ toks v, ∀ b k, at_ H t = some b → ρ t = some k → I' k.r) → RV I ρ w v x → RV I' nil w u x
  | .sl t z off len, u, x, h, hI, hx => by
    simp only [view] at h
    obtain ⟨b, hb, h⟩ := bind_eq.1 h
    obtain ⟨k, g1, g2, g3, g4⟩ := S.live t b hb
    have hz : k.z = z := by
      simp only [RV] at hx
      obtain ⟨k', cap, ty, n, p, _, _, h1, h2, _⟩ := hx
      rw [g1] at h1; cases h1; exact h2
    subst hz
    exact view_sl g3 g1 (hI t (by simp [toks]) b k hb g1) st hx h
  | .ptr .., u, x, h, _, _ => by simp [view] at h
  | .agg cs, u, x, h, hI, hx => by
    simp only [view, Option.map_eq_some_iff] at h
    obtain ⟨us, hu, rfl⟩ := h
    simp only [RV] at hx ⊢
    obtain ⟨ys, rfl, h1, h2⟩ := hx
    exact ⟨ys, rfl, viewL_sound S st cs us ys hu (fun t ht => hI t (by simpa [toks] using ht)) h1, h2⟩
  | .tup cs, u, x, h, hI, hx => by
    simp only [view, Option.map_eq_some_iff] at h
    obtain ⟨us, hu, rfl⟩ := h
    simp only [RV] at hx ⊢
    obtain ⟨ys, rfl, h1⟩ := hx
    exact ⟨ys, rfl, viewL_sound S st cs us ys hu (fun t ht => hI t (by simpa [toks] using ht)) h1⟩
  | .fn f p q, u, x, h, hI, hx => by
    simp only [view] at h
    obtain ⟨us, hu, h⟩ := bind_eq.1 h
    simp only [Option.map_eq_some_iff] at h
    obtain ⟨vs, hv, rfl⟩ := h
    simp only [RV] at hx ⊢
    obtain ⟨ys, zs, rfl, h1, h2⟩ := hx
    exact ⟨ys, zs, rfl, viewL_sound S st p us ys hu (fun t ht => hI t (by simp [toks, ht])) h1, viewL_sound S st q vs zs hv (fun t ht => hI t (by simp [toks, ht])) h2⟩
  | .yl t, u, x, h, _, hx => by simp only [view] at h; cases h
  | .s v, u, x, h, _, hx => by simp only [view, Option.some.injEq] at h; subst h; simpa only [RV] using hx
  | .li k xs, u, x, h, _, hx => by simp only [view, Option.some.injEq] at h; subst h; have := RV.stays st _ _ hx; simpa only [RV] using this
  | .ls xs, u, x, h, _, hx => by simp only [view, Option.some.injEq] at h; subst h; have := RV.stays st _ _ hx; simpa only [RV] using this
  | .lg n xs, u, x, h, _, hx => by simp only [view, Option.some.injEq] at h; subst h; have := RV.stays st _ _ hx; simpa only [RV] using this
  | .lt sh xs, u, x, h, _, hx => by simp only [view, Option.some.injEq] at h; subst h; have := RV.stays st _ _ hx; simpa only [RV] using this
  | .tt v, u, x, h, _, hx => by simp only [view, Option.some.injEq] at h; subst h; have := RV.stays st _ _ hx; simpa only [RV] using this
  | .lp cs o, u, x, h, _, hx => by simp only [view, Option.some.injEq] at h; subst h; have := RV.stays st _ _ hx; simpa only [RV] using this
theorem viewL_sound {I' : Nat → Prop} (S : Sim E ρ I T H a w) (st : Stays I I' ρ ρ w w) : ∀ (v : List V) (u : List V) (x : List Value), viewL H v = some u → (∀ t ∈ toksL v, ∀ b k, at_ H t = some b → ρ t = some k → I' k.r) → RVs I ρ w v x → RVs I' nil w u x
  | [], u, x, h, _, hx => by simp only [viewL, Option.some.injEq] at h; subst h; simpa [RVs] using hx
  | v :: vs, u, x, h, hI, hx => by
    simp only [viewL] at h
    obtain ⟨p, hp, h⟩ := bind_eq.1 h
    simp only [Option.map_eq_some_iff] at h
    obtain ⟨q, hq, rfl⟩ := h
    simp only [RVs] at hx ⊢
    obtain ⟨y, r, rfl, h1, h2⟩ := hx
    exact ⟨y, r, rfl, view_sound S st v p y hp (fun t ht => hI t (by simp [toksL, ht])) h1, viewL_sound S st vs q r hq (fun t ht => hI t (by simp [toksL, ht])) h2⟩
end
end
end Go.PM
