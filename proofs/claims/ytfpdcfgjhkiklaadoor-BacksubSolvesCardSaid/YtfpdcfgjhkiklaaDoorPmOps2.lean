/- Each operation of the evaluator is the machine's: copies, arithmetic, addresses, reads. -/
import Derived.Test.YtfpdcfgjhkiklaaDoorPmOps
set_option linter.unusedSimpArgs false
set_option linter.unusedVariables false
set_option autoImplicit false
namespace Go.PM

theorem bnd_eq {α β : Type} {x : Option α} {k : α → Option β} {r : β} : bnd x k = some r ↔ ∃ v, x = some v ∧ k v = some r := by unfold bnd; exact Option.bind_eq_some_iff
theorem grd_eq {β : Type} {b : Bool} {k : Option β} {r : β} : grd b k = some r ↔ b = true ∧ k = some r := by unfold grd; cases b <;> simp
theorem cond_eq {β : Type} {b : Bool} {k : Option β} {r : β} : (bif b then k else none) = some r ↔ b = true ∧ k = some r := by cases b <;> simp
theorem bind_eq {α β : Type} {x : Option α} {k : α → Option β} {r : β} : x.bind k = some r ↔ ∃ v, x = some v ∧ k v = some r := Option.bind_eq_some_iff
theorem br_eq {β : Type} {b : Bool} {k l r : Option β} : br b k l = r ↔ (bif b then k else l) = r := by unfold br; exact Iff.rfl

section
variable {E : Env} {ρ : Nat → Option Tk} {I : Nat → Prop} {T : Nat → Option V} {H : Heap} {a : Act} {w : World} {o : Oper} {e : Eff} {tok : Nat}

theorem d_move {x : Operand} (hop : o.op = .move x ∨ o.op = .assign x) (S : Sim E ρ I T H a w) (hd : dOk o.dst E.N = true) (h : eff E.P o T H tok some = some e) : Done E o T H a w e := by
  have h' : (ev T x).bind (fun v => some ({ v := v } : Eff)) = some e := by
    unfold eff at h
    rcases hop with hop | hop <;> (rw [hop] at h; exact h)
  obtain ⟨v, hv, he⟩ := bind_eq.1 h'
  cases he
  refine Done.value S hd rfl rfl (ev_sound S hv) ?_
  rcases hop with hop | hop <;> simp [execOp, hop]

theorem d_pick {c x y : Operand} (hop : o.op = .pick c x y) (S : Sim E ρ I T H a w) (hd : dOk o.dst E.N = true) (h : eff E.P o T H tok some = some e) : Done E o T H a w e := by
  unfold eff at h
  rw [hop] at h
  simp only at h
  split at h
  · rename_i b hc
    have hcv := ev_sound S hc
    simp only [RV] at hcv
    rw [br_eq] at h
    have hr : (execOp a.eval o).run E.P w = .ok (.value (if b = true then a.eval x else a.eval y)) w := by simp [execOp, hop, hcv, asBool]
    cases b
    · obtain ⟨v, hv, he⟩ := bind_eq.1 (by simpa using h)
      cases he
      exact Done.value S hd rfl rfl (ev_sound S hv) (by simpa using hr)
    · obtain ⟨v, hv, he⟩ := bind_eq.1 (by simpa using h)
      cases he
      exact Done.value S hd rfl rfl (ev_sound S hv) (by simpa using hr)
  · cases h

theorem d_nilCheck {x : Operand} (hop : o.op = .nilCheck x) (S : Sim E ρ I T H a w) (hd : dOk o.dst E.N = true) (h : eff E.P o T H tok some = some e) : Done E o T H a w e := by
  unfold eff at h
  rw [hop] at h
  simp only at h
  split at h
  · rename_i k z i off hv
    have hx := ev_sound S hv
    cases h
    refine Done.value S hd rfl rfl hx ?_
    simp only [RV] at hx
    obtain ⟨k, hx, _⟩ := hx
    simp [execOp, hop, hx]
  · rename_i c off hv
    have hx := ev_sound S hv
    cases h
    refine Done.value S hd rfl rfl hx ?_
    simp only [RV] at hx
    obtain ⟨b, p, ys, hx, _⟩ := hx
    simp [execOp, hop, hx]
  · rename_i f p q hv
    have hx := ev_sound S hv
    cases h
    refine Done.value S hd rfl rfl hx ?_
    simp only [RV] at hx
    obtain ⟨ys, zs, hx, _⟩ := hx
    simp [execOp, hop, hx]
  · cases h

theorem add_none (b p n : Nat) : (⟨b, p, none⟩ : Addr).add n = ⟨b, p + n, none⟩ := Addr.add_mid b p n

theorem d_fieldAddr {t : TypeId} {x : Operand} {f : Nat} (hop : o.op = .fieldAddr t x f) (S : Sim E ρ I T H a w) (hd : dOk o.dst E.N = true) (h : eff E.P o T H tok some = some e) : Done E o T H a w e := by
  unfold eff at h
  rw [hop] at h
  simp only at h
  split at h
  · rename_i fields hu
    obtain ⟨fd, hf, h⟩ := bind_eq.1 h
    cases hz : Nat.beq (szOf E.P fd.type) 0 with
    | true => rw [hz] at h; cases h
    | false =>
      rw [hz] at h
      simp only [cond_false] at h
      have hz' : szOf E.P fd.type ≠ 0 := fun e0 => by rw [e0] at hz; cases hz
      have hi : ∃ i, E.P.info? fd.type = some i := by
        cases hi : E.P.info? fd.type with
        | none => exact absurd (by simp [szOf, hi]) hz'
        | some i => exact ⟨i, rfl⟩
      obtain ⟨i, hi⟩ := hi
      have hsz : i.size ≠ 0 := by rw [← szOf_of hi]; exact hz'
      have hrun : ∀ b p, (Instr.fieldAt t (.pointer (some ⟨b, p, none⟩)) f).run E.P w = .ok (.pointer (some ⟨b, p + fd.offset, none⟩)) w := fun b p => by
        simp [Instr.fieldAt, run_underlying hu, hf, Instr.sureAddr, fieldPlace, sizeOf, typeInfo, hi, hsz, add_none]
      split at h
      · rename_i k z j off hv
        have hx := ev_sound S hv
        cases h
        simp only [RV] at hx
        obtain ⟨k, hx, h1, h2⟩ := hx
        refine Done.value S hd rfl rfl (x := .pointer (some ⟨k.r, j * z + (off + fd.offset), none⟩)) ?_ ?_
        · simp only [RV]; exact ⟨k, rfl, h1, h2⟩
        · simp [execOp, hop, hx, hrun, Nat.add_assoc]
      · rename_i c off hv
        have hx := ev_sound S hv
        cases h
        simp only [RV] at hx
        obtain ⟨b, p, ys, hx, h1, h2, h3, h4⟩ := hx
        refine Done.value S hd rfl rfl (x := .pointer (some ⟨b, p + (off + fd.offset), none⟩)) ?_ ?_
        · simp only [RV]; exact ⟨b, p, ys, rfl, h1, h2, h3, h4⟩
        · simp [execOp, hop, hx, hrun, Nat.add_assoc]
      · cases h
  · cases h

theorem d_field {t : TypeId} {x : Operand} {f : Nat} (hop : o.op = .field t x f) (S : Sim E ρ I T H a w) (hd : dOk o.dst E.N = true) (h : eff E.P o T H tok some = some e) : Done E o T H a w e := by
  unfold eff at h
  rw [hop] at h
  simp only at h
  split at h
  · rename_i fields hu
    obtain ⟨fd, hf, h⟩ := bind_eq.1 h
    split at h
    · rename_i cs hv
      have hx := ev_sound S hv
      obtain ⟨v, hp, h⟩ := bind_eq.1 h
      cases h
      simp only [RV] at hx
      obtain ⟨ys, hx, h1, h2⟩ := hx
      obtain ⟨y, hr, hrv⟩ := part_run (w := w) hp h1 h2
      refine Done.value S hd rfl rfl hrv ?_
      simp [execOp, hop, hx, Instr.field, run_underlying hu, hf, asAgg, hr]
    · cases h
  · cases h

theorem d_extract {x : Operand} {i : Nat} (hop : o.op = .extract x i) (S : Sim E ρ I T H a w) (hd : dOk o.dst E.N = true) (h : eff E.P o T H tok some = some e) : Done E o T H a w e := by
  unfold eff at h
  rw [hop] at h
  simp only at h
  split at h
  · rename_i vs hv
    have hx := ev_sound S hv
    obtain ⟨v, hp, h⟩ := bind_eq.1 h
    cases h
    simp only [RV] at hx
    obtain ⟨ys, hx, h1⟩ := hx
    obtain ⟨y, hy, hrv⟩ := RVs_get h1 i v hp
    refine Done.value S hd rfl rfl hrv ?_
    simp [execOp, hop, hx, Instr.extract, hy]
  · cases h

theorem d_makeFunc {f : FuncId} {x y : Array Operand} (hop : o.op = .makeFunc (.func f) x y) (S : Sim E ρ I T H a w) (hd : dOk o.dst E.N = true) (h : eff E.P o T H tok some = some e) : Done E o T H a w e := by
  unfold eff at h
  rw [hop] at h
  simp only at h
  obtain ⟨us, hu, h⟩ := bind_eq.1 h
  obtain ⟨vs, hv, h⟩ := bind_eq.1 h
  cases h
  refine Done.value S hd rfl rfl (x := .func (.func f) (x.map a.eval) (y.map a.eval)) ?_ ?_
  · simp only [RV]
    refine ⟨_, _, ?_, evL_sound S hu, evL_sound S hv⟩
    congr 1 <;> (apply Array.ext'; simp)
  · simp [execOp, hop, Instr.makeFunc]

theorem intOf_eq (S : Sim E ρ I T H a w) {x : Operand} {n : Int} (h : intOf T x = some n) : ∃ k, a.eval x = .int k n := by
  unfold intOf at h
  split at h
  · rename_i k m hv
    cases h
    have := ev_sound S hv
    simp only [RV] at this
    exact ⟨k, this⟩
  · cases h

theorem ix_eq {α : Type} {xs : List α} {i : Int} {x : α} (h : ix xs i = some x) : 0 ≤ i ∧ i < xs.length ∧ xs[i.toNat]? = some x := by
  unfold ix at h
  split at h
  · rename_i h0
    have := (List.getElem?_eq_some_iff.1 h).1
    exact ⟨h0, by omega, h⟩
  · cases h

theorem d_index {t : TypeId} {x y : Operand} (hop : o.op = .index t x y) (S : Sim E ρ I T H a w) (hd : dOk o.dst E.N = true) (h : eff E.P o T H tok some = some e) : Done E o T H a w e := by
  unfold eff at h
  rw [hop] at h
  simp only at h
  split at h
  · rename_i hu
    split at h
    · rename_i i hi
      obtain ⟨k, hy⟩ := intOf_eq S hi
      split at h
      · rename_i b hv
        have hx := ev_sound S hv
        simp only [RV] at hx
        obtain ⟨c, hc, h⟩ := bnd_eq.1 h
        cases h
        obtain ⟨h0, h1, h2⟩ := ix_eq hc
        refine Done.value S hd rfl rfl (x := .int .u8 c.toNat) (by simp [RV]) ?_
        have hg : b[i.toNat]? = some c := by
          rw [← h2]
          rw [Array.getElem?_toList]
          rfl
        simp [execOp, hop, hx, hy, Instr.index, asIntOf, run_underlying hu, h0, hg]
      · cases h
    · cases h
  · cases h
end
end Go.PM
