/- An operation in continuation style: its effect, and what goes on behind it; it hangs on the state only where it looks. -/
import Derived.Test.YtfpdcfgjhkiklaaDoorPmOps8
set_option linter.unusedSimpArgs false
set_option linter.unusedVariables false
set_option autoImplicit false
namespace Go.PM
section
variable {E : Env} {ρ : Nat → Option Tk} {I : Nat → Prop} {T : Nat → Option V} {H : Heap} {a : Act} {w : World} {o : Oper} {e : Eff} {tok : Nat}

theorem eff_done (S : Sim E ρ I T H a w) (hd : dOk o.dst E.N = true) (h : eff E.P o T H tok some = some e) : Done E o T H a w e := by
  have other : (scalar E.P T o).bind (fun v => some ({ v := .s v } : Eff)) = some e → Done E o T H a w e := fun h => by
    obtain ⟨v, hv, h⟩ := bind_eq.1 h
    cases h
    exact done_scalar S hd hv rfl rfl
  cases hop : o.op with
  | move x => exact d_move (.inl hop) S hd h
  | assign x => exact d_move (.inr hop) S hd h
  | pick c x y => exact d_pick hop S hd h
  | alloc t => exact d_alloc hop S hd h
  | box t x => exact d_box hop S hd h
  | build t ps => exact d_build hop S hd h
  | buildSlice t n ps => exact d_buildSlice hop S hd h
  | load t x => exact d_load hop S hd h
  | store t x y => exact d_store hop S hd h
  | nilCheck x => exact d_nilCheck hop S hd h
  | fieldAddr t x f => exact d_fieldAddr hop S hd h
  | field t x f => exact d_field hop S hd h
  | indexAddr t x y => exact d_indexAddr hop S hd h
  | index t x y => exact d_index hop S hd h
  | extract x i => exact d_extract hop S hd h
  | slice t x lo hi mx => exact d_slice hop S hd h
  | makeSlice t x y => exact d_makeSlice hop S hd h
  | makeFunc fn x y =>
    cases fn with
    | func f => exact d_makeFunc hop S hd h
    | _ => unfold eff at h; rw [hop] at h; cases h
  | binOp op t x y u => exact d_binOp hop S hd h
  | convert s d x => exact d_convert hop S hd h
  | call c =>
    obtain ⟨callee, args, argTypes⟩ := c
    cases callee with
    | value f => unfold eff at h; rw [hop] at h; cases h
    | invoke r m => unfold eff at h; rw [hop] at h; cases h
    | builtin b =>
      cases b with
      | len => exact d_len hop S hd h
      | append => exact d_append hop S hd h
      | min => exact d_min hop S hd h
      | max => exact d_max hop S hd h
      | copy => exact d_copy hop S hd h
      | clear => exact d_clear hop S hd h
      | _ => unfold eff at h; rw [hop] at h; exact other h
  | _ => unfold eff at h; rw [hop] at h; exact other h

/-- A step in continuation style. -/
def Cps {α : Type} (f : (R : Type) → (α → Option R) → Option R) : Prop := ∀ (R : Type) (K : α → Option R) (r : R), f R K = some r → ∃ v, K v = some r ∧ ∀ (R' : Type) (K' : α → Option R'), f R' K' = K' v

theorem cps_pure {α : Type} (v : α) : Cps (fun _ K => K v) := fun _ _ _ h => ⟨v, h, fun _ _ => rfl⟩
theorem cps_none {α : Type} : Cps (α := α) (fun _ _ => none) := fun _ _ _ h => by cases h
theorem cps_bind {α β : Type} {x : Option β} {f : β → (R : Type) → (α → Option R) → Option R} (hf : ∀ b, Cps (f b)) : Cps (fun R K => x.bind fun b => f b R K) := fun R K r h => by
  cases x with
  | none => cases h
  | some b => exact hf b R K r h
theorem cps_bnd {α β : Type} {x : Option β} {f : β → (R : Type) → (α → Option R) → Option R} (hf : ∀ b, Cps (f b)) : Cps (fun R K => bnd x fun b => f b R K) := fun R K r h => by
  obtain ⟨b, rfl, h'⟩ := bnd_eq.1 h
  obtain ⟨v, g1, g2⟩ := hf b R K r h'
  exact ⟨v, g1, fun R' K' => by unfold bnd; exact g2 R' K'⟩
theorem cps_cond {α : Type} {b : Bool} {f g : (R : Type) → (α → Option R) → Option R} (hf : Cps f) (hg : Cps g) : Cps (fun R K => bif b then f R K else g R K) := fun R K r h => by
  cases b with
  | true => exact hf R K r h
  | false => exact hg R K r h
theorem cps_br {α : Type} {b : Bool} {f g : (R : Type) → (α → Option R) → Option R} (hf : Cps f) (hg : Cps g) : Cps (fun R K => br b (f R K) (g R K)) := fun R K r h => by
  have h' : (bif b then f R K else g R K) = some r := br_eq.1 h
  obtain ⟨v, g1, g2⟩ := cps_cond hf hg R K r h'
  exact ⟨v, g1, fun R' K' => by unfold br; exact g2 R' K'⟩
theorem cps_grd {α : Type} {b : Bool} {f : (R : Type) → (α → Option R) → Option R} (hf : Cps f) : Cps (fun R K => grd b (f R K)) := fun R K r h => by
  obtain ⟨rfl, h'⟩ := grd_eq.1 h
  obtain ⟨v, g1, g2⟩ := hf R K r h'
  exact ⟨v, g1, fun R' K' => by unfold grd; exact g2 R' K'⟩
theorem cps_comp {α β : Type} {f : (R : Type) → (β → Option R) → Option R} {g : β → (R : Type) → (α → Option R) → Option R} (hf : Cps f) (hg : ∀ b, Cps (g b)) : Cps (fun R K => f R fun b => g b R K) := fun R K r h => by
  obtain ⟨b, h, e1⟩ := hf R _ r h
  obtain ⟨v, h, e2⟩ := hg b R K r h
  exact ⟨v, h, fun R' K' => (e1 R' _).trans (e2 R' K')⟩

theorem cps_cget (c : V) (z i : Nat) : Cps (fun R K => cget (R := R) c z i K) := by
  cases c with
  | li k xs => exact cps_cond (cps_bnd fun x => cps_pure _) cps_none
  | ls xs => exact cps_cond (cps_bnd fun x => cps_pure _) cps_none
  | lg n xs => exact cps_cond (cps_bnd fun x => cps_pure _) cps_none
  | lt s xs => exact cps_cond (cps_bnd fun x => cps_pure _) cps_none
  | agg cs => exact cps_cond (cps_pure _) cps_none
  | _ => exact cps_none
theorem cps_cset (c : V) (z i q : Nat) (vs : List V) : Cps (fun R K => cset (R := R) c z i q vs K) := by
  unfold cset
  cases c with
  | li k xs =>
    simp only
    split
    · exact cps_cond (cps_bnd fun x => cps_pure _) cps_none
    · exact cps_none
  | ls xs =>
    simp only
    split
    · exact cps_cond (cps_bnd fun x => cps_pure _) cps_none
    · exact cps_none
  | lg n xs => exact cps_cond (cps_bnd fun x => cps_pure _) cps_none
  | lt s xs => exact cps_cond (cps_bnd fun x => cps_bind fun y => cps_pure _) cps_none
  | agg cs => exact cps_cond (cps_pure _) cps_none
  | _ => exact cps_none
theorem cps_bound (T : Nat → Option V) (m : Nat) (x : Option Operand) (d : Nat) : Cps (fun R K => bound (R := R) T m x d K) := by
  unfold bound
  cases x with
  | none => exact cps_pure _
  | some x =>
    simp only
    split
    · exact cps_bnd fun x => cps_pure _
    · exact cps_none

theorem eff_cps (P : Program) (o : Oper) (T : Nat → Option V) (H : Heap) (tok : Nat) : Cps (fun R K => eff (R := R) P o T H tok K) := by
  have other : Cps (fun R (K : Eff → Option R) => (scalar P T o).bind fun v => K { v := .s v }) := cps_bind fun v => cps_pure _
  unfold eff
  cases hop : o.op with
  | move x => exact cps_bind fun v => cps_pure _
  | assign x => exact cps_bind fun v => cps_pure _
  | pick c x y =>
    simp only
    split
    · exact cps_br (cps_bind fun v => cps_pure _) (cps_bind fun v => cps_pure _)
    · exact cps_none
  | alloc t => exact cps_cond (cps_bind fun v => cps_cond (cps_pure _) cps_none) cps_none
  | box t x => exact cps_cond (cps_bind fun v => cps_cond (cps_pure _) cps_none) cps_none
  | build t ps =>
    refine cps_bind fun v => cps_bind fun z => cps_cond ?_ cps_none
    split
    · exact cps_cond (cps_bind fun _ => cps_pure _) cps_none
    · exact cps_cond (cps_bind fun _ => cps_pure _) cps_none
    · exact cps_none
  | buildSlice t n ps => exact cps_cond (cps_bind fun v => cps_bind fun e => cps_cond (cps_bind fun _ => cps_bind fun _ => cps_pure _) cps_none) cps_none
  | load t x =>
    simp only
    split
    · exact cps_bind fun b => cps_comp (cps_cget _ _ _) fun cs => cps_bind fun v => cps_pure _
    · exact cps_bind fun v => cps_pure _
    · exact cps_none
  | store t x y =>
    simp only
    split
    · refine cps_bind fun v => cps_cond (cps_bind fun b => cps_cond ?_ cps_none) cps_none
      split
      · exact cps_comp (cps_cset _ _ _ _ _) fun c => cps_pure _
      · exact cps_bind fun u => cps_cond (cps_comp (cps_cset _ _ _ _ _) fun c => cps_pure _) cps_none
    · exact cps_none
  | nilCheck x => simp only; split <;> first | exact cps_pure _ | exact cps_none
  | fieldAddr t x f =>
    simp only
    split
    · refine cps_bind fun fd => cps_cond cps_none ?_
      split <;> first | exact cps_pure _ | exact cps_none
    · exact cps_none
  | field t x f =>
    simp only
    split
    · refine cps_bind fun fd => ?_
      split
      · exact cps_bind fun v => cps_pure _
      · exact cps_none
    · exact cps_none
  | indexAddr t x y =>
    simp only
    split
    · split
      · split <;> first | exact cps_cond (cps_bnd fun _ => cps_pure _) cps_none | exact cps_none
      · exact cps_none
    · exact cps_none
  | index t x y =>
    simp only
    split
    · split
      · split
        · exact cps_bnd fun _ => cps_pure _
        · exact cps_none
      · exact cps_none
    · exact cps_none
  | extract x i =>
    simp only
    split
    · exact cps_bind fun v => cps_pure _
    · exact cps_none
  | slice t x lo hi mx =>
    simp only
    split
    · split
      · exact cps_cond (cps_comp (cps_bound _ _ _ _) fun _ => cps_comp (cps_bound _ _ _ _) fun _ => cps_pure _) cps_none
      · exact cps_none
    · split
      · exact cps_cond (cps_comp (cps_bound _ _ _ _) fun _ => cps_comp (cps_bound _ _ _ _) fun _ => cps_pure _) cps_none
      · exact cps_cond (cps_comp (cps_bound _ _ _ _) fun _ => cps_comp (cps_bound _ _ _ _) fun _ => cps_pure _) (cps_bind fun v => cps_pure _)
      · exact cps_bind fun v => cps_pure _
      · split
        · refine cps_cond ?_ cps_none
          split
          · exact cps_comp (cps_bound _ _ _ _) fun _ => cps_comp (cps_bound _ _ _ _) fun _ => cps_bind fun _ => cps_pure _
          · exact cps_cond (cps_comp (cps_bound _ _ _ _) fun _ => cps_comp (cps_bound _ _ _ _) fun _ => cps_comp (cps_bound _ _ _ _) fun _ => cps_grd (cps_bind fun _ => cps_pure _)) cps_none
        · exact cps_none
      · exact cps_none
    · exact cps_none
  | makeSlice t x y =>
    simp only
    split
    · exact cps_cond (cps_bind fun e => cps_bnd fun n => cps_bind fun c => cps_pure _) cps_none
    · exact cps_none
  | makeFunc fn x y =>
    cases fn with
    | func f => exact cps_bind fun a => cps_bind fun b => cps_pure _
    | _ => exact cps_none
  | binOp op t x y u =>
    simp only
    split
    · exact cps_cond (cps_bnd fun v => cps_pure _) cps_none
    · exact cps_cond (cps_bnd fun v => cps_pure _) cps_none
    · exact cps_bnd fun v => cps_pure _
    · exact cps_bnd fun v => cps_pure _
    · exact cps_grd (cps_pure _)
    · exact cps_cond (cps_pure _) cps_none
    · exact cps_cond (cps_pure _) cps_none
    · exact cps_cond (cps_pure _) cps_none
    · exact cps_cond (cps_pure _) cps_none
    · exact cps_cond (cps_grd (cps_pure _)) cps_none
    · exact cps_cond (cps_grd (cps_pure _)) cps_none
    · exact cps_cond (cps_grd (cps_pure _)) cps_none
    · exact cps_cond (cps_bind fun r => cps_pure _) cps_none
    · exact cps_cond (cps_bind fun r => cps_pure _) cps_none
    · exact other
  | convert s d x =>
    simp only
    split
    · split
      · refine cps_bind fun b => ?_
        split
        · exact cps_grd (cps_pure _)
        · exact cps_none
      · exact cps_none
    · split
      · exact cps_cond (cps_cond (cps_pure _) cps_none) cps_none
      · exact cps_none
    · exact other
  | call c =>
    obtain ⟨callee, args, argTypes⟩ := c
    cases callee with
    | value f => exact cps_none
    | invoke r m => exact cps_none
    | builtin b =>
      cases b with
      | len =>
        simp only
        split
        · split
          · split <;> first | exact cps_pure _ | exact cps_bind fun n => cps_pure _ | exact cps_none
          · exact other
        · exact cps_none
      | append =>
        simp only
        split
        · split
          · refine cps_cond (cps_bind fun e => cps_bind fun s => cps_bind fun w => cps_bind fun u => cps_bind fun n => cps_cond ?_ cps_none) cps_none
            split
            · exact cps_bind fun c => cps_bind fun c => cps_br (cps_pure _) (cps_grd (cps_pure _))
            · exact cps_bind fun b => cps_cond (cps_grd (cps_bind fun c => cps_grd (cps_pure _))) cps_none
            · exact cps_cond (cps_bind fun m => cps_bind fun c => cps_br (cps_pure _) (cps_grd (cps_pure _))) cps_none
            · exact cps_none
          · exact cps_none
        · exact cps_none
      | min =>
        simp only
        split
        · split <;> first | exact cps_pure _ | exact other
        · exact other
      | max =>
        simp only
        split
        · split <;> first | exact cps_pure _ | exact other
        · exact other
      | copy =>
        simp only
        split
        · split
          · split
            · exact cps_bind fun w => cps_bind fun u => cps_bind fun b => cps_bind fun s => cps_bind fun s => cps_cond (cps_bind fun c => cps_pure _) cps_none
            · exact cps_none
          · exact cps_none
        · exact cps_none
      | clear =>
        simp only
        split
        · split
          · split
            · exact cps_bind fun b => cps_bind fun s => cps_cond (cps_bind fun c => cps_pure _) cps_none
            · exact cps_none
          · exact cps_none
        · exact cps_none
      | _ => exact other
  | _ => exact other
end
end Go.PM
