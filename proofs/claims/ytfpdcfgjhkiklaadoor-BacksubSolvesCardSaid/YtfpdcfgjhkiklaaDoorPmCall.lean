/- Calls: what is asked of them, and a call as an operation. -/
import Derived.Test.YtfpdcfgjhkiklaaDoorPmCps
set_option linter.unusedSimpArgs false
set_option linter.unusedVariables false
set_option autoImplicit false
namespace Go.PM

/-- The tokens' blocks. -/
def ownOf (ρ : Nat → Option Tk) (r : Nat) : Prop := ∃ t k, ρ t = some k ∧ k.r = r

/-- Package variables that are known: their cells. -/
abbrev Glob := Nat → Option (List Value)
def GOk (G : Glob) (I : Nat → Prop) (w : World) : Prop := ∀ b cs, G b = some cs → I b ∧ ∀ j v, cs[j]? = some v → w.cell? ⟨b, j, none⟩ = some v
theorem GOk.stays {G : Glob} {I I' : Nat → Prop} {ρ ρ' : Nat → Option Tk} {w w' : World} (h : GOk G I w) (st : Stays I I' ρ ρ' w w') : GOk G I' w' := fun b cs hb => by
  obtain ⟨h1, h2⟩ := h b cs hb
  obtain ⟨h3, h4⟩ := st.imm b h1
  exact ⟨h3, fun j v hv => by rw [cell_of_heap h4]; exact h2 j v hv⟩

structure Entry (P : Program) (G : Glob) (ρ : Nat → Option Tk) (I : Nat → Prop) (w : World) (bs : List Blk) : Prop where
  imm : ∀ b, I b → b < w.heap.size
  tok : ∀ (t : Nat) (b : Blk), bs[t]? = some b → ∃ k, ρ t = some k ∧ BlkRel P I ρ w k b ∧ (b.wr = true → ¬ I k.r) ∧ (b.wr = false → I k.r)
  dist : ∀ (t t' : Nat) (b b' : Blk) (k k' : Tk), bs[t]? = some b → bs[t']? = some b' → ρ t = some k → ρ t' = some k' → k.r = k'.r → b.wr = true → t = t'
  dom : ∀ t k, ρ t = some k → t < bs.length
  glob : GOk G I w

structure Leave (P : Program) (ρ ρ' : Nat → Option Tk) (I I' : Nat → Prop) (w w' : World) (out : Out) (x : Value) : Prop where
  size : w.heap.size ≤ w'.heap.size
  keep : ∀ b, b < w.heap.size → ¬ ownOf ρ b → w'.heap[b]? = w.heap[b]?
  stays : Stays I I' ρ ρ' w w'
  immO : ∀ b, I' b → b < w'.heap.size ∧ (b < w.heap.size → I b ∨ ownOf ρ b)
  val : RV I' ρ' w' out.1 x
  live : ∀ (t : Nat) (b : Blk), out.2[t]? = some (some b) → ∃ k, ρ' t = some k ∧ (k.r < w.heap.size → ownOf ρ k.r) ∧ BlkRel P I' ρ' w' k b ∧ (b.wr = true → ¬ I' k.r) ∧ (b.wr = false → I' k.r)
  dist : ∀ (t t' : Nat) (b b' : Blk) (k k' : Tk), out.2[t]? = some (some b) → out.2[t']? = some (some b') → ρ' t = some k → ρ' t' = some k' → k.r = k'.r → b.wr = true → t = t'
  dom : ∀ t k, ρ' t = some k → t < out.2.length

/-- What is asked of the evaluator's calls. -/
def Enters (P : Program) (f : FuncId) : Prop := ∃ fn c, P.funcs[f]? = some fn ∧ fn.body = some c ∧ (fn.name == "runtime.NumGoroutine") = false
/-- What a call tells is true. -/
def Fact (P : Program) (G : Glob) (f : FuncId) (args : List V) (bs : List Blk) (out : Out) : Prop :=
  Enters P f ∧ ∀ (w : World) (ρ : Nat → Option Tk) (I : Nat → Prop) (xs : List Value), Entry P G ρ I w bs → RVs I ρ w args xs →
    Calls P f ⟨xs⟩ w fun e w' => ∃ x ρ' I', e = .returned x ∧ Leave P ρ ρ' I I' w w' out x
def CallOk (P : Program) (G : Glob) (call : Tbl) : Prop :=
  ∀ f args bs out, call f args bs = some (true, out) → Fact P G f args bs out
theorem callK_eq {R : Type} {x : Option (Bool × Out)} {K : Out → Option R} {r : R} : callK x K = some r ↔ ∃ o, x = some (true, o) ∧ K o = some r := by
  unfold callK
  split
  · rename_i g o
    rw [grd_eq]
    constructor
    · rintro ⟨rfl, h⟩; exact ⟨o, rfl, h⟩
    · rintro ⟨o', h, h2⟩; cases h; exact ⟨rfl, h2⟩
  · constructor
    · intro h; cases h
    · rintro ⟨o, h, _⟩; cases h

section
variable {I : Nat → Prop} {ρ ρ' : Nat → Option Tk} {w : World}
mutual
theorem RV_ren {f : Nat → Option Nat} (hf : ∀ t t' k, f t = some t' → ρ t = some k → ρ' t' = some k) : ∀ (v v' : V) (x : Value), ren f v = some v' → RV I ρ w v x → RV I ρ' w v' x
  | .sl t z a n, v', x, h, hx => by
    simp only [ren, Option.map_eq_some_iff] at h
    obtain ⟨t', ht, rfl⟩ := h
    simp only [RV] at hx ⊢
    obtain ⟨k, cap, ty, m, p, h1, hp, h2, h3⟩ := hx
    exact ⟨k, cap, ty, m, p, h1, hp, hf _ _ _ ht h2, h3⟩
  | .ptr t z i o, v', x, h, hx => by
    simp only [ren, Option.map_eq_some_iff] at h
    obtain ⟨t', ht, rfl⟩ := h
    simp only [RV] at hx ⊢
    obtain ⟨k, h1, h2, h3⟩ := hx
    exact ⟨k, h1, hf _ _ _ ht h2, h3⟩
  | .agg cs, v', x, h, hx => by
    simp only [ren, Option.map_eq_some_iff] at h
    obtain ⟨us, hu, rfl⟩ := h
    simp only [RV] at hx ⊢
    obtain ⟨ys, h1, h2, h3⟩ := hx
    exact ⟨ys, h1, RVs_ren hf cs us ys hu h2, h3⟩
  | .tup cs, v', x, h, hx => by
    simp only [ren, Option.map_eq_some_iff] at h
    obtain ⟨us, hu, rfl⟩ := h
    simp only [RV] at hx ⊢
    obtain ⟨ys, h1, h2⟩ := hx
    exact ⟨ys, h1, RVs_ren hf cs us ys hu h2⟩
  | .fn g a b, v', x, h, hx => by
    simp only [ren] at h
    obtain ⟨us, hu, h⟩ := bind_eq.1 h
    simp only [Option.map_eq_some_iff] at h
    obtain ⟨vs, hv, rfl⟩ := h
    simp only [RV] at hx ⊢
    obtain ⟨ys, zs, h1, h2, h3⟩ := hx
    exact ⟨ys, zs, h1, RVs_ren hf a us ys hu h2, RVs_ren hf b vs zs hv h3⟩
  | .yl t, v', x, h, hx => by
    simp only [ren, Option.map_eq_some_iff] at h
    obtain ⟨t', ht, rfl⟩ := h
    simp only [RV] at hx ⊢
    obtain ⟨k, h1, h2⟩ := hx
    exact ⟨k, h1, hf _ _ _ ht h2⟩
  | .s v, v', x, h, hx => by simp only [ren, Option.some.injEq] at h; subst h; simpa only [RV] using hx
  | .li k xs, v', x, h, hx => by simp only [ren, Option.some.injEq] at h; subst h; simpa only [RV] using hx
  | .ls xs, v', x, h, hx => by simp only [ren, Option.some.injEq] at h; subst h; simpa only [RV] using hx
  | .lg n xs, v', x, h, hx => by simp only [ren, Option.some.injEq] at h; subst h; simpa only [RV] using hx
  | .lt sh xs, v', x, h, hx => by simp only [ren, Option.some.injEq] at h; subst h; simpa only [RV] using hx
  | .tt v, v', x, h, hx => by simp only [ren, Option.some.injEq] at h; subst h; simpa only [RV] using hx
  | .lp cs o, v', x, h, hx => by simp only [ren, Option.some.injEq] at h; subst h; simpa only [RV] using hx
theorem RVs_ren {f : Nat → Option Nat} (hf : ∀ t t' k, f t = some t' → ρ t = some k → ρ' t' = some k) : ∀ (v v' : List V) (x : List Value), renL f v = some v' → RVs I ρ w v x → RVs I ρ' w v' x
  | [], v', x, h, hx => by simp only [renL, Option.some.injEq] at h; subst h; simpa only [RVs] using hx
  | v :: vs, v', x, h, hx => by
    simp only [renL] at h
    obtain ⟨u, hu, h⟩ := bind_eq.1 h
    simp only [Option.map_eq_some_iff] at h
    obtain ⟨us, hus, rfl⟩ := h
    simp only [RVs] at hx ⊢
    obtain ⟨y, r, h1, h2, h3⟩ := hx
    exact ⟨y, r, h1, RV_ren hf v u y hu h2, RVs_ren hf vs us r hus h3⟩
end
mutual
theorem RV_flat {I' : Nat → Prop} {w' : World} : ∀ (v : V) (x : Value), flat v = true → RV I ρ w v x → RV I' ρ' w' v x
  | .s v, x, _, hx => by simpa only [RV] using hx
  | .agg cs, x, h, hx => by
    simp only [RV] at hx ⊢
    obtain ⟨ys, h1, h2, h3⟩ := hx
    exact ⟨ys, h1, RVs_flat cs ys h h2, h3⟩
  | .tup cs, x, h, hx => by
    simp only [RV] at hx ⊢
    obtain ⟨ys, h1, h2⟩ := hx
    exact ⟨ys, h1, RVs_flat cs ys h h2⟩
  | .fn g a b, x, h, _ => by cases h
  | .yl t, x, h, _ => by cases h
  | .sl .., x, h, _ => by cases h
  | .ptr .., x, h, _ => by cases h
  | .li k xs, x, h, hx => by cases h
  | .ls xs, x, h, hx => by cases h
  | .lg n xs, x, h, hx => by cases h
  | .lt sh xs, x, h, hx => by cases h
  | .tt v, x, h, hx => by cases h
  | .lp cs o, x, h, hx => by cases h
theorem RVs_flat {I' : Nat → Prop} {w' : World} : ∀ (v : List V) (x : List Value), flatL v = true → RVs I ρ w v x → RVs I' ρ' w' v x
  | [], x, _, hx => by simpa only [RVs] using hx
  | v :: vs, x, h, hx => by
    simp only [flatL, Bool.and_eq_true] at h
    simp only [RVs] at hx ⊢
    obtain ⟨y, r, h1, h2, h3⟩ := hx
    exact ⟨y, r, h1, RV_flat v y h.1 h2, RVs_flat vs r h.2 h3⟩
end

theorem renB_rel {P : Program} {f : Nat → Option Nat} (hf : ∀ t t' k, f t = some t' → ρ t = some k → ρ' t' = some k) {k : Tk} {b b' : Blk} (h : renB f b = some b') (hb : BlkRel P I ρ w k b) : BlkRel P I ρ' w k b' ∧ b'.wr = b.wr ∧ b'.ty = b.ty := by
  obtain ⟨cs, fz, ys, h1, h2, h3, h4, h5, h6⟩ := hb
  unfold renB at h
  split at h
  · rename_i vs hc
    simp only [Option.map_eq_some_iff] at h
    obtain ⟨us, hu, rfl⟩ := h
    rw [hc] at h2 h5
    simp only [Flat] at h2
    refine ⟨⟨cs, fz, ys, h1, ?_, h3, h4, h5, ?_⟩, rfl, rfl⟩
    · simp only [Flat]; exact ⟨RVs_ren hf _ _ _ hu h2.1, h2.2⟩
    · simp [Fits]
  · rename_i hc
    cases h
    refine ⟨⟨cs, fz, ys, h1, ?_, h3, h4, h5, h6⟩, rfl, rfl⟩
    unfold Flat at h2 ⊢
    split <;> first | (rename_i heq; rw [heq] at h2; exact h2) | (rename_i vs heq; exact absurd heq (hc vs)) | skip
    all_goals (rename_i g1 g2 g3 g5 g4; split at h2 <;> first | exact h2 | (rename_i heq; first | exact (g1 _ _ heq).elim | exact (g2 _ heq).elim | exact (g3 _ _ heq).elim | exact (g5 _ _ heq).elim | exact (g4 _ heq).elim))
end
end Go.PM
