/- A call that puts ints into a block of the caller's, told as a Fact. -/
import Derived.Test.YtfpdcfgjhkiklaaDoorPmTab
import Derived.Sort.Grow
import Derived.Lib.SortBridge
set_option linter.unusedSimpArgs false
set_option linter.unusedVariables false
set_option autoImplicit false
namespace Go.PM
open Go.Sort Go.Proofs

def entersB (P : Program) (f : FuncId) : Bool := match P.funcs[f]? with
  | some fn => fn.body.isSome && !(fn.name == "runtime.NumGoroutine")
  | none => false
theorem enters_of {P : Program} {f : FuncId} (h : entersB P f = true) : Enters P f := by
  unfold entersB at h
  split at h
  · rename_i fn hf
    rw [Bool.and_eq_true] at h
    obtain ⟨c, hc⟩ := Option.isSome_iff_exists.1 h.1
    exact ⟨fn, c, hf, hc, by simpa using h.2⟩
  · cases h
/-- From w to w', of the old blocks r alone changes, and not its shape. -/
structure Put (r : Nat) (w w' : World) : Prop where
  size : w.heap.size ≤ w'.heap.size
  other : ∀ b, b < w.heap.size → b ≠ r → w'.heap[b]? = w.heap[b]?
  shape : ∀ s, w.shape? r = some s → w'.shape? r = some s
  io : Io w w'

theorem fact_put {P : Program} {G : Glob} {f : FuncId} {args : List V} {b b' : Blk} (hE : Enters P f) (hw : b.wr = true) (hw' : b'.wr = true)
    (H : ∀ (w : World) (ρ : Nat → Option Tk) (I : Nat → Prop) (xs : List Value) (k : Tk), BlkRel P I ρ w k b → ρ 0 = some k → k.r < w.heap.size → RVs I ρ w args xs →
      Calls P f ⟨xs⟩ w fun e w' => e = .returned (.tuple #[]) ∧ Put k.r w w' ∧ BlkRel P I ρ w' k b') : Fact P G f args [b] (.tup [], [some b']) := by
  refine ⟨hE, fun w ρ I xs he hx => ?_⟩
  obtain ⟨k, hk, hb, hI, _⟩ := he.tok 0 b rfl
  have hI := hI hw
  have hown : ownOf ρ k.r := ⟨0, k, hk, rfl⟩
  have hsz : k.r < w.heap.size := by
    obtain ⟨cs, fz, ys, h, _⟩ := hb
    exact (Array.getElem?_eq_some_iff.1 h).1
  have hdom : ∀ t k', ρ t = some k' → t = 0 := fun t k' h => by have := he.dom t k' h; simp at this; exact this
  refine (H w ρ I xs k hb hk hsz hx).mono fun e w' ⟨h1, hp, hb'⟩ => ⟨_, ρ, I, h1, ?_⟩
  refine ⟨hp.size, fun c hc hn => hp.other c hc (by rintro rfl; exact hn hown), ⟨fun c hc => ⟨hc, hp.other c (he.imm c hc) (by rintro rfl; exact hI hc)⟩, fun _ _ h => h, fun t k' s ht hs => ?_, hp.io⟩, fun c hc => ⟨Nat.lt_of_lt_of_le (he.imm c hc) hp.size, fun _ => .inl hc⟩, ?_, ?_, ?_, fun t k' h => ?_⟩
  · have e0 := hdom t k' ht
    subst e0
    rw [hk] at ht
    cases ht
    exact hp.shape s hs
  · show RV I ρ w' (.tup []) (.tuple #[])
    simp only [RV]
    exact ⟨[], rfl, by simp only [RVs]⟩
  · intro t c hc
    have ht : t = 0 := by
      cases t with
      | zero => rfl
      | succ t => simp at hc
    subst ht
    simp at hc
    subst hc
    exact ⟨k, hk, fun _ => hown, hb', fun _ => hI, fun h => by rw [hw'] at h; cases h⟩
  · intro t t' c c' k1 k2 h1 h2 g1 g2 _ _
    rw [hdom t k1 g1, hdom t' k2 g2]
  · rw [hdom t k' h]; simp

/-- A call that turns nothing. -/
theorem fact_pure {P : Program} {G : Glob} {f : FuncId} {args : List V} {v : V} (hE : Enters P f)
    (H : ∀ (w : World) (ρ : Nat → Option Tk) (I : Nat → Prop) (xs : List Value), GOk G I w → RVs I ρ w args xs → Calls P f ⟨xs⟩ w fun e w' => ∃ x, e = .returned x ∧ w' = w ∧ RV I ρ w v x) : Fact P G f args [] (v, []) := by
  refine ⟨hE, fun w ρ I xs he hx => (H w ρ I xs he.glob hx).mono fun e w' ⟨x, h1, hw, hv⟩ => ?_⟩
  subst hw
  have hdom : ∀ t k, ρ t = some k → False := fun t k h => by have := he.dom t k h; simp at this
  exact ⟨x, ρ, I, h1, Nat.le_refl _, fun _ _ _ => rfl, ⟨fun _ h => ⟨h, rfl⟩, fun _ _ h => h, fun _ _ _ _ h => h, .rfl⟩, fun b hb => ⟨he.imm b hb, fun _ => .inl hb⟩, hv, fun t b h => by simp at h, fun t t' b b' k k' h => by simp at h, fun t k h => (hdom t k h).elim⟩

/-- A call that turns nothing of what was there. -/
theorem fact_below {P : Program} {G : Glob} {f : FuncId} {args : List V} {v : V} (hE : Enters P f)
    (H : ∀ (w : World) (ρ : Nat → Option Tk) (I : Nat → Prop) (xs : List Value), GOk G I w → RVs I ρ w args xs → Calls P f ⟨xs⟩ w fun e w' => ∃ x, e = .returned x ∧ Go.RowKit.Below w.heap.size w w' ∧ RV I ρ w' v x) : Fact P G f args [] (v, []) := by
  refine ⟨hE, fun w ρ I xs he hx => (H w ρ I xs he.glob hx).mono fun e w' ⟨x, h1, bel, hv⟩ => ?_⟩
  have hdom : ∀ t k, ρ t = some k → False := fun t k h => by have := he.dom t k h; simp at this
  exact ⟨x, ρ, I, h1, bel.size, fun b hb _ => bel.block b hb, ⟨fun b h => ⟨h, bel.block b (he.imm b h)⟩, fun _ _ h => h, fun t k _ h => (hdom t k h).elim, by rw [bel.os, bel.tape], bel.output⟩, fun b hb => ⟨Nat.lt_of_lt_of_le (he.imm b hb) bel.size, fun _ => .inl hb⟩, hv, fun t b h => by simp at h, fun t t' b b' k k' h => by simp at h, fun t k h => (hdom t k h).elim⟩

theorem put_ints {P : Program} {ρ : Nat → Option Tk} {I : Nat → Prop} {w : World} {k : Tk} {ty : TypeId} {kd : IntKind} {xs ys : List Int} {q : Nat} {os : Array Obj} (hb : BlkRel P I ρ w k ⟨ty, .li kd xs, true⟩) (hl : ys.length ≤ xs.length) :
    Put k.r w (grow ((w.drewN q).setCells k.r 0 (ys.map (.int kd))) os) ∧ BlkRel P I ρ (grow ((w.drewN q).setCells k.r 0 (ys.map (.int kd))) os) k ⟨ty, .li kd (ys ++ xs.drop ys.length), true⟩ := by
  obtain ⟨cs, fz, zs, h1, h2, h3, h4, h5, h6⟩ := hb
  have hF : zs = xs.map (.int kd) := h2
  subst hF
  have h1' : (w.drewN q).heap[k.r]? = some (.cells cs ty fz) := h1
  have hsz : k.r < w.heap.size := (Array.getElem?_eq_some_iff.1 h1).1
  have hcs : xs.length ≤ cs.size := by
    cases hx : xs.length with
    | zero => omega
    | succ n =>
      have := h3 n (.int kd (xs[n]'(by omega))) (by simp)
      rw [Nat.zero_add] at this
      have e : w.cell? ⟨k.r, n, none⟩ = cs[n]? := by simp [World.cell?, h1]
      rw [e] at this
      have := (Array.getElem?_eq_some_iff.1 this).1
      omega
  have o := Only.setCells h1' 0 (ys.map (.int kd))
  obtain ⟨cs', g1, g2, g3, g4⟩ := setCells_heap k.r ty fz (ys.map (.int kd)) 0 (w.drewN q) cs h1'
  have hsz2 : ((w.drewN q).setCells k.r 0 (ys.map (.int kd))).heap.size = w.heap.size := o.size
  have hold : ∀ b, b < w.heap.size → (grow ((w.drewN q).setCells k.r 0 (ys.map (.int kd))) os).heap[b]? = ((w.drewN q).setCells k.r 0 (ys.map (.int kd))).heap[b]? := fun b hb => heap_grow_old _ os (by rw [hsz2]; exact hb)
  refine ⟨⟨by rw [size_grow, hsz2]; omega, fun b hb hn => (hold b hb).trans (o.other b hn), fun s hs => ?_, ?_⟩, cs', fz, (ys ++ xs.drop ys.length).map (.int kd), ?_, rfl, ?_, ?_, ?_, h6⟩
  · rw [shape_of_heap (hold k.r hsz)]; exact o.shape s hs
  · have h : Io w ((w.drewN q).setCells k.r 0 (ys.map (.int kd))) := ⟨o.io.1, o.io.2⟩
    exact ⟨h.1, h.2⟩
  · rw [hold k.r hsz]; exact g1
  · refine rangeAt_of_heap (hold k.r hsz) ?_
    have := rangeAt_spl (w := w.drewN q) (r := k.r) (p := 0) (ys := xs.map (.int kd)) (us := ys.map (.int kd)) h3 (fun j hj => h4 j (by simp at hj; omega)) (by simpa using hl)
    unfold spl at this
    simpa [List.map_drop] using this
  · refine there_of_heap (hold k.r hsz) fun j hj => ⟨?_, ?_⟩
    · simp [World.cell?, g1, hj]
    · have := (h4 j (by omega)).2
      simp [World.frozen?, h1] at this
      simpa [World.frozen?, g1] using this
  · have h5' : xs.length = k.L := h5
    show (ys ++ xs.drop ys.length).length = k.L
    rw [← h5']; simp; omega
end Go.PM
