/- The value evaluator's relation to the machine: values, blocks, states. -/
import Derived.Test.YtfpdcfgjhkiklaaDoorPmEval
import Derived.Deep.MidRow
import Derived.Deep.AppendSrc
import Derived.Deep.Upon
import Derived.Laws.MakeOwn
import Derived.Laws.Tables
import Derived.Laws.Slices
import Derived.Laws.BytesString
import Derived.Laws.IdiomStrings
import Derived.Great.BuildSlice
import Derived.Conc.MuLone
set_option linter.unusedSimpArgs false
set_option linter.unusedVariables false
set_option autoImplicit false
namespace Go.PM

/-- A token's block; how many elements it has; how many cells each. -/
structure Tk where
  r : Nat
  L : Nat
  z : Nat

/-- Cells of frozen memory: from an address on. -/
def Frozen (I : Nat → Prop) (w : World) (a : Option Addr) (ys : List Value) : Prop :=
  ys = [] ∨ ∃ b o, a = some ⟨b, o, none⟩ ∧ I b ∧ ∀ j y, ys[j]? = some y → w.cell? ⟨b, o + j, none⟩ = some y

/-- No token has a block. -/
abbrev nil : Nat → Option Tk := fun _ => none

/-- Rows, one behind the other. -/
def Rows {α : Type} (R : α → List Value → Prop) : List α → List Value → Prop
  | [], ys => ys = []
  | x :: xs, ys => ∃ y z, ys = y ++ z ∧ R x y ∧ Rows R xs z
/-- A row of a shape, as cells. -/
def RE (I : Nat → Prop) (w : World) : (s : Sh) → El s → List Value → Prop
  | .int k, x, ys => ys = [.int k x]
  | .str, x, ys => ys = [.string x]
  | .bool, x, ys => ys = [.bool x]
  | .sl s, xs, ys => ∃ a cap cs, ys = [.slice a (List.length (α := El s) xs) cap] ∧ List.length (α := El s) xs ≤ cap ∧ Rows (RE I w s) xs cs ∧ Frozen I w a cs
  | .pair a b, p, ys => ∃ y z, ys = y ++ z ∧ RE I w a p.1 y ∧ RE I w b p.2 z
  | .unit, _, ys => ys = []

mutual
/-- A value, in a world: I: the blocks that nobody writes; ρ: the tokens' blocks. What is frozen bears no token. -/
def RV (I : Nat → Prop) : (Nat → Option Tk) → World → V → Value → Prop
  | _, _, .s v, x => x = v
  | _, w, .li k xs, x => ∃ a cap, x = .slice a xs.length cap ∧ xs.length ≤ cap ∧ Frozen I w a (xs.map (.int k))
  | _, w, .ls xs, x => ∃ a cap, x = .slice a xs.length cap ∧ xs.length ≤ cap ∧ Frozen I w a (xs.map .string)
  | _, w, .lg n xs, x => ∃ a cap ys, x = .slice a xs.length cap ∧ xs.length ≤ cap ∧ RVss I nil w n xs ys ∧ Frozen I w a ys
  | _, w, .lt s xs, x => ∃ a cap ys, x = .slice a xs.length cap ∧ xs.length ≤ cap ∧ Rows (RE I w s) xs ys ∧ Frozen I w a ys
  | _, w, .tt v, x => RV I nil w v x ∧ ∃ a n, x = .slice a n n
  | ρ, w, .sl t z off len, x => ∃ k cap ty n p, x = .slice (some ⟨k.r, p, none⟩) len cap ∧ (p = off * z ∨ cap = 0) ∧ ρ t = some k ∧ k.z = z ∧ len ≤ cap ∧ off + len ≤ k.L ∧ w.shape? k.r = some (ty, n) ∧ (off + cap) * z ≤ n
  | ρ, _, .ptr t z i o, x => ∃ k, x = .pointer (some ⟨k.r, i * z + o, none⟩) ∧ ρ t = some k ∧ k.z = z
  | _, w, .lp cs o, x => ∃ b p ys, x = .pointer (some ⟨b, p + o, none⟩) ∧ RVs I nil w cs ys ∧ (∀ y ∈ ys, y.oneCell' = true) ∧ I b ∧ ∀ j y, ys[j]? = some y → w.cell? ⟨b, p + j, none⟩ = some y
  | ρ, w, .agg cs, x => ∃ ys, x = .agg ⟨ys⟩ ∧ RVs I ρ w cs ys ∧ ∀ y ∈ ys, y.oneCell' = true
  | ρ, w, .tup vs, x => ∃ ys, x = .tuple ⟨ys⟩ ∧ RVs I ρ w vs ys
  | ρ, w, .fn f a b, x => ∃ ys zs, x = .func f ⟨ys⟩ ⟨zs⟩ ∧ RVs I ρ w a ys ∧ RVs I ρ w b zs
  | ρ, _, .yl t, x => ∃ k, x = .func (.yield k.r) ⟨[]⟩ ⟨[]⟩ ∧ ρ t = some k
def RVs (I : Nat → Prop) : (Nat → Option Tk) → World → List V → List Value → Prop
  | _, _, [], ys => ys = []
  | ρ, w, v :: vs, ys => ∃ y r, ys = y :: r ∧ RV I ρ w v y ∧ RVs I ρ w vs r
/-- Rows of n cells, one behind the other. -/
def RVss (I : Nat → Prop) : (Nat → Option Tk) → World → Nat → List (List V) → List Value → Prop
  | _, _, _, [], ys => ys = []
  | ρ, w, n, r :: rs, ys => ∃ y z, ys = y ++ z ∧ r.length = n ∧ RVs I ρ w r y ∧ (∀ x ∈ y, x.oneCell' = true) ∧ RVss I ρ w n rs z
end

/-- Contents, as cells. -/
def Flat (I : Nat → Prop) (ρ : Nat → Option Tk) (w : World) (c : V) (ys : List Value) : Prop :=
  match c with
  | .li k xs => ys = xs.map (.int k)
  | .ls xs => ys = xs.map .string
  | .lg n xs => RVss I nil w n xs ys
  | .lt s xs => Rows (RE I w s) xs ys
  | .agg cs => RVs I ρ w cs ys ∧ ∀ y ∈ ys, y.oneCell' = true
  | _ => False

/-- The contents' form fits the elements' type. -/
def Fits (P : Program) (b : Blk) (z : Nat) : Prop :=
  match b.c with
  | .li k _ => P.underlying b.ty = some (.int k) ∧ szOf P b.ty = 1 ∧ z = 1
  | .ls _ => P.underlying b.ty = some .string ∧ szOf P b.ty = 1 ∧ z = 1
  | .lg n _ => n = szOf P b.ty ∧ z = n
  | .lt s _ => s.sz = szOf P b.ty ∧ z = s.sz
  | .agg _ => True
  | _ => False

/-- A block of the table, in the world. -/
def BlkRel (P : Program) (I : Nat → Prop) (ρ : Nat → Option Tk) (w : World) (k : Tk) (b : Blk) : Prop :=
  ∃ cs fz ys, w.heap[k.r]? = some (.cells cs b.ty fz) ∧ Flat I ρ w b.c ys ∧ w.rangeAt k.r 0 ys ∧ w.there k.r 0 cs.size ∧ lenC b.c = k.L ∧ Fits P b k.z

/-! What stays. -/
/-- The streams and the system are as they were. -/
def Io (w w' : World) : Prop := (w'.os, w'.tape) = (w.os, w.tape) ∧ w'.output = w.output
theorem Io.rfl {w : World} : Io w w := ⟨Eq.refl _, Eq.refl _⟩
theorem Io.trans {a b c : World} (h : Io a b) (g : Io b c) : Io a c := ⟨g.1.trans h.1, g.2.trans h.2⟩
theorem Io.symm {a b : World} (h : Io a b) : Io b a := ⟨h.1.symm, h.2.symm⟩
/-- From w to w', nothing that a value hangs on changes. -/
structure Stays (I I' : Nat → Prop) (ρ ρ' : Nat → Option Tk) (w w' : World) : Prop where
  imm : ∀ b, I b → I' b ∧ w'.heap[b]? = w.heap[b]?
  tok : ∀ t k, ρ t = some k → ρ' t = some k
  shape : ∀ t k s, ρ t = some k → w.shape? k.r = some s → w'.shape? k.r = some s
  io : Io w w'

/-- Where an activation began: its world; the blocks that it was given; those that nobody writes; what is put off. -/
structure Env where
  P : Program
  w0 : World
  own0 : Nat → Prop
  I0 : Nat → Prop
  ρ0 : Nat → Option Tk
  N : Nat
  lo : Nat

/-- The marks of ranges over functions that are behind. -/
def Marks (lo : Nat) (I : Nat → Prop) (w : World) (ds : List Deferred) : Prop :=
  ∃ l : List Nat, l.Nodup ∧ ds = l.map (fun D => ({ target := .collected D, args := #[] } : Deferred)) ∧ ∀ D ∈ l, lo ≤ D ∧ I D ∧ w.heap[D]? = some (.deferred (some []))
theorem Marks.stays {lo : Nat} {I I' : Nat → Prop} {ρ ρ' : Nat → Option Tk} {w w' : World} {ds : List Deferred} (h : Marks lo I w ds) (s : Stays I I' ρ ρ' w w') : Marks lo I' w' ds := by
  obtain ⟨l, h1, h2, h3⟩ := h
  exact ⟨l, h1, h2, fun D hD => ⟨(h3 D hD).1, (s.imm D (h3 D hD).2.1).1, (s.imm D (h3 D hD).2.1).2.trans (h3 D hD).2.2⟩⟩

structure Sim (E : Env) (ρ : Nat → Option Tk) (I : Nat → Prop) (T : Nat → Option V) (H : Heap) (a : Act) (w : World) : Prop where
  size : E.w0.heap.size ≤ w.heap.size
  keep : ∀ b, b < E.w0.heap.size → ¬ E.own0 b → w.heap[b]? = E.w0.heap[b]?
  st0 : Stays E.I0 I E.ρ0 ρ E.w0 w
  immO : ∀ b, I b → b < w.heap.size ∧ (b < E.w0.heap.size → E.I0 b ∨ E.own0 b)
  live : ∀ t b, at_ H t = some b → ∃ k, ρ t = some k ∧ (k.r < E.w0.heap.size → E.own0 k.r) ∧ BlkRel E.P I ρ w k b ∧ (b.wr = true → ¬ I k.r) ∧ (b.wr = false → I k.r)
  dist : ∀ t t' b b' k k', at_ H t = some b → at_ H t' = some b' → ρ t = some k → ρ t' = some k' → k.r = k'.r → b.wr = true → t = t'
  dom : ∀ t r, ρ t = some r → (H t).isSome = true
  tmp : ∀ i v, T i = some v → RV I ρ w v (a.tmps.getD i undef)
  num : E.N ≤ a.tmps.size
  dfs : Marks E.lo I w a.defers

theorem cell_of_heap {w w' : World} {b o : Nat} (h : w'.heap[b]? = w.heap[b]?) : w'.cell? ⟨b, o, none⟩ = w.cell? ⟨b, o, none⟩ := by
  unfold World.cell?; rw [h]

theorem Frozen.stays {I I' : Nat → Prop} {ρ ρ' : Nat → Option Tk} {w w' : World} (s : Stays I I' ρ ρ' w w') {a : Option Addr} {ys : List Value} (h : Frozen I w a ys) : Frozen I' w' a ys := by
  rcases h with h | ⟨b, o, ha, hi, hc⟩
  · exact .inl h
  · exact .inr ⟨b, o, ha, (s.imm b hi).1, fun j y hy => by rw [cell_of_heap (s.imm b hi).2]; exact hc j y hy⟩

theorem Stays.nil {I I' : Nat → Prop} {ρ ρ' : Nat → Option Tk} {w w' : World} (s : Stays I I' ρ ρ' w w') : Stays I I' nil nil w w' := ⟨s.imm, fun _ _ h => (by cases h), fun _ _ _ h => (by cases h), s.io⟩
theorem Stays.up (I : Nat → Prop) (ρ : Nat → Option Tk) (w : World) : Stays I I PM.nil ρ w w := ⟨fun _ h => ⟨h, rfl⟩, fun _ _ h => (by cases h), fun _ _ _ h => (by cases h), .rfl⟩

/-- The same, but that records may change. -/
structure Stay2 (I I' : Nat → Prop) (ρ ρ' : Nat → Option Tk) (w w' : World) : Prop where
  imm : ∀ b, I b → I' b ∧ ∀ o y, w.cell? ⟨b, o, none⟩ = some y → w'.cell? ⟨b, o, none⟩ = some y
  tok : ∀ t k, ρ t = some k → ρ' t = some k
  shape : ∀ t k s, ρ t = some k → w.shape? k.r = some s → w'.shape? k.r = some s
theorem Stays.two {I I' : Nat → Prop} {ρ ρ' : Nat → Option Tk} {w w' : World} (s : Stays I I' ρ ρ' w w') : Stay2 I I' ρ ρ' w w' :=
  ⟨fun b hb => ⟨(s.imm b hb).1, fun o y h => by rw [cell_of_heap (s.imm b hb).2]; exact h⟩, s.tok, s.shape⟩
theorem Stay2.trans {I I' I'' : Nat → Prop} {ρ ρ' ρ'' : Nat → Option Tk} {w w' w'' : World} (h : Stay2 I I' ρ ρ' w w') (g : Stay2 I' I'' ρ' ρ'' w' w'') : Stay2 I I'' ρ ρ'' w w'' :=
  ⟨fun b hb => ⟨(g.imm b (h.imm b hb).1).1, fun o y hc => (g.imm b (h.imm b hb).1).2 o y ((h.imm b hb).2 o y hc)⟩, fun t b ht => g.tok t b (h.tok t b ht), fun t b s ht hs => g.shape t b s (h.tok t b ht) (h.shape t b s ht hs)⟩
theorem Stay2.nil {I I' : Nat → Prop} {ρ ρ' : Nat → Option Tk} {w w' : World} (s : Stay2 I I' ρ ρ' w w') : Stay2 I I' nil nil w w' := ⟨s.imm, fun _ _ h => (by cases h), fun _ _ _ h => (by cases h)⟩
theorem Frozen.stay2 {I I' : Nat → Prop} {ρ ρ' : Nat → Option Tk} {w w' : World} (s : Stay2 I I' ρ ρ' w w') {a : Option Addr} {ys : List Value} (h : Frozen I w a ys) : Frozen I' w' a ys := by
  rcases h with h | ⟨b, o, ha, hi, hc⟩
  · exact .inl h
  · exact .inr ⟨b, o, ha, (s.imm b hi).1, fun j y hy => (s.imm b hi).2 _ _ (hc j y hy)⟩

theorem Rows.mono {α : Type} {R R' : α → List Value → Prop} (h : ∀ x y, R x y → R' x y) : ∀ {xs : List α} {ys : List Value}, Rows R xs ys → Rows R' xs ys
  | [], _, g => g
  | x :: xs, _, g => by
    simp only [Rows] at g ⊢
    obtain ⟨y, z, h1, h2, h3⟩ := g
    exact ⟨y, z, h1, h x y h2, Rows.mono h h3⟩
theorem RE.stay2 {I I' : Nat → Prop} {ρ ρ' : Nat → Option Tk} {w w' : World} (st : Stay2 I I' ρ ρ' w w') : ∀ (s : Sh) (x : El s) (ys : List Value), RE I w s x ys → RE I' w' s x ys
  | .int k, x, ys, h => h
  | .str, x, ys, h => h
  | .bool, x, ys, h => h
  | .unit, x, ys, h => h
  | .sl s, xs, ys, h => by
    simp only [RE] at h ⊢
    obtain ⟨a, cap, cs, h1, h2, h3, h4⟩ := h
    exact ⟨a, cap, cs, h1, h2, Rows.mono (RE.stay2 st s) h3, h4.stay2 st⟩
  | .pair a b, p, ys, h => by
    simp only [RE] at h ⊢
    obtain ⟨y, z, h1, h2, h3⟩ := h
    exact ⟨y, z, h1, RE.stay2 st a _ _ h2, RE.stay2 st b _ _ h3⟩

mutual
theorem RV.stay2 {I I' : Nat → Prop} {ρ ρ' : Nat → Option Tk} {w w' : World} (s : Stay2 I I' ρ ρ' w w') : ∀ (v : V) (x : Value), RV I ρ w v x → RV I' ρ' w' v x
  | .s v, x, h => by simp only [RV] at h ⊢; exact h
  | .li k xs, x, h => by
    simp only [RV] at h ⊢
    obtain ⟨a, cap, h1, h2, h3⟩ := h
    exact ⟨a, cap, h1, h2, h3.stay2 s⟩
  | .ls xs, x, h => by
    simp only [RV] at h ⊢
    obtain ⟨a, cap, h1, h2, h3⟩ := h
    exact ⟨a, cap, h1, h2, h3.stay2 s⟩
  | .lg n xs, x, h => by
    simp only [RV] at h ⊢
    obtain ⟨a, cap, ys, h1, h2, h3, h4⟩ := h
    exact ⟨a, cap, ys, h1, h2, RVss.stay2 s.nil n xs ys h3, h4.stay2 s⟩
  | .lt sh xs, x, h => by
    simp only [RV] at h ⊢
    obtain ⟨a, cap, ys, h1, h2, h3, h4⟩ := h
    exact ⟨a, cap, ys, h1, h2, Rows.mono (RE.stay2 s sh) h3, h4.stay2 s⟩
  | .tt v, x, h => by
    simp only [RV] at h ⊢
    exact ⟨RV.stay2 s.nil v x h.1, h.2⟩
  | .sl t z off len, x, h => by
    simp only [RV] at h ⊢
    obtain ⟨k, cap, ty, n, p, h1, hp, h2, hz, h3, hl, h4, h5⟩ := h
    exact ⟨k, cap, ty, n, p, h1, hp, s.tok _ _ h2, hz, h3, hl, s.shape _ _ _ h2 h4, h5⟩
  | .ptr t z i o, x, h => by
    simp only [RV] at h ⊢
    obtain ⟨b, h1, h2, h3⟩ := h
    exact ⟨b, h1, s.tok _ _ h2, h3⟩
  | .lp cs o, x, h => by
    simp only [RV] at h ⊢
    obtain ⟨b, p, ys, h1, h2, hc, h3, h4⟩ := h
    exact ⟨b, p, ys, h1, RVs.stay2 s.nil cs ys h2, hc, (s.imm b h3).1, fun j y hy => (s.imm b h3).2 _ _ (h4 j y hy)⟩
  | .agg cs, x, h => by
    simp only [RV] at h ⊢
    obtain ⟨ys, h1, h2, h3⟩ := h
    exact ⟨ys, h1, RVs.stay2 s cs ys h2, h3⟩
  | .tup cs, x, h => by
    simp only [RV] at h ⊢
    obtain ⟨ys, h1, h2⟩ := h
    exact ⟨ys, h1, RVs.stay2 s cs ys h2⟩
  | .fn f a b, x, h => by
    simp only [RV] at h ⊢
    obtain ⟨ys, zs, h1, h2, h3⟩ := h
    exact ⟨ys, zs, h1, RVs.stay2 s a ys h2, RVs.stay2 s b zs h3⟩
  | .yl t, x, h => by
    simp only [RV] at h ⊢
    obtain ⟨k, h1, h2⟩ := h
    exact ⟨k, h1, s.tok _ _ h2⟩
theorem RVs.stay2 {I I' : Nat → Prop} {ρ ρ' : Nat → Option Tk} {w w' : World} (s : Stay2 I I' ρ ρ' w w') : ∀ (v : List V) (x : List Value), RVs I ρ w v x → RVs I' ρ' w' v x
  | [], x, h => by simp only [RVs] at h ⊢; exact h
  | v :: vs, x, h => by
    simp only [RVs] at h ⊢
    obtain ⟨y, r, h1, h2, h3⟩ := h
    exact ⟨y, r, h1, RV.stay2 s v y h2, RVs.stay2 s vs r h3⟩
theorem RVss.stay2 {I I' : Nat → Prop} {ρ ρ' : Nat → Option Tk} {w w' : World} (s : Stay2 I I' ρ ρ' w w') (n : Nat) : ∀ (v : List (List V)) (x : List Value), RVss I ρ w n v x → RVss I' ρ' w' n v x
  | [], x, h => by simp only [RVss] at h ⊢; exact h
  | r :: rs, x, h => by
    simp only [RVss] at h ⊢
    obtain ⟨y, z, h1, h2, h3, h4, h5⟩ := h
    exact ⟨y, z, h1, h2, RVs.stay2 s r y h3, h4, RVss.stay2 s n rs z h5⟩
end

theorem RV.stays {I I' : Nat → Prop} {ρ ρ' : Nat → Option Tk} {w w' : World} (s : Stays I I' ρ ρ' w w') (v : V) (x : Value) (h : RV I ρ w v x) : RV I' ρ' w' v x := RV.stay2 s.two v x h
theorem RVs.stays {I I' : Nat → Prop} {ρ ρ' : Nat → Option Tk} {w w' : World} (s : Stays I I' ρ ρ' w w') (v : List V) (x : List Value) (h : RVs I ρ w v x) : RVs I' ρ' w' v x := RVs.stay2 s.two v x h
theorem RVss.stays {I I' : Nat → Prop} {ρ ρ' : Nat → Option Tk} {w w' : World} (s : Stays I I' ρ ρ' w w') (n : Nat) (v : List (List V)) (x : List Value) (h : RVss I ρ w n v x) : RVss I' ρ' w' n v x := RVss.stay2 s.two n v x h

theorem Flat.stay2 {I I' : Nat → Prop} {ρ ρ' : Nat → Option Tk} {w w' : World} (s : Stay2 I I' ρ ρ' w w') {c : V} {ys : List Value} (h : Flat I ρ w c ys) : Flat I' ρ' w' c ys := by
  cases c <;> simp only [Flat] at h ⊢ <;> first | exact h | exact RVss.stay2 s.nil _ _ _ h | exact Rows.mono (RE.stay2 s _) h | exact ⟨RVs.stay2 s _ _ h.1, h.2⟩
theorem Flat.stays {I I' : Nat → Prop} {ρ ρ' : Nat → Option Tk} {w w' : World} (s : Stays I I' ρ ρ' w w') {c : V} {ys : List Value} (h : Flat I ρ w c ys) : Flat I' ρ' w' c ys := by
  cases c <;> simp only [Flat] at h ⊢ <;> first | exact h | exact RVss.stays s.nil _ _ _ h | exact Rows.mono (RE.stay2 s.two _) h | exact ⟨RVs.stays s _ _ h.1, h.2⟩

theorem Stays.refl (I : Nat → Prop) (ρ : Nat → Option Tk) (w : World) : Stays I I ρ ρ w w := ⟨fun _ h => ⟨h, rfl⟩, fun _ _ h => h, fun _ _ _ _ h => h, .rfl⟩
theorem Stays.trans {I I' I'' : Nat → Prop} {ρ ρ' ρ'' : Nat → Option Tk} {w w' w'' : World} (h : Stays I I' ρ ρ' w w') (g : Stays I' I'' ρ' ρ'' w' w'') : Stays I I'' ρ ρ'' w w'' :=
  ⟨fun b hb => ⟨(g.imm b (h.imm b hb).1).1, (g.imm b (h.imm b hb).1).2.trans (h.imm b hb).2⟩, fun t b ht => g.tok t b (h.tok t b ht), fun t b s ht hs => g.shape t b s (h.tok t b ht) (h.shape t b s ht hs), h.io.trans g.io⟩

/-! Rows of a shape are rows of cells. -/
section
variable {I : Nat → Prop} {ρ : Nat → Option Tk} {w : World}
theorem enc_len : ∀ (s : Sh) (x : El s), (enc s x).length = s.sz
  | .int k, x => rfl
  | .str, x => rfl
  | .bool, x => rfl
  | .sl s, x => rfl
  | .unit, x => rfl
  | .pair a b, p => by simp only [enc, List.length_append, Sh.sz, enc_len a, enc_len b]
theorem Rows_map {α : Type} {f : α → Value} : ∀ {xs : List α} {ys : List Value}, Rows (fun x y => y = [f x]) xs ys ↔ ys = xs.map f
  | [], ys => Iff.rfl
  | x :: xs, ys => by
    simp only [Rows, List.map_cons]
    constructor
    · rintro ⟨y, z, rfl, rfl, h⟩; rw [Rows_map.1 h]; rfl
    · rintro rfl; exact ⟨[f x], xs.map f, rfl, rfl, Rows_map.2 rfl⟩
theorem RVs_app : ∀ {vs us : List V} {ys : List Value}, RVs I ρ w (vs ++ us) ys ↔ ∃ y z, ys = y ++ z ∧ RVs I ρ w vs y ∧ RVs I ρ w us z
  | [], us, ys => by
    simp only [List.nil_append, RVs]
    constructor
    · intro h; exact ⟨[], ys, rfl, rfl, h⟩
    · rintro ⟨y, z, rfl, rfl, h⟩; exact h
  | v :: vs, us, ys => by
    simp only [List.cons_append, RVs]
    constructor
    · rintro ⟨y, r, rfl, h1, h2⟩
      obtain ⟨p, q, rfl, g1, g2⟩ := RVs_app.1 h2
      exact ⟨y :: p, q, rfl, ⟨y, p, rfl, h1, g1⟩, g2⟩
    · rintro ⟨y, z, rfl, ⟨y0, r, rfl, h1, h2⟩, h3⟩
      exact ⟨y0, r ++ z, rfl, h1, RVs_app.2 ⟨r, z, rfl, h2, h3⟩⟩
theorem RVs_one {v : V} {ys : List Value} : RVs I ρ w [v] ys ↔ ∃ y, ys = [y] ∧ RV I ρ w v y := by
  simp only [RVs]
  constructor
  · rintro ⟨y, r, rfl, h, rfl⟩; exact ⟨y, rfl, h⟩
  · rintro ⟨y, rfl, h⟩; exact ⟨y, [], rfl, h, rfl⟩
theorem RV_slV : ∀ (s : Sh) (xs : List (El s)) (x : Value), RV I ρ w (slV s xs) x ↔ ∃ a cap cs, x = .slice a xs.length cap ∧ xs.length ≤ cap ∧ Rows (RE I w s) xs cs ∧ Frozen I w a cs
  | .int k, xs, x => by
    simp only [slV, RV]
    constructor
    · rintro ⟨a, cap, h1, h2, h3⟩; exact ⟨a, cap, _, h1, h2, Rows_map.2 rfl, h3⟩
    · rintro ⟨a, cap, cs, h1, h2, h3, h4⟩; exact ⟨a, cap, h1, h2, by have := Rows_map.1 h3; rw [this] at h4; exact h4⟩
  | .str, xs, x => by
    simp only [slV, RV]
    constructor
    · rintro ⟨a, cap, h1, h2, h3⟩; exact ⟨a, cap, _, h1, h2, Rows_map.2 rfl, h3⟩
    · rintro ⟨a, cap, cs, h1, h2, h3, h4⟩; exact ⟨a, cap, h1, h2, by have := Rows_map.1 h3; rw [this] at h4; exact h4⟩
  | .bool, xs, x => by simp only [slV, RV]
  | .sl s, xs, x => by simp only [slV, RV]
  | .pair a b, xs, x => by simp only [slV, RV]
  | .unit, xs, x => by simp only [slV, RV]
theorem RE_iff : ∀ (s : Sh) (x : El s) (ys : List Value), RE I w s x ys ↔ RVs I ρ w (enc s x) ys
  | .int k, x, ys => by simp only [RE, enc, RVs_one, RV]; constructor; (rintro rfl; exact ⟨_, rfl, rfl⟩); (rintro ⟨y, rfl, rfl⟩; rfl)
  | .str, x, ys => by simp only [RE, enc, RVs_one, RV]; constructor; (rintro rfl; exact ⟨_, rfl, rfl⟩); (rintro ⟨y, rfl, rfl⟩; rfl)
  | .bool, x, ys => by simp only [RE, enc, RVs_one, RV]; constructor; (rintro rfl; exact ⟨_, rfl, rfl⟩); (rintro ⟨y, rfl, rfl⟩; rfl)
  | .unit, x, ys => by simp only [RE, enc, RVs]
  | .sl s, x, ys => by
    simp only [RE, enc, RVs_one]
    constructor
    · rintro ⟨a, cap, cs, rfl, h⟩; exact ⟨_, rfl, (RV_slV s x _).2 ⟨a, cap, cs, rfl, h⟩⟩
    · rintro ⟨y, rfl, h⟩
      obtain ⟨a, cap, cs, rfl, h1, h2, h3⟩ := (RV_slV s x _).1 h
      exact ⟨a, cap, cs, rfl, h1, h2, h3⟩
  | .pair a b, p, ys => by
    simp only [RE, enc, RVs_app]
    constructor
    · rintro ⟨y, z, h1, h2, h3⟩; exact ⟨y, z, h1, (RE_iff a _ _).1 h2, (RE_iff b _ _).1 h3⟩
    · rintro ⟨y, z, h1, h2, h3⟩; exact ⟨y, z, h1, (RE_iff a _ _).2 h2, (RE_iff b _ _).2 h3⟩
theorem RE_one : ∀ (s : Sh) (x : El s) (ys : List Value), RE I w s x ys → ∀ y ∈ ys, y.oneCell' = true
  | .int k, x, ys, h => by simp only [RE] at h; subst h; simp [Value.oneCell']
  | .str, x, ys, h => by simp only [RE] at h; subst h; simp [Value.oneCell']
  | .bool, x, ys, h => by simp only [RE] at h; subst h; simp [Value.oneCell']
  | .unit, x, ys, h => by simp only [RE] at h; subst h; simp
  | .sl s, x, ys, h => by simp only [RE] at h; obtain ⟨a, cap, cs, rfl, _⟩ := h; simp [Value.oneCell']
  | .pair a b, p, ys, h => by
    simp only [RE] at h
    obtain ⟨y, z, rfl, h2, h3⟩ := h
    intro q hq
    rcases List.mem_append.1 hq with hq | hq
    · exact RE_one a _ _ h2 q hq
    · exact RE_one b _ _ h3 q hq
theorem Rows_iff {s : Sh} : ∀ {xs : List (El s)} {ys : List Value}, Rows (RE I w s) xs ys ↔ RVss I ρ w s.sz (xs.map (enc s)) ys
  | [], ys => by simp only [Rows, List.map_nil, RVss]
  | x :: xs, ys => by
    simp only [Rows, List.map_cons, RVss]
    constructor
    · rintro ⟨y, z, h1, h2, h3⟩; exact ⟨y, z, h1, enc_len s x, (RE_iff s x y).1 h2, RE_one s x y h2, Rows_iff.1 h3⟩
    · rintro ⟨y, z, h1, _, h2, _, h3⟩; exact ⟨y, z, h1, (RE_iff s x y).2 h2, Rows_iff.2 h3⟩
/-- A slice of rows of a shape is one of rows of cells. -/
theorem RV_lt {s : Sh} {xs : List (El s)} {x : Value} : RV I ρ w (.lt s xs) x ↔ RV I ρ w (.lg s.sz (xs.map (enc s))) x := by
  simp only [RV, List.length_map]
  constructor
  · rintro ⟨a, cap, ys, h1, h2, h3, h4⟩; exact ⟨a, cap, ys, h1, h2, Rows_iff.1 h3, h4⟩
  · rintro ⟨a, cap, ys, h1, h2, h3, h4⟩; exact ⟨a, cap, ys, h1, h2, Rows_iff.2 h3, h4⟩
theorem Frozen_nil : Frozen I w none [] := .inl rfl
theorem nilTo_eq {s : Sh} {u : Value} {xs : List (El s)} (h : nilTo s u = some xs) : u = .slice none 0 0 ∧ xs = [] := by
  unfold nilTo at h
  split at h
  · cases h; exact ⟨rfl, rfl⟩
  · cases h
theorem asSl_sound : ∀ (ρ : Nat → Option Tk) (s : Sh) (v : V) (xs : List (El s)) (x : Value), asSl s v = some xs → RV I ρ w v x → RV I ρ w (slV s xs) x
  | ρ, s, .tt v, xs, x, h, hx => by
    simp only [RV] at hx
    have := asSl_sound nil s v xs x h hx.1
    rw [RV_slV] at this ⊢; exact this
  | ρ, s, .s u, xs, x, h, hx => by
    simp only [RV] at hx
    subst hx
    obtain ⟨rfl, rfl⟩ := nilTo_eq h
    rw [RV_slV]
    exact ⟨none, 0, [], rfl, Nat.le_refl _, rfl, Frozen_nil⟩
  | ρ, s, .lt s' ys, xs, x, h, hx => by
    simp only [asSl] at h
    by_cases e : s' = s
    · subst e
      rw [dif_pos rfl] at h
      cases h
      rw [RV_slV]
      simpa only [RV] using hx
    · rw [dif_neg e] at h; cases h
  | ρ, s, .li k ys, xs, x, h, hx => by
    cases s with
    | int k' =>
      simp only [asSl, liTo] at h
      by_cases hk : k = k'
      · subst hk; rw [decide_eq_true rfl] at h; cases h; exact hx
      · rw [decide_eq_false hk] at h; cases h
    | _ => cases h
  | ρ, s, .ls ys, xs, x, h, hx => by
    cases s with
    | str => simp only [asSl, lsTo] at h; cases h; exact hx
    | _ => cases h
  | ρ, s, .lg .., xs, x, h, hx => by cases h
  | ρ, s, .sl .., xs, x, h, hx => by cases h
  | ρ, s, .ptr .., xs, x, h, hx => by cases h
  | ρ, s, .lp .., xs, x, h, hx => by cases h
  | ρ, s, .agg .., xs, x, h, hx => by cases h
  | ρ, s, .tup .., xs, x, h, hx => by cases h
  | ρ, s, .fn .., xs, x, h, hx => by cases h
  | ρ, s, .yl .., xs, x, h, hx => by cases h
theorem only1_eq {α : Type} {f : V → Option α} {cs : List V} {x : α} (h : only1 f cs = some x) : ∃ v, cs = [v] ∧ f v = some x := by
  unfold only1 at h
  split at h
  · exact ⟨_, rfl, h⟩
  · cases h
theorem dec_sound : ∀ (s : Sh) (cs : List V) (x : El s) (ys : List Value), dec s cs = some x → RVs I ρ w cs ys → RE I w s x ys
  | .int k, cs, x, ys, h, hy => by
    obtain ⟨v, rfl, h⟩ := only1_eq (f := vInt k) h
    replace h : vInt k v = some x := h
    obtain ⟨z, rfl, hz⟩ := RVs_one.1 hy
    unfold vInt at h
    split at h
    · rename_i k' y _
      by_cases hk : k' = k
      · subst hk; rw [decide_eq_true rfl] at h; cases h
        simp only [RV] at hz; subst hz; rfl
      · rw [decide_eq_false hk] at h; cases h
    · cases h
  | .str, cs, x, ys, h, hy => by
    obtain ⟨v, rfl, h⟩ := only1_eq (f := vStr) h
    replace h : vStr v = some x := h
    obtain ⟨z, rfl, hz⟩ := RVs_one.1 hy
    unfold vStr at h
    split at h
    · cases h; simp only [RV] at hz; subst hz; rfl
    · cases h
  | .bool, cs, x, ys, h, hy => by
    obtain ⟨v, rfl, h⟩ := only1_eq (f := vBool) h
    replace h : vBool v = some x := h
    obtain ⟨z, rfl, hz⟩ := RVs_one.1 hy
    unfold vBool at h
    split at h
    · cases h; simp only [RV] at hz; subst hz; rfl
    · cases h
  | .unit, cs, x, ys, h, hy => by
    rcases cs with _ | ⟨v, r⟩
    · simp only [RVs] at hy; subst hy; rfl
    · cases h
  | .sl s, cs, x, ys, h, hy => by
    obtain ⟨v, rfl, h⟩ := only1_eq (f := asSl s) h
    replace h : asSl s v = some x := h
    obtain ⟨z, rfl, hz⟩ := RVs_one.1 hy
    obtain ⟨a, cap, cs, rfl, h1, h2, h3⟩ := (RV_slV s x z).1 (asSl_sound ρ s v x z h hz)
    exact ⟨a, cap, cs, rfl, h1, h2, h3⟩
  | .pair a b, cs, x, ys, h, hy => by
    simp only [dec] at h
    obtain ⟨p, hp, h⟩ := Option.bind_eq_some_iff.1 h
    obtain ⟨q, hq, h⟩ := Option.map_eq_some_iff.1 h
    subst h
    rw [← List.take_append_drop a.sz cs] at hy
    obtain ⟨y, z, rfl, h1, h2⟩ := RVs_app.1 hy
    exact ⟨y, z, rfl, dec_sound a _ _ _ hp h1, dec_sound b _ _ _ hq h2⟩
end
end Go.PM
