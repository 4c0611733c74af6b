/- What a law's argument reads as, as data, is a value of its type's shape; what a call leaves. -/
import Derived.Test.YtfpdcfgjhkiklaaDoorPmSeg
import Derived.ChangeArms
import Derived.ChangeShapes
import Derived.WideShapes
import Derived.RowKit
import Derived.Below
import Derived.Deep.Slices
set_option linter.unusedSimpArgs false
set_option linter.unusedVariables false
set_option autoImplicit false
namespace Go.PM
open Go.RowKit Go.ChangeShapes Go.WideShapes Go.Deep

/-- Bounds that data keeps. -/
def Wf : (s : Sh) → El s → Prop
  | .int k, x => (Lit.int k x).wf = true
  | .str, x => ByteArray.size x ≤ maxLen
  | .bool, _ => True
  | .sl s, xs => List.length (α := El s) xs ≤ maxLen ∧ ∀ x, List.Mem (α := El s) x xs → Wf s x
  | .pair a b, p => Wf a p.1 ∧ Wf b p.2
  | .unit, _ => True

/-- The fields lie one behind the other. -/
def layF (P : Program) (sh : TypeId → Option Sh) : List Field → Nat → Bool
  | [], _ => true
  | f :: fs, o => Nat.beq f.offset o && (match sh f.type with | some s => Nat.beq s.sz (P.cellsOf f.type) | none => false) && layF P sh fs (o + P.cellsOf f.type)
def lay (P : Program) : Nat → TypeId → Bool
  | 0, _ => false
  | n + 1, t => match P.underlying t with
    | some (.slice e) => lay P n e && (match shOf P n e with | some s => Nat.beq s.sz (P.cellsOf e) | none => false)
    | some (.struct fields) => layF P (shOf P n) fields.toList 0 && fields.toList.all fun f => lay P n f.type
    | _ => true

section
variable {P : Program} {W : World}
theorem cells_at {a : Addr} {n : Nat} {cs : List Value} (h : W.cells? 0 a n = some cs) : cs.length = n ∧ ∀ i u, cs[i]? = some u → W.cell? (a.add i) = some u := by
  obtain ⟨_, hl, hat⟩ := World.cells?_some h
  refine ⟨hl, fun i u hu => ?_⟩
  have hi := (List.getElem?_eq_some_iff.1 hu).1
  rw [hat i (by omega), hu]
theorem mid_none {a : Addr} {v : Value} (h : W.cell? a = some v) : a = ⟨a.block, a.off, none⟩ := by
  unfold World.cell? at h
  obtain ⟨b, i, m⟩ := a
  cases m with
  | none => rfl
  | some q => simp at h; split at h <;> cases h
theorem cell_lt {b o : Nat} {v : Value} (h : W.cell? ⟨b, o, none⟩ = some v) : b < W.heap.size := by
  rcases Nat.lt_or_ge b W.heap.size with h1 | h1
  · exact h1
  · unfold World.cell? at h
    simp [Array.getElem?_eq_none h1] at h

/-- All blocks of a world. -/
abbrev allB (W : World) (b : Nat) : Prop := b < W.heap.size

/-- What reads as data of a type with a shape is of that shape. -/
def OpensS (P : Program) (W : World) (t : TypeId) (s : Sh) : Prop :=
  ∀ {H : Type} (enc : TypeId × Value → H) (fuel : Nat) (cs : List Value) (y : DataW H × List MemPlace),
    DataW.trod enc P W 0 (fun _ => true) true fuel t cs = some y → ∃ x : El s, RE (allB W) W s x cs ∧ Wf s x

theorem opens_slice {t e : TypeId} {s : Sh} (ht : P.underlying t = some (.slice e)) (hs : s.sz = P.cellsOf e) (ho : OpensS P W e s) : OpensS P W t (.sl s) := fun enc fuel cs y h => by
  rcases open_slice ht h with ⟨rfl, _⟩ | ⟨a, len, cap, m, n, D, Pl, rfl, _, hl, hm, hmm, _, hi⟩
  · exact ⟨([] : List (El s)), ⟨none, 0, [], rfl, Nat.le_refl _, rfl, .inl rfl⟩, Nat.zero_le _, fun x hx => by cases hx⟩
  · rw [if_pos rfl] at hmm
    subst hmm
    have key : ∀ k, k ≤ len → ∃ (xs : List (El s)) (ys : List Value), xs.length = k ∧ Rows (RE (allB W) W s) xs ys ∧ ys.length = k * s.sz ∧ (∀ j v, ys[j]? = some v → W.cell? (a.add j) = some v) ∧ ∀ x ∈ xs, Wf s x := by
      intro k
      induction k with
      | zero => exact fun _ => ⟨[], [], rfl, rfl, by simp, fun j v hv => by simp at hv, fun x hx => by cases hx⟩
      | succ k ih =>
        intro hk
        obtain ⟨xs, ys, hlen, hr, hyl, hc, hw⟩ := ih (by omega)
        obtain ⟨c, hcc, hd⟩ := hi k (by omega)
        rw [← hs] at hcc
        obtain ⟨x, hx, hxw⟩ := ho enc n c _ hd
        obtain ⟨h1, h2⟩ := cells_at hcc
        refine ⟨xs ++ [x], ys ++ c, by simp [hlen], ?_, by rw [List.length_append, hyl, h1, Nat.add_mul]; omega, fun j v hv => ?_, fun z hz => ?_⟩
        · refine Rows_append hr ?_
          exact ⟨c, [], by simp, hx, rfl⟩
        · rw [List.getElem?_append] at hv
          split at hv
          · exact hc j v hv
          · rename_i hj
            have := h2 _ _ hv
            rw [Go.Deep.add_add, hyl] at this
            rwa [show k * s.sz + (j - k * s.sz) = j by omega] at this
        · rcases List.mem_append.1 hz with hz | hz
          · exact hw z hz
          · rw [List.mem_singleton.1 hz]; exact hxw
    obtain ⟨xs, ys, hlen, hr, hyl, hc, hw⟩ := key len (Nat.le_refl _)
    subst hlen
    refine ⟨xs, ⟨some a, m, ys, rfl, hl, hr, ?_⟩, Nat.le_trans hl hm, hw⟩
    cases ys with
    | nil => exact .inl rfl
    | cons v0 ys =>
      right
      have h0 := hc 0 v0 rfl
      have ha := mid_none h0
      obtain ⟨ab, ao, as⟩ := a
      have hm : as = none := by
        cases as with
        | none => rfl
        | some q => exfalso; revert ha; simp [Addr.add]
      subst hm
      refine ⟨ab, ao, rfl, ?_, fun j v hv => ?_⟩
      · rw [add_none] at h0; exact cell_lt h0
      · have := hc j v hv
        rwa [add_none] at this

theorem opens_sh : ∀ (n : Nat) (t : TypeId) (s : Sh), shOf P n t = some s → lay P n t = true → s.sz = P.cellsOf t → OpensS P W t s
  | 0, t, s, h, _, _ => by cases h
  | n + 1, t, s, h, hl, hz => by
    unfold shOf at h
    unfold lay at hl
    split at h
    · rename_i k hu
      cases h
      intro enc fuel cs y hd
      obtain ⟨m, rfl, _, hw⟩ := DataW.trod_int hu hd
      exact ⟨m, rfl, hw⟩
    · rename_i hu
      cases h
      intro enc fuel cs y hd
      obtain ⟨m, rfl, _, hw⟩ := DataW.trod_string hu hd
      exact ⟨m, rfl, hw⟩
    · rename_i hu
      cases h
      intro enc fuel cs y hd
      obtain ⟨m, rfl, _⟩ := DataW.trod_bool hu hd
      exact ⟨m, rfl, trivial⟩
    · rename_i e hu
      obtain ⟨s0, hs0, rfl⟩ := Option.map_eq_some_iff.1 h
      rw [hu] at hl
      simp only [Bool.and_eq_true] at hl
      obtain ⟨hl1, hl2⟩ := hl
      rw [hs0] at hl2
      have hl2 := Nat.eq_of_beq_eq_true hl2
      exact opens_slice hu hl2 (opens_sh n e s0 hs0 hl1 hl2)
    · rename_i fields hu
      rw [hu] at hl
      simp only [Bool.and_eq_true] at hl
      obtain ⟨hl1, hl2⟩ := hl
      intro enc fuel cs y hd
      obtain ⟨xs, m, _, _, hlc, hxl, hf⟩ := DataW.trod_struct hu hd
      have hall := List.all_eq_true.1 hl2
      -- the fields' shapes open
      have key : ∀ (fs : List Field) (o : Nat) (s : Sh), (∀ f ∈ fs, lay P n f.type = true) → shF (shOf P n) fs = some s → layF P (shOf P n) fs o = true →
          (∀ f ∈ fs, ∃ y, DataW.trod enc P W 0 (fun _ => true) true m f.type ((cs.drop f.offset).take (P.cellsOf f.type)) = some y) → cs.length = o + s.sz → ∃ x : El s, RE (allB W) W s x (cs.drop o) ∧ Wf s x := by
        intro fs
        induction fs with
        | nil =>
          intro o s _ hs _ _ hl
          simp only [shF, Option.some.injEq] at hs
          subst hs
          exact ⟨(), by rw [List.drop_eq_nil_of_le (by rw [hl]; exact Nat.le_refl _)]; rfl, trivial⟩
        | cons f fs ih =>
          intro o s hla hs hlay hf hl
          rw [layF] at hlay
          simp only [Bool.and_eq_true] at hlay
          obtain ⟨⟨h1, h2⟩, h3⟩ := hlay
          have h1 := Nat.eq_of_beq_eq_true h1
          obtain ⟨y, hy⟩ := hf f (by simp)
          cases fs with
          | nil =>
            simp only [shF] at hs
            rw [hs] at h2
            have h2 := Nat.eq_of_beq_eq_true h2
            rw [h1, List.take_of_length_le (by rw [List.length_drop]; omega)] at hy
            exact opens_sh n _ _ hs (hla f (by simp)) h2 enc m _ _ hy
          | cons g fs =>
            simp only [shF] at hs
            obtain ⟨a, ha, hs⟩ := Option.bind_eq_some_iff.1 hs
            obtain ⟨b, hb, rfl⟩ := Option.map_eq_some_iff.1 hs
            rw [ha] at h2
            have h2 := Nat.eq_of_beq_eq_true h2
            simp only [Sh.sz] at hl
            rw [h1, ← h2] at hy
            obtain ⟨x1, r1, w1⟩ := opens_sh n _ _ ha (hla f (by simp)) h2 enc m _ _ hy
            rw [← h2] at h3
            obtain ⟨x2, r2, w2⟩ := ih (o + a.sz) b (fun q hq => hla q (List.mem_cons_of_mem _ hq)) hb h3 (fun q hq => hf q (List.mem_cons_of_mem _ hq)) (by omega)
            refine ⟨(x1, x2), ⟨_, _, ?_, r1, r2⟩, w1, w2⟩
            rw [← List.drop_drop]; exact (List.take_append_drop _ _).symm
      have := key fields.toList 0 s hall h hl1 (fun f hf' => by
        obtain ⟨i, hi, rfl⟩ := List.getElem_of_mem hf'
        have hi' : i < fields.size := by simpa using hi
        have e : fields[i]? = some fields.toList[i] := by rw [← Array.getElem?_toList, List.getElem?_eq_getElem hi]
        exact ⟨_, (hf i _ e).trans (List.getElem?_eq_getElem (by omega))⟩) (by omega)
      simpa using this
    · cases h

/-- A law's argument. -/
theorem opens_arg {t : TypeId} {s : Sh} (h : OpensS P W t s) {H : Type} {enc : TypeId × Value → H} {v : Value} {y : DataW H} {p : List MemPlace}
    (hv : DataW.Trod enc P W 0 (fun _ => true) true t v y p) : ∃ x : El s, RE (allB W) W s x v.cells.toList ∧ Wf s x := by
  obtain ⟨fuel, hf⟩ := hv
  exact h enc fuel _ _ hf
end

/-- An argument's value. -/
def argV (row : Bool) (s : Sh) (x : El s) : V := match row with
  | true => .agg (enc s x)
  | false => (enc s x).headD (.s undef)
theorem argV_row {I : Nat → Prop} {w : World} {s : Sh} {x : El s} {ys : Array Value} (h : RE I w s x ys.toList) : RV I nil w (.agg (enc s x)) (.agg ys) := by
  simp only [RV]
  exact ⟨ys.toList, rfl, (RE_iff s x _).1 h, RE_one s x _ h⟩
theorem argV_one {I : Nat → Prop} {w : World} {s : Sh} {x : El s} {v : V} {y : Value} (he : enc s x = [v]) (h : RE I w s x [y]) : RV I nil w v y := by
  have := (RE_iff (ρ := nil) s x _).1 h
  rw [he, RVs_one] at this
  obtain ⟨z, hz, h⟩ := this
  cases hz; exact h

/-- A law's end. -/
theorem law_end {P : Program} {G : Glob} {f : FuncId} {args : List V} {b : Bool} {xs : List Value} {W : World} (h : Fact P G f args [] (.s (.bool b), [])) (hG : GOk G (allB W) W) (hx : RVs (allB W) nil W args xs) :
    Calls P f ⟨xs⟩ W fun e W' => e = .returned (.bool b) ∧ Below W.heap.size W W' := by
  refine Calls.mono (h.2 W nil (allB W) xs ⟨fun b hb => hb, fun t b hb => (by simp at hb), fun t t' b b' k k' hb => (by simp at hb), fun t k hk => (by cases hk), hG⟩ hx) ?_
  rintro e W' ⟨x, ρ', I', rfl, L⟩
  have hv := L.val
  simp only [RV] at hv
  subst hv
  have io := L.stays.io
  have h1 := Prod.mk.inj io.1
  exact ⟨rfl, h1.1, h1.2, io.2, L.size, fun b hb => L.keep b hb not_nil_own⟩
end Go.PM
