/- How the relation of states goes on: a value more, a block more, a store, a freeze. -/
import Derived.Test.YtfpdcfgjhkiklaaDoorPmRel
set_option linter.unusedSimpArgs false
set_option linter.unusedVariables false
set_option autoImplicit false
namespace Go.PM

def upd (T : Nat → Option V) (d : Option Nat) (v : V) : Nat → Option V :=
  match d with
  | some d => fun i => bif Nat.beq d i then some v else T i
  | none => T
theorem lk_put (tm : List (Nat × V)) (d : Option Nat) (v : V) : lk (put tm d v) = upd (lk tm) d v := by cases d <;> rfl
def hup (hw : List (Nat × Option Blk)) (H : Heap) : Heap := fun t => match lk hw t with | some x => some x | none => H t
theorem lk_append {α : Type} (a b : List (Nat × α)) (t : Nat) : lk (a ++ b) t = match lk a t with | some x => some x | none => lk b t := by
  induction a with
  | nil => rfl
  | cons x a ih =>
    obtain ⟨j, v⟩ := x
    simp only [List.cons_append, lk]
    cases Nat.beq j t <;> simp [ih]
theorem lk_hw (hw hp : List (Nat × Option Blk)) : lk (hw ++ hp) = hup hw (lk hp) := by
  funext t; rw [lk_append]; unfold hup; cases lk hw t <;> rfl
theorem beq_ne {a b : Nat} (h : ¬ a = b) : Nat.beq a b = false := by
  cases e : Nat.beq a b with
  | false => rfl
  | true => exact absurd (Nat.eq_of_beq_eq_true e) h

theorem Stays.of_heap {I : Nat → Prop} {ρ : Nat → Option Tk} {w w' : World} (h : w'.heap = w.heap) (io : Io w w' := by exact ⟨rfl, rfl⟩) : Stays I I ρ ρ w w' :=
  ⟨fun b hb => ⟨hb, by rw [h]⟩, fun _ _ h => h, fun t k s _ hs => by unfold World.shape? at hs ⊢; rw [h]; exact hs, io⟩

theorem rangeAt_of_heap {w w' : World} {r o : Nat} {ys : List Value} (h : w'.heap[r]? = w.heap[r]?) (g : w.rangeAt r o ys) : w'.rangeAt r o ys := fun j v hv => by
  rw [cell_of_heap h]; exact g j v hv
theorem there_of_heap {w w' : World} {r o n : Nat} (h : w'.heap[r]? = w.heap[r]?) (g : w.there r o n) : w'.there r o n := fun j hj => by
  rw [cell_of_heap h]
  have := g j hj
  unfold World.frozen? at this ⊢
  simp only at this ⊢
  rw [h]; exact this

theorem BlkRel.stay2 {P : Program} {I I' : Nat → Prop} {ρ ρ' : Nat → Option Tk} {w w' : World} (s : Stay2 I I' ρ ρ' w w') {k : Tk} {b : Blk} (hk : w'.heap[k.r]? = w.heap[k.r]?) (h : BlkRel P I ρ w k b) : BlkRel P I' ρ' w' k b := by
  obtain ⟨cs, fz, ys, h1, h2, h3, h4, h5, h6⟩ := h
  exact ⟨cs, fz, ys, hk.trans h1, h2.stay2 s, rangeAt_of_heap hk h3, there_of_heap hk h4, h5, h6⟩
theorem BlkRel.stays {P : Program} {I I' : Nat → Prop} {ρ ρ' : Nat → Option Tk} {w w' : World} (s : Stays I I' ρ ρ' w w') {k : Tk} {b : Blk} (hk : w'.heap[k.r]? = w.heap[k.r]?) (h : BlkRel P I ρ w k b) : BlkRel P I' ρ' w' k b := by
  obtain ⟨cs, fz, ys, h1, h2, h3, h4, h5, h6⟩ := h
  exact ⟨cs, fz, ys, hk.trans h1, h2.stays s, rangeAt_of_heap hk h3, there_of_heap hk h4, h5, h6⟩

section
variable {E : Env} {ρ : Nat → Option Tk} {I : Nat → Prop} {T : Nat → Option V} {H : Heap} {a : Act} {w : World}

/-- The world changes in what nothing hangs on. -/
theorem Sim.heap (S : Sim E ρ I T H a w) {w' : World} (h : w'.heap = w.heap) (io : Io w w' := by exact ⟨rfl, rfl⟩) : Sim E ρ I T H a w' where
  size := by rw [h]; exact S.size
  keep b hb hn := by rw [h]; exact S.keep b hb hn
  st0 := S.st0.trans (.of_heap h io)
  immO b hb := by rw [h]; exact S.immO b hb
  live t b ht := by
    obtain ⟨k, h1, h2, h3, h4, h5⟩ := S.live t b ht
    exact ⟨k, h1, h2, h3.stays (.of_heap h io) (by rw [h]), h4, h5⟩
  dist := S.dist
  dom := S.dom
  tmp i v hv := RV.stays (.of_heap h io) v _ (S.tmp i v hv)
  num := S.num
  dfs := S.dfs.stays (ρ := ρ) (.of_heap h io)

theorem getD_put (a : Act) (d : Option Nat) (x : Value) (N : Nat) (hN : N ≤ a.tmps.size) (hd : dOk d N = true) (i : Nat) :
    (a.put d x).tmps.getD i undef = match d with | some d => if d = i then x else a.tmps.getD i undef | none => a.tmps.getD i undef := by
  cases d with
  | none => rfl
  | some d =>
    have hlt : d < a.tmps.size := by
      have : Nat.blt d N = true := hd
      rw [Nat.blt_eq] at this
      omega
    simp only [Act.put]
    by_cases h : d = i
    · subst h; simp [Array.getD, hlt]
    · rw [if_neg h]
      by_cases hi : i < a.tmps.size
      · simp [Array.getD, hi, h]
      · simp [Array.getD, hi]

/-- A value more. -/
theorem Sim.put (S : Sim E ρ I T H a w) {v : V} {x : Value} (hx : RV I ρ w v x) {d : Option Nat} (hd : dOk d E.N = true) : Sim E ρ I (upd T d v) H (a.put d x) w :=
  { S with
    tmp := fun i u hu => by
      rw [getD_put a d x E.N S.num hd]
      cases d with
      | none => exact S.tmp i u hu
      | some d =>
        simp only [upd] at hu
        by_cases h : d = i
        · subst h
          simp at hu
          subst hu
          simpa using hx
        · have : Nat.beq d i = false := beq_ne h
          rw [this] at hu
          simp only [cond_false] at hu
          simp only [if_neg h]
          exact S.tmp i u hu
    num := by
      have := S.num
      cases d <;> simp [Act.put, this]
    dfs := by
      have := S.dfs
      cases d <;> simp [Act.put, this] }

theorem heap_alloc (w : World) (o : Obj) (b : Nat) (hb : b < w.heap.size) : (w.alloc o).heap[b]? = w.heap[b]? := by
  simp only [World.alloc]; rw [Array.getElem?_push]; rw [if_neg (by omega)]
theorem lt_of_shape {w : World} {b : Nat} {s : TypeId × Nat} (h : w.shape? b = some s) : b < w.heap.size := by
  unfold World.shape? at h
  by_cases hb : b < w.heap.size
  · exact hb
  · simp [Array.getElem?_eq_none (Nat.le_of_not_lt hb)] at h
theorem shape_of_heap {w w' : World} {b : Nat} (h : w'.heap[b]? = w.heap[b]?) : w'.shape? b = w.shape? b := by unfold World.shape?; rw [h]

theorem Stays.alloc (S : Sim E ρ I T H a w) (o : Obj) {ρ' : Nat → Option Tk} (hρ : ∀ t k, ρ t = some k → ρ' t = some k) : Stays I I ρ ρ' w (w.alloc o) :=
  ⟨fun b hb => ⟨hb, heap_alloc w o b (S.immO b hb).1⟩, hρ, fun t k s _ hs => by rw [shape_of_heap (heap_alloc w o _ (lt_of_shape hs))]; exact hs, ⟨rfl, rfl⟩⟩

theorem lt_of_rel {P : Program} {k : Tk} {b : Blk} (h : BlkRel P I ρ w k b) : k.r < w.heap.size := by
  obtain ⟨cs, fz, ys, h1, _⟩ := h
  exact (Array.getElem?_eq_some_iff.1 h1).1

def rhoUp (ρ : Nat → Option Tk) (t : Nat) (k : Tk) : Nat → Option Tk := fun t' => if t' = t then some k else ρ t'

theorem at_hup_one {H : Heap} {tok t : Nat} {b : Option Blk} : at_ (hup [(tok, b)] H) t = if tok = t then b else at_ H t := by
  unfold at_ hup
  simp only [lk]
  by_cases h : tok = t
  · subst h; simp
  · have : Nat.beq tok t = false := beq_ne h
    simp [this, h]

theorem Sim.fresh (S : Sim E ρ I T H a w) {tok : Nat} (hf : fresh H tok = true) : ρ tok = none := by
  cases h : ρ tok with
  | none => rfl
  | some k =>
    have := S.dom tok k h
    unfold Go.PM.fresh at hf
    rw [Option.isNone_iff_eq_none] at hf
    rw [hf] at this; cases this

/-- A block more. -/
theorem Sim.new (S : Sim E ρ I T H a w) {tok : Nat} (hf : Go.PM.fresh H tok = true) {b : Blk} {o : Obj} {k : Tk} (hk : k.r = w.heap.size) (hw : b.wr = true)
    (hb : BlkRel E.P I (rhoUp ρ tok k) (w.alloc o) k b) : Sim E (rhoUp ρ tok k) I T (hup [(tok, some b)] H) a (w.alloc o) := by
  have hr := S.fresh hf
  have hρ : ∀ t k', ρ t = some k' → rhoUp ρ tok k t = some k' := fun t k' h => by
    unfold rhoUp; rw [if_neg (by rintro rfl; rw [hr] at h; cases h)]; exact h
  have st := Stays.alloc S o hρ
  have hs : (w.alloc o).heap.size = w.heap.size + 1 := by unfold World.alloc; exact Array.size_push _
  have hsz := S.size
  refine ⟨by rw [hs]; omega, fun b' hb' hn => (heap_alloc w o b' (by omega)).trans (S.keep b' hb' hn), S.st0.trans st, fun b' hb' => ⟨by rw [hs]; have := (S.immO b' hb').1; omega, (S.immO b' hb').2⟩, ?_, ?_, ?_,
    fun i v hv => RV.stays st v _ (S.tmp i v hv), S.num, S.dfs.stays st⟩
  · intro t b' ht
    rw [at_hup_one] at ht
    by_cases h : tok = t
    · subst h
      rw [if_pos rfl] at ht
      cases ht
      exact ⟨k, by simp [rhoUp], fun hlt => by omega, hb, fun _ hi => by have := (S.immO _ hi).1; omega, fun hf => by rw [hw] at hf; cases hf⟩
    · rw [if_neg h] at ht
      obtain ⟨k', h1, h2, h3, h4, h5⟩ := S.live t b' ht
      exact ⟨k', hρ _ _ h1, h2, h3.stays st (heap_alloc w o _ (lt_of_rel h3)), h4, h5⟩
  · intro t t' b1 b2 k1 k2 h1 h2 e1 e2 hkk hwr
    rw [at_hup_one] at h1 h2
    by_cases ht : tok = t
    · by_cases ht' : tok = t'
      · exact ht.symm.trans ht'
      · exfalso
        rw [if_neg ht'] at h2
        obtain ⟨k', g1, _, g3, _⟩ := S.live t' b2 h2
        have : k2 = k' := by have := hρ _ _ g1; rw [this] at e2; exact (Option.some.inj e2).symm
        have e : k1 = k := by rw [← ht] at e1; simp [rhoUp] at e1; exact e1.symm
        have := lt_of_rel g3
        subst e; subst_vars; omega
    · rw [if_neg ht] at h1
      obtain ⟨k', g1, _, g3, _⟩ := S.live t b1 h1
      have ek : k1 = k' := by have := hρ _ _ g1; rw [this] at e1; exact (Option.some.inj e1).symm
      by_cases ht' : tok = t'
      · exfalso
        have e : k2 = k := by rw [← ht'] at e2; simp [rhoUp] at e2; exact e2.symm
        have := lt_of_rel g3
        subst e; subst_vars; omega
      · rw [if_neg ht'] at h2
        obtain ⟨k'', g1', _, _⟩ := S.live t' b2 h2
        have ek' : k2 = k'' := by have := hρ _ _ g1'; rw [this] at e2; exact (Option.some.inj e2).symm
        subst ek; subst ek'
        exact S.dist t t' b1 b2 k1 k2 h1 h2 g1 g1' hkk hwr
  · intro t k' h
    unfold hup
    simp only [lk]
    by_cases ht : tok = t
    · subst ht; simp
    · have : Nat.beq tok t = false := beq_ne ht
      simp only [this, cond_false]
      refine S.dom t k' ?_
      unfold rhoUp at h
      rwa [if_neg (fun e => ht e.symm)] at h

/-- From w to w' block r alone changes, and not its shape. -/
structure Only (r : Nat) (w w' : World) : Prop where
  size : w'.heap.size = w.heap.size
  other : ∀ b, b ≠ r → w'.heap[b]? = w.heap[b]?
  shape : ∀ s, w.shape? r = some s → w'.shape? r = some s
  io : Io w w'

theorem Only.stays {r : Nat} {w w' : World} (o : Only r w w') (hr : ¬ I r) : Stays I I ρ ρ w w' :=
  ⟨fun b hb => ⟨hb, o.other b (by rintro rfl; exact hr hb)⟩, fun _ _ h => h, fun t k s _ hs => by
    by_cases h : k.r = r
    · rw [h] at hs ⊢; exact o.shape s hs
    · rw [shape_of_heap (o.other _ h)]; exact hs, o.io⟩

/-- A block of one's own is written on. -/
theorem Sim.write (S : Sim E ρ I T H a w) {t0 : Nat} {b b' : Blk} {k : Tk} (ht : at_ H t0 = some b) (hk : ρ t0 = some k) (hw : b.wr = true) (hw' : b'.wr = true) {w' : World} (o : Only k.r w w') (hb : BlkRel E.P I ρ w' k b') :
    Sim E ρ I T (hup [(t0, some b')] H) a w' := by
  obtain ⟨k1, e1, l2, l3, l4, l5⟩ := S.live t0 b ht
  have ek : k1 = k := by rw [e1] at hk; exact Option.some.inj hk
  subst ek
  have hI := l4 hw
  have st : Stays I I ρ ρ w w' := o.stays hI
  refine ⟨by rw [o.size]; exact S.size, fun b1 hb1 hn => (o.other b1 (by rintro rfl; exact hn (l2 hb1))).trans (S.keep b1 hb1 hn), S.st0.trans st, fun b1 h1 => ⟨by rw [o.size]; exact (S.immO b1 h1).1, (S.immO b1 h1).2⟩, ?_, ?_, ?_,
    fun i v hv => RV.stays st v _ (S.tmp i v hv), S.num, S.dfs.stays st⟩
  · intro t b1 h1
    rw [at_hup_one] at h1
    by_cases h : t0 = t
    · subst h
      rw [if_pos rfl] at h1
      cases h1
      exact ⟨k1, e1, l2, hb, fun _ => hI, fun hf => by rw [hw'] at hf; cases hf⟩
    · rw [if_neg h] at h1
      obtain ⟨k', g1, g2, g3, g4, g5⟩ := S.live t b1 h1
      exact ⟨k', g1, g2, g3.stays st (o.other _ fun e => h (S.dist t0 t b b1 k1 k' ht h1 e1 g1 e.symm hw)), g4, g5⟩
  · intro t t' b1 b2 k2 k3 h1 h2 g1 g2 hkk hwr
    rw [at_hup_one] at h1 h2
    by_cases h : t0 = t
    · by_cases h' : t0 = t'
      · exact h.symm.trans h'
      · rw [if_neg h'] at h2
        rw [← h] at g1 ⊢
        exact S.dist t0 t' b b2 k2 k3 ht h2 g1 g2 hkk hw
    · rw [if_neg h] at h1
      by_cases h' : t0 = t'
      · rw [← h'] at g2 ⊢
        exact S.dist t t0 b1 b k2 k3 h1 ht g1 g2 hkk hwr
      · rw [if_neg h'] at h2
        exact S.dist t t' b1 b2 k2 k3 h1 h2 g1 g2 hkk hwr
  · intro t k' h
    unfold hup
    simp only [lk]
    by_cases ht' : t0 = t
    · subst ht'; simp
    · have : Nat.beq t0 t = false := beq_ne ht'
      simp only [this, cond_false]
      exact S.dom t k' h

theorem lk_frz (H : Heap) (t : Nat) : ∀ ts, lk (frz H ts) t = match at_ H t with | some b => if t ∈ ts ∧ b.wr = true then some (some { b with wr := false }) else none | none => none
  | [] => by simp only [frz, lk]; cases at_ H t <;> simp
  | t' :: ts => by
    have ih := lk_frz H t ts
    simp only [frz]
    by_cases e : t' = t
    · subst e
      cases hb : at_ H t' with
      | none => simp only [hb] at ih; simp [ih]
      | some b =>
        simp only [hb] at ih ⊢
        cases hw : b.wr
        · simp only [cond_false]; rw [ih]; simp [hw]
        · simp [lk]
    · have hne : Nat.beq t' t = false := beq_ne e
      have hne' : ¬ t = t' := fun h => e h.symm
      have key : lk (match at_ H t' with | some b => bif b.wr then (t', some { b with wr := false }) :: frz H ts else frz H ts | none => frz H ts) t = lk (frz H ts) t := by
        cases at_ H t' with
        | none => rfl
        | some b => cases hw : b.wr <;> simp [hw, lk, hne]
      refine key.trans (ih.trans ?_)
      cases at_ H t with
      | none => rfl
      | some b => simp [hne']

theorem at_frz (H : Heap) (t : Nat) (ts : List Nat) : at_ (hup (frz H ts) H) t = match at_ H t with | some b => some (if t ∈ ts then { b with wr := false } else b) | none => none := by
  unfold at_ hup
  rw [lk_frz]
  unfold at_
  cases h : (H t).join with
  | none => simp [h]
  | some b =>
    by_cases hm : t ∈ ts
    · cases hw : b.wr
      · simp only [hm, true_and, Bool.false_eq_true, if_false, if_true, h]
        congr 1
        cases b; simp_all
      · simp [hm, hw]
    · simp [hm, h]

def frzI (I : Nat → Prop) (ρ : Nat → Option Tk) (H : Heap) (ts : List Nat) : Nat → Prop := fun r => I r ∨ ∃ t ∈ ts, ∃ b k, at_ H t = some b ∧ ρ t = some k ∧ k.r = r

/-- Blocks that may not be written on from here on. -/
theorem Sim.freeze (S : Sim E ρ I T H a w) (ts : List Nat) : Sim E ρ (frzI I ρ H ts) T (hup (frz H ts) H) a w := by
  have st : Stays I (frzI I ρ H ts) ρ ρ w w := ⟨fun b hb => ⟨.inl hb, rfl⟩, fun _ _ h => h, fun _ _ _ _ h => h, .rfl⟩
  refine ⟨S.size, S.keep, S.st0.trans st, ?_, ?_, ?_, ?_, fun i v hv => RV.stays st v _ (S.tmp i v hv), S.num, S.dfs.stays st⟩
  · rintro b (hb | ⟨t, _, b1, k, h1, h2, rfl⟩)
    · exact S.immO b hb
    · obtain ⟨k', g1, g2, g3, _⟩ := S.live t b1 h1
      rw [g1] at h2; cases h2
      exact ⟨lt_of_rel g3, fun h => .inr (g2 h)⟩
  · intro t b ht
    rw [at_frz] at ht
    cases hb : at_ H t with
    | none => rw [hb] at ht; cases ht
    | some b0 =>
      rw [hb] at ht
      simp only [Option.some.injEq] at ht
      obtain ⟨k, g1, g2, g3, g4, g5⟩ := S.live t b0 hb
      by_cases hm : t ∈ ts
      · rw [if_pos hm] at ht
        subst ht
        refine ⟨k, g1, g2, ?_, fun h => (by cases h), fun _ => .inr ⟨t, hm, b0, k, hb, g1, rfl⟩⟩
        obtain ⟨cs, fz, ys, h1, h2, h3, h4, h5, h6⟩ := g3.stays st rfl
        exact ⟨cs, fz, ys, h1, h2, h3, h4, h5, h6⟩
      · rw [if_neg hm] at ht
        subst ht
        refine ⟨k, g1, g2, g3.stays st rfl, ?_, fun h => .inl (g5 h)⟩
        rintro hw (hi | ⟨t', hm', b1, k', h1, h2, h3⟩)
        · exact g4 hw hi
        · have := S.dist t t' b0 b1 k k' hb h1 g1 h2 h3.symm hw
          subst this
          exact hm hm'
  · intro t t' b1 b2 k1 k2 h1 h2 g1 g2 hkk hwr
    rw [at_frz] at h1 h2
    cases hb : at_ H t with
    | none => rw [hb] at h1; cases h1
    | some b0 =>
      cases hb' : at_ H t' with
      | none => rw [hb'] at h2; cases h2
      | some b0' =>
        rw [hb] at h1
        simp only [Option.some.injEq] at h1
        refine S.dist t t' b0 b0' k1 k2 hb hb' g1 g2 hkk ?_
        by_cases hm : t ∈ ts
        · rw [if_pos hm] at h1; subst h1; cases hwr
        · rw [if_neg hm] at h1; subst h1; exact hwr
  · intro t k h
    unfold hup
    cases lk (frz H ts) t with
    | some x => rfl
    | none => exact S.dom t k h
end
end Go.PM
