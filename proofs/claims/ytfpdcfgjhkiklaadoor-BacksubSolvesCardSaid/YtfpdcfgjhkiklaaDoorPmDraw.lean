/- A region that draws its order: whatever order comes, the evaluator's own tells what becomes of it. -/
import Derived.Test.YtfpdcfgjhkiklaaDoorPmLocal
set_option linter.unusedSimpArgs false
set_option linter.unusedVariables false
set_option autoImplicit false
namespace Go.PM

/-! The bits of `before`. -/
def befStep (acc : Array Nat) (o : Oper) : Nat := o.after.foldl (fun s e => if Region.binds .any e then s ||| 2 ^ e.on ||| acc.getD e.on 0 else s) 0
theorem before_eq (ops : Array Oper) : Region.before ops = ops.toList.foldl (fun acc o => acc.push (befStep acc o)) #[] := by
  unfold Region.before
  rw [← Array.foldl_toList]
  rfl
theorem befStep_bit {acc : Array Nat} {o : Oper} {k : Nat} (h : (befStep acc o).testBit k = true) : ∃ e ∈ o.after, Region.binds .any e = true ∧ (e.on = k ∨ (acc.getD e.on 0).testBit k = true) := by
  unfold befStep at h
  rw [← Array.foldl_toList] at h
  have key : ∀ (l : List Edge) (s : Nat), (l.foldl (fun s e => if Region.binds .any e then s ||| 2 ^ e.on ||| acc.getD e.on 0 else s) s).testBit k = true → s.testBit k = true ∨ ∃ e ∈ l, Region.binds .any e = true ∧ (e.on = k ∨ (acc.getD e.on 0).testBit k = true) := by
    intro l
    induction l with
    | nil => intro s h; exact .inl h
    | cons e l ih =>
      intro s h
      simp only [List.foldl_cons] at h
      rcases ih _ h with h | ⟨e', he', h'⟩
      · split at h
        · rename_i hb
          simp only [Nat.testBit_or, Bool.or_eq_true] at h
          rcases h with (h | h) | h
          · exact .inl h
          · refine .inr ⟨e, List.mem_cons_self, hb, .inl ?_⟩
            rw [Nat.testBit_two_pow] at h
            simpa using h
          · exact .inr ⟨e, List.mem_cons_self, hb, .inr h⟩
        · exact .inl h
      · exact .inr ⟨e', List.mem_cons_of_mem _ he', h'⟩
  rcases key _ _ h with h | ⟨e, he, h⟩
  · simp at h
  · exact ⟨e, by simpa using he, h⟩
theorem foldl_push : ∀ (l : List Oper) (acc : Array Nat), (∀ j, j < acc.size → (l.foldl (fun acc o => acc.push (befStep acc o)) acc).getD j 0 = acc.getD j 0) ∧
    ∀ (q : Nat) (o : Oper), l[q]? = some o → ∃ acc' : Array Nat, (∀ j v, acc'.getD j 0 = v → v ≠ 0 → j < acc.size + q ∧ (l.foldl (fun acc o => acc.push (befStep acc o)) acc).getD j 0 = v) ∧ (l.foldl (fun acc o => acc.push (befStep acc o)) acc).getD (acc.size + q) 0 = befStep acc' o
  | [], acc => ⟨fun _ _ => rfl, fun q o h => by simp at h⟩
  | o :: l, acc => by
    obtain ⟨h1, h2⟩ := foldl_push l (acc.push (befStep acc o))
    simp only [List.foldl_cons]
    have hp : ∀ j, j < acc.size → (l.foldl (fun acc o => acc.push (befStep acc o)) (acc.push (befStep acc o))).getD j 0 = acc.getD j 0 := fun j hj => by
      rw [h1 j (by simp; omega)]
      simp [Array.getD, hj, Nat.lt_succ_of_lt hj, Array.getElem_push_lt hj]
    refine ⟨hp, fun q o' hq => ?_⟩
    cases q with
    | zero =>
      simp only [List.getElem?_cons_zero, Option.some.injEq] at hq
      subst hq
      refine ⟨acc, fun j v hv hn => ?_, ?_⟩
      · have hj : j < acc.size := by
          rcases Nat.lt_or_ge j acc.size with h | h
          · exact h
          · exfalso; apply hn; rw [← hv]; simp [Array.getD, Nat.not_lt.2 h]
        exact ⟨hj, by rw [hp j hj]; exact hv⟩
      · rw [Nat.add_zero, h1 acc.size (by simp)]
        simp [Array.getD]
    | succ q =>
      obtain ⟨acc', g1, g2⟩ := h2 q o' (by simpa using hq)
      refine ⟨acc', fun j v hv hn => ?_, ?_⟩
      · have := g1 j v hv hn
        simp only [Array.size_push] at this
        exact ⟨by omega, this.2⟩
      · rw [Array.size_push] at g2
        rw [show acc.size + (q + 1) = acc.size + 1 + q by omega]
        exact g2
/-- A bit of `before` comes from an edge. -/
theorem before_bit {ops : Array Oper} {j k : Nat} {o : Oper} (ho : ops[j]? = some o) (h : ((Region.before ops).getD j 0).testBit k = true) :
    ∃ e ∈ o.after, Region.binds .any e = true ∧ (e.on = k ∨ (e.on < j ∧ ((Region.before ops).getD e.on 0).testBit k = true)) := by
  rw [before_eq] at h ⊢
  obtain ⟨_, h2⟩ := foldl_push ops.toList #[]
  obtain ⟨acc', g1, g2⟩ := h2 j o (by simpa using ho)
  simp only [List.size_toArray, List.length_nil, Nat.zero_add] at g1 g2
  rw [g2] at h
  obtain ⟨e, he, hb, h⟩ := befStep_bit h
  refine ⟨e, he, hb, h.imp id fun hbit => ?_⟩
  have hne : acc'.getD e.on 0 ≠ 0 := fun e0 => by rw [e0] at hbit; simp at hbit
  obtain ⟨q1, q2⟩ := g1 e.on _ rfl hne
  exact ⟨q1, by rw [q2]; exact hbit⟩
theorem before_none {ops : Array Oper} {j : Nat} (ho : ops[j]? = none) : (Region.before ops).getD j 0 = 0 := by
  rw [before_eq]
  have hs : ∀ (l : List Oper) (acc : Array Nat), (l.foldl (fun acc o => acc.push (befStep acc o)) acc).size = acc.size + l.length := by
    intro l
    induction l with
    | nil => intro acc; rfl
    | cons o l ih => intro acc; simp only [List.foldl_cons]; rw [ih]; simp; omega
  have : ops.size ≤ j := Array.getElem?_eq_none_iff.1 ho
  have h2 := hs ops.toList #[]
  simp only [List.size_toArray, List.length_nil, Nat.zero_add, Array.length_toList] at h2
  rw [Array.getD_eq_getD_getElem?, Array.getElem?_eq_none (by omega)]
  rfl

/-! What stands behind some of the operations, in the text's order. -/
def valOf : Option Eff → V
  | some e => e.v
  | none => .s undef
def hwOf : Option Eff → List (Nat × Option Blk)
  | some e => e.hw
  | none => []
def dstAt (ops : Array Oper) (i : Nat) : Option Nat := (ops[i]?).bind (·.dst)
def TS (ops : Array Oper) (S : Nat → Bool) : Nat → List (Option Eff) → (Nat → Option V) → (Nat → Option V)
  | _, [], T => T
  | i, e :: es, T => TS ops S (i + 1) es (bif S i then upd T (dstAt ops i) (valOf e) else T)
def HS (S : Nat → Bool) : Nat → List (Option Eff) → Heap → Heap
  | _, [], H => H
  | i, e :: es, H => HS S (i + 1) es (bif S i then hup (hwOf e) H else H)

theorem upd_ne {T : Nat → Option V} {d : Option Nat} {v : V} {t : Nat} (h : d ≠ some t) : upd T d v t = T t := by
  cases d with
  | none => rfl
  | some d =>
    simp only [upd]
    rw [beq_ne (fun e => h (by rw [e]))]
    rfl
theorem upd_eq {T : Nat → Option V} {v : V} {t : Nat} : upd T (some t) v t = some v := by simp [upd]
theorem upd_at {T T' : Nat → Option V} {d : Option Nat} {v : V} {t : Nat} (h : T t = T' t) : upd T d v t = upd T' d v t := by
  by_cases e : d = some t
  · subst e; rw [upd_eq, upd_eq]
  · rw [upd_ne e, upd_ne e]; exact h
theorem hup_ne {H : Heap} {hw : List (Nat × Option Blk)} {k : Nat} (h : k ∉ hw.map (·.1)) : hup hw H k = H k := by
  unfold hup
  cases e : lk hw k with
  | none => rfl
  | some x => exact absurd (List.mem_map.2 ⟨(k, x), lk_mem e, rfl⟩) h
theorem hup_at {H H' : Heap} {hw : List (Nat × Option Blk)} {k : Nat} (h : H k = H' k) : hup hw H k = hup hw H' k := by
  unfold hup; cases lk hw k <;> simp [h]

theorem TS_at {ops : Array Oper} {S S' : Nat → Bool} {t : Nat} : ∀ {es : List (Option Eff)} {i : Nat} {T T' : Nat → Option V}, (∀ j, i ≤ j → j < i + es.length → S j ≠ S' j → dstAt ops j ≠ some t) → T t = T' t → TS ops S i es T t = TS ops S' i es T' t
  | [], i, T, T', _, h => h
  | e :: es, i, T, T', hd, h => by
    simp only [TS]
    refine TS_at (fun j hj hj' => hd j (by omega) (by simp; omega)) ?_
    by_cases hS : S i = S' i
    · rw [hS]
      cases S' i
      · exact h
      · exact upd_at h
    · have := hd i (Nat.le_refl _) (by simp) hS
      cases h1 : S i <;> cases h2 : S' i <;> simp only [cond_true, cond_false]
      · exact h
      · rw [upd_ne this]; exact h
      · rw [upd_ne this]; exact h
      · exact upd_at h
theorem HS_at {S S' : Nat → Bool} {k : Nat} : ∀ {es : List (Option Eff)} {i : Nat} {H H' : Heap}, (∀ (j : Nat) (e : Option Eff), es[j]? = some e → S (i + j) ≠ S' (i + j) → k ∉ (hwOf e).map (·.1)) → H k = H' k → HS S i es H k = HS S' i es H' k
  | [], i, H, H', _, h => h
  | e :: es, i, H, H', hd, h => by
    simp only [HS]
    refine HS_at (fun j e' hj hne => hd (j + 1) e' (by simpa using hj) (by rwa [show i + (j + 1) = i + 1 + j by omega])) ?_
    by_cases hS : S i = S' i
    · rw [hS]
      cases S' i
      · exact h
      · exact hup_at h
    · have := hd 0 e rfl (by simpa using hS)
      cases h1 : S i <;> cases h2 : S' i <;> simp only [cond_true, cond_false]
      · exact h
      · rw [hup_ne this]; exact h
      · rw [hup_ne this]; exact h
      · exact hup_at h

/-- One operation more. -/
theorem TS_add {ops : Array Oper} {S S' : Nat → Bool} {i0 : Nat} (h0 : S i0 = false) (h1 : S' i0 = true) (hne : ∀ j, j ≠ i0 → S' j = S j) : ∀ {es : List (Option Eff)} {i : Nat} {T : Nat → Option V} {e0 : Option Eff}, i ≤ i0 → es[i0 - i]? = some e0 →
    (∀ j t, i0 < j → j < i + es.length → S j = true → dstAt ops i0 = some t → dstAt ops j ≠ some t) → ∀ t, TS ops S' i es T t = upd (TS ops S i es T) (dstAt ops i0) (valOf e0) t
  | [], i, T, e0, _, h, _, _ => by simp at h
  | e :: es, i, T, e0, hi, he, hd, t => by
    simp only [TS]
    by_cases e1 : i = i0
    · subst e1
      rw [Nat.sub_self, List.getElem?_cons_zero] at he
      cases he
      rw [h0, h1]
      simp only [cond_true, cond_false]
      by_cases ed : dstAt ops i = some t
      · rw [ed, upd_eq]
        have : TS ops S' (i + 1) es (upd T (some t) (valOf e)) t = TS ops (fun _ => false) (i + 1) es (upd T (some t) (valOf e)) t := TS_at (fun j hj hj' hne' => by
          have hj2 : j ≠ i := by omega
          rw [hne j hj2] at hne'
          exact hd j t (by omega) (by simp; omega) (by cases h : S j <;> simp_all) ed) rfl
        rw [this]
        have hno : ∀ (es : List (Option Eff)) (i : Nat) (T : Nat → Option V), TS ops (fun _ => false) i es T = T := by
          intro es
          induction es with
          | nil => intro i T; rfl
          | cons e es ih => intro i T; simp only [TS, cond_false]; exact ih _ _
        rw [hno, upd_eq]
      · rw [upd_ne ed]
        exact TS_at (fun j hj hj' hne' => absurd (hne j (by omega)) hne') (upd_ne ed)
    · have hi' : i < i0 := by omega
      rw [hne i e1]
      exact TS_add h0 h1 hne (by omega) (by rw [show i0 - i = (i0 - (i + 1)) + 1 by omega] at he; simpa using he) (fun j t hj hj' => hd j t hj (by simp; omega)) t
theorem HS_add {S S' : Nat → Bool} {i0 : Nat} (h0 : S i0 = false) (h1 : S' i0 = true) (hne : ∀ j, j ≠ i0 → S' j = S j) : ∀ {es : List (Option Eff)} {i : Nat} {H : Heap} {e0 : Option Eff}, i ≤ i0 → es[i0 - i]? = some e0 →
    (∀ (j : Nat) (e : Option Eff) (k : Nat), es[j]? = some e → i0 < i + j → S (i + j) = true → k ∈ (hwOf e0).map (·.1) → k ∉ (hwOf e).map (·.1)) → ∀ k, HS S' i es H k = hup (hwOf e0) (HS S i es H) k
  | [], i, H, e0, _, h, _, _ => by simp at h
  | e :: es, i, H, e0, hi, he, hd, k => by
    simp only [HS]
    by_cases e1 : i = i0
    · subst e1
      rw [Nat.sub_self, List.getElem?_cons_zero] at he
      cases he
      rw [h0, h1]
      simp only [cond_true, cond_false]
      by_cases ed : k ∈ (hwOf e).map (·.1)
      · have hsome : ∃ x, lk (hwOf e) k = some x := by
          cases e' : lk (hwOf e) k with
          | some x => exact ⟨x, rfl⟩
          | none =>
            obtain ⟨p, hp, rfl⟩ := List.mem_map.1 ed
            exact absurd hp (lk_none e' p.2)
        obtain ⟨x, hx⟩ := hsome
        have : HS S' (i + 1) es (hup (hwOf e) H) k = HS (fun _ => false) (i + 1) es (hup (hwOf e) H) k := HS_at (fun j e' hj hne' => by
          have hj2 : i + 1 + j ≠ i := by omega
          rw [hne _ hj2] at hne'
          exact hd (j + 1) e' k (by simpa using hj) (by omega) (by rw [show i + (j + 1) = i + 1 + j by omega]; cases h : S (i + 1 + j) <;> simp_all) ed) rfl
        rw [this]
        have hno : ∀ (es : List (Option Eff)) (i : Nat) (H : Heap), HS (fun _ => false) i es H = H := by
          intro es
          induction es with
          | nil => intro i T; rfl
          | cons e es ih => intro i T; simp only [HS, cond_false]; exact ih _ _
        rw [hno]
        unfold hup
        rw [hx]
      · rw [hup_ne ed]
        exact HS_at (fun j e' hj hne' => absurd (hne _ (by omega)) hne') (hup_ne ed)
    · have hi' : i < i0 := by omega
      rw [hne i e1]
      exact HS_add h0 h1 hne (by omega) (by rw [show i0 - i = (i0 - (i + 1)) + 1 by omega] at he; simpa using he) (fun j e' k' hj hlt hS => hd (j + 1) e' k' (by simpa using hj) (by omega) (by rwa [show i + (j + 1) = i + 1 + j by omega])) k

/-- A guard's answer. -/
def GuardIs (ops : Array Oper) (o : Oper) (T : Nat → Option V) (e : Option Eff) : Prop :=
  match e with
  | some _ => o.guard = none ∨ ∃ j want, o.guard = some (j, want) ∧ ((ops[j]?).bind (·.dst)).bind T = some (.s (.bool want))
  | none => ∃ j want, o.guard = some (j, want) ∧ ((∃ b, ((ops[j]?).bind (·.dst)).bind T = some (.s (.bool b)) ∧ b ≠ want) ∨ ∃ vs, ((ops[j]?).bind (·.dst)).bind T = some (.s (.tuple vs)))

theorem run_facts {Y : Type} {X : Ctx Y} {ops : Array Oper} {base i : Nat} {st st' : St} {es : List (Option Eff)} (h : Run X ops base i st es st') :
    lk st'.tm = TS ops (fun _ => true) i es (lk st.tm) ∧ lk st'.hp = HS (fun _ => true) i es (lk st.hp) ∧
    ∀ (q : Nat) (e : Option Eff), es[q]? = some e → ∃ o, ops[i + q]? = some o ∧ dOk o.dst X.N = true ∧ GuardIs ops o (TS ops (fun j => Nat.blt j (i + q)) i es (lk st.tm)) e ∧
      ∀ e', e = some e' → opE X o (TS ops (fun j => Nat.blt j (i + q)) i es (lk st.tm)) (HS (fun j => Nat.blt j (i + q)) i es (lk st.hp)) (base + 16 * (i + q)) some = some e' := by
  have hlow : ∀ (es : List (Option Eff)) (i m : Nat) (T : Nat → Option V), m ≤ i → TS ops (fun j => Nat.blt j m) i es T = T := by
    intro es
    induction es with
    | nil => intro i m T _; rfl
    | cons e es ih =>
      intro i m T hm
      simp only [TS]
      have : Nat.blt i m = false := by cases e : Nat.blt i m with | false => rfl | true => rw [Nat.blt_eq] at e; omega
      rw [this]; exact ih _ _ _ (by omega)
  have hlowH : ∀ (es : List (Option Eff)) (i m : Nat) (H : Heap), m ≤ i → HS (fun j => Nat.blt j m) i es H = H := by
    intro es
    induction es with
    | nil => intro i m T _; rfl
    | cons e es ih =>
      intro i m T hm
      simp only [HS]
      have : Nat.blt i m = false := by cases e : Nat.blt i m with | false => rfl | true => rw [Nat.blt_eq] at e; omega
      rw [this]; exact ih _ _ _ (by omega)
  have hblt : ∀ i q, Nat.blt i (i + (q + 1)) = true := fun i q => by rw [Nat.blt_eq]; omega
  induction h with
  | nil i st => exact ⟨rfl, rfl, fun q e h => by simp at h⟩
  | @same i st st0 st' es ht hh hp h ih => rw [ht, hh] at ih; exact ih
  | @skip i st st' es o ho hd hg h ih =>
    obtain ⟨h1, h2, h3⟩ := ih
    have hdst : dstAt ops i = o.dst := by unfold dstAt; rw [ho]; rfl
    refine ⟨?_, ?_, fun q e hq => ?_⟩
    · rw [h1]; simp only [TS, cond_true, valOf, hdst, lk_put]
    · rw [h2]; rfl
    · cases q with
      | zero =>
        simp only [List.getElem?_cons_zero, Option.some.injEq] at hq
        subst hq
        rw [Nat.add_zero]
        refine ⟨o, ho, hd, ?_, fun e' he => by cases he⟩
        rw [hlow _ _ _ _ (Nat.le_refl _)]
        exact hg
      | succ q =>
        obtain ⟨o', g1, g2, g3, g4⟩ := h3 q e (by simpa using hq)
        rw [show i + 1 + q = i + (q + 1) by omega] at g1 g3 g4
        refine ⟨o', g1, g2, ?_, fun e' he => ?_⟩
        · simp only [TS, hblt, cond_true, valOf, hdst]; rw [← lk_put]; exact g3
        · have := g4 e' he
          simp only [TS, HS, hblt, cond_true, valOf, hwOf, hdst]; rw [← lk_put]; exact this
  | @op i st st' es o e0 ho hd hg he h ih =>
    obtain ⟨h1, h2, h3⟩ := ih
    have hdst : dstAt ops i = o.dst := by unfold dstAt; rw [ho]; rfl
    refine ⟨?_, ?_, fun q e hq => ?_⟩
    · rw [h1]; simp only [TS, cond_true, valOf, hdst, lk_put]
    · rw [h2]; simp only [HS, cond_true, hwOf, lk_hw]
    · cases q with
      | zero =>
        simp only [List.getElem?_cons_zero, Option.some.injEq] at hq
        subst hq
        rw [Nat.add_zero]
        refine ⟨o, ho, hd, ?_, fun e' he' => ?_⟩
        · rw [hlow _ _ _ _ (Nat.le_refl _)]; exact hg
        · cases he'
          rw [hlow _ _ _ _ (Nat.le_refl _), hlowH _ _ _ _ (Nat.le_refl _)]
          exact he
      | succ q =>
        obtain ⟨o', g1, g2, g3, g4⟩ := h3 q e (by simpa using hq)
        rw [show i + 1 + q = i + (q + 1) by omega] at g1 g3 g4
        refine ⟨o', g1, g2, ?_, fun e' he => ?_⟩
        · simp only [TS, hblt, cond_true, valOf, hdst]; rw [← lk_put]; exact g3
        · have := g4 e' he
          simp only [TS, HS, hblt, cond_true, valOf, hwOf, hdst]; rw [← lk_put, ← lk_hw]; exact this

theorem trOf_mem : ∀ {es : List (Option Eff)} {i : Nat} {tr : List Ev}, (∀ x ∈ tr, x ∈ trOf i es tr) ∧ ∀ (q : Nat) (e : Option Eff), es[q]? = some e → (⟨i + q, (match e with | some e => e.rd | none => []), (hwOf e).map (·.1)⟩ : Ev) ∈ trOf i es tr
  | [], i, tr => ⟨fun x h => h, fun q e h => by simp at h⟩
  | none :: es, i, tr => by
    obtain ⟨h1, h2⟩ := trOf_mem (es := es) (i := i + 1) (tr := ⟨i, [], []⟩ :: tr)
    refine ⟨fun x h => h1 x (List.mem_cons_of_mem _ h), fun q e hq => ?_⟩
    cases q with
    | zero => cases hq; exact h1 _ List.mem_cons_self
    | succ q => have := h2 q e (by simpa using hq); rwa [show i + 1 + q = i + (q + 1) by omega] at this
  | some e0 :: es, i, tr => by
    obtain ⟨h1, h2⟩ := trOf_mem (es := es) (i := i + 1) (tr := ⟨i, e0.rd, e0.hw.map (·.1)⟩ :: tr)
    refine ⟨fun x h => h1 x (List.mem_cons_of_mem _ h), fun q e hq => ?_⟩
    cases q with
    | zero => cases hq; exact h1 _ List.mem_cons_self
    | succ q => have := h2 q e (by simpa using hq); rwa [show i + 1 + q = i + (q + 1) by omega] at this
theorem disj_eq {a b : List Nat} (h : disj a b = true) : ∀ t ∈ a, t ∉ b := fun t ha hb => by
  unfold disj at h
  rw [List.all_eq_true] at h
  have := h t ha
  simp only [Bool.not_eq_true', List.any_eq_false] at this
  exact this t hb (Nat.beq_refl t)

/-- What is asked of a region that draws its order. -/
theorem draw_sound {E : Env} {F : Fence} {n : Nat} {Y : Type} {X : Ctx Y} {G : Glob} (hF : Open F) (hX : CallOk E.P G X.call) (hG : GOk G E.I0 E.w0) (hP : X.P = E.P) (hN : X.N = E.N) {ops : Array Oper} {base : Nat} {st st' : St} {es : List (Option Eff)} {Q : Exit → Act → World → Prop}
    (hrun : Run X ops base 0 st es st') (hlen : es.length = ops.size) (hchk : chk ops (trOf 0 es []) = true) (hQ : ∀ ρ' I' a' w', Sim E ρ' I' (lk st'.tm) (lk st'.hp) a' w' → Q .normal a' w')
    {ρ : Nat → Option Tk} {I : Nat → Prop} {a : Act} {w : World} (S0 : Sim E ρ I (lk st.tm) (lk st.hp) a w) : wpAnyIn F n E.P .any ops Q ops.size (Array.replicate ops.size false) a w := by
  obtain ⟨f1, f2, f3⟩ := run_facts hrun
  unfold chk at hchk
  simp only [Bool.and_eq_true] at hchk
  obtain ⟨⟨hc1, hc2⟩, hc3⟩ := hchk
  -- every edge leads back
  have hback : ∀ (j : Nat) (o : Oper), ops[j]? = some o → ∀ e ∈ o.after, Region.binds .any e = true → e.on < j := fun j o ho e he hb => by
    rw [List.all_eq_true] at hc3
    have := hc3 j (by rw [List.mem_range]; exact (Array.getElem?_eq_some_iff.1 ho).1)
    rw [ho] at this
    simp only [Array.all_eq_true_iff_forall_mem] at this
    have := this e he
    rw [hb] at this
    simpa [Nat.blt_eq] using this
  have hbit : ∀ (j k : Nat), ((Region.before ops).getD j 0).testBit k = true → k < j := by
    intro j
    induction j using Nat.strongRecOn with
    | _ j ih =>
      intro k h
      cases ho : ops[j]? with
      | none => rw [before_none ho] at h; simp at h
      | some o =>
        obtain ⟨e, he, hb, h⟩ := before_bit ho h
        have := hback j o ho e he hb
        rcases h with h | ⟨h1, h2⟩
        · omega
        · have := ih e.on h1 k h2; omega
  have hclosed : ∀ (S : Nat → Bool), (∀ (j : Nat) (o : Oper), S j = true → ops[j]? = some o → ∀ e ∈ o.after, Region.binds .any e = true → S e.on = true) →
      ∀ (j k : Nat), S j = true → ((Region.before ops).getD j 0).testBit k = true → S k = true := by
    intro S hS j
    induction j using Nat.strongRecOn with
    | _ j ih =>
      intro k hj h
      cases ho : ops[j]? with
      | none => rw [before_none ho] at h; simp at h
      | some o =>
        obtain ⟨e, he, hb, h⟩ := before_bit ho h
        have hs := hS j o hj ho e he hb
        rcases h with h | ⟨h1, h2⟩
        · rw [← h]; exact hs
        · exact ih e.on h1 k hs h2
  -- two operations that may come in either order
  have hpair : ∀ (i j : Nat) (ei ej : Option Eff) (oi : Oper), es[i]? = some ei → es[j]? = some ej → ops[i]? = some oi → i ≠ j → ((Region.before ops).getD i 0).testBit j = false → ((Region.before ops).getD j 0).testBit i = false →
      (∀ t ∈ oi.looksAt ops, dstAt ops j ≠ some t) ∧ (∀ t, dstAt ops i = some t → dstAt ops j ≠ some t) ∧ (∀ e', ei = some e' → ∀ k ∈ onToks e', k ∉ (hwOf ej).map (·.1)) := fun i j ei ej oi hi hj hoi hne h1 h2 => by
    have mi := (trOf_mem (es := es) (i := 0) (tr := [])).2 i ei hi
    have mj := (trOf_mem (es := es) (i := 0) (tr := [])).2 j ej hj
    rw [List.all_eq_true] at hc1
    have := hc1 _ mj
    rw [List.all_eq_true] at this
    have := this _ mi
    simp only [Nat.zero_add, Bool.or_eq_true] at this
    rcases this with h | h
    · exact absurd (Nat.eq_of_beq_eq_true h).symm hne
    · unfold apart at h
      simp only [h1, h2, Bool.false_or] at h
      cases hoj : ops[j]? with
      | none => rw [hoj] at h; cases h
      | some oj =>
        rw [hoj, hoi] at h
        simp only [Bool.and_eq_true] at h
        obtain ⟨⟨⟨g1, g2⟩, g3⟩, g4⟩ := h
        obtain ⟨a1, a2, a3⟩ := Oper.apart_spec g1
        have hdj : dstAt ops j = oj.dst := by unfold dstAt; rw [hoj]; rfl
        have hdi : dstAt ops i = oi.dst := by unfold dstAt; rw [hoi]; rfl
        refine ⟨fun t ht e => a1 t (by rw [← hdj]; exact e) ht, fun t ht e => a2 t (by rw [← hdj]; exact e) (by rw [← hdi]; exact ht), fun e' he k hk hm => ?_⟩
        subst he
        rcases List.mem_append.1 hk with hk | hk
        · exact disj_eq g2 k hm hk
        · exact disj_eq g3 k hm hk
  -- the walk
  have key : ∀ (fuel : Nat) (listed : Array Bool) (ρ : Nat → Option Tk) (I : Nat → Prop) (a : Act) (w : World), listed.size = ops.size → ((List.range ops.size).filter fun j => !listed.getD j false).length = fuel →
      (∀ (j : Nat) (o : Oper), listed.getD j false = true → ops[j]? = some o → ∀ e ∈ o.after, Region.binds .any e = true → listed.getD e.on false = true) →
      Sim E ρ I (TS ops (fun j => listed.getD j false) 0 es (lk st.tm)) (HS (fun j => listed.getD j false) 0 es (lk st.hp)) a w → wpAnyIn F n E.P .any ops Q fuel listed a w := by
    intro fuel
    induction fuel with
    | zero =>
      intro listed ρ I a w hs hcount hcl S
      have hall : ∀ j, j < ops.size → listed.getD j false = true := fun j hj => by
        have := List.eq_nil_of_length_eq_zero hcount
        rw [List.filter_eq_nil_iff] at this
        have := this j (by simpa using hj)
        simpa using this
      refine ⟨?_, ?_⟩
      · rw [List.eq_nil_iff_forall_not_mem]
        intro j hj
        obtain ⟨h1, o, ho, _⟩ := mem_ready.1 hj
        have hlt := (Array.getElem?_eq_some_iff.1 ho).1
        have := hall j hlt
        have hl : j < listed.size := by omega
        simp only [Array.getD, hl, dif_pos] at h1 this
        rw [h1] at this; cases this
      · refine hQ ρ I a w ?_
        have e1 : TS ops (fun j => listed.getD j false) 0 es (lk st.tm) = lk st'.tm := by
          rw [f1]; funext t
          exact TS_at (fun j _ hj hne => absurd (hall j (by omega)) hne) rfl
        have e2 : HS (fun j => listed.getD j false) 0 es (lk st.hp) = lk st'.hp := by
          rw [f2]; funext t
          exact HS_at (fun j e he hne => absurd (hall (0 + j) (by have := (List.getElem?_eq_some_iff.1 he).1; omega)) hne) rfl
        rw [← e1, ← e2]; exact S
    | succ fuel ih =>
      intro listed ρ I a w hs hcount hcl S
      refine ⟨fun hno => ?_, fun i hi => ?_⟩
      · exfalso
        have hall : ∀ j, j < ops.size → listed.getD j false = true := by
          intro j
          induction j using Nat.strongRecOn with
          | _ j ih2 =>
            intro hj
            cases hl : listed.getD j false with
            | true => rfl
            | false =>
              exfalso
              have hmem : j ∈ Region.ready .any ops listed := by
                rw [mem_ready]
                have hlt : j < listed.size := by omega
                refine ⟨?_, ops[j], Array.getElem?_eq_getElem hj, fun e he hb => ?_⟩
                · simp only [Array.getD, hlt, dif_pos] at hl ⊢; exact hl
                · have hlt2 := hback j _ (Array.getElem?_eq_getElem hj) e he hb
                  exact ih2 e.on hlt2 (by omega)
              rw [hno] at hmem; cases hmem
        have : ((List.range ops.size).filter fun j => !listed.getD j false) = [] := by
          rw [List.filter_eq_nil_iff]
          intro j hj
          rw [hall j (by simpa using hj)]; simp
        rw [this] at hcount; cases hcount
      · obtain ⟨h1, o, ho, hpre⟩ := mem_ready.1 hi
        have hlt := (Array.getElem?_eq_some_iff.1 ho).1
        have hlt' : i < listed.size := by omega
        have hun : listed.getD i false = false := by simp only [Array.getD, hlt', dif_pos] at h1 ⊢; exact h1
        obtain ⟨ei, hei⟩ : ∃ ei, es[i]? = some ei := ⟨_, List.getElem?_eq_getElem (by omega)⟩
        obtain ⟨o', q1, q2, q3, q4⟩ := f3 i ei hei
        rw [Nat.zero_add] at q1 q3 q4
        rw [ho] at q1; cases q1
        have hdst : dstAt ops i = o.dst := by unfold dstAt; rw [ho]; rfl
        -- what came, and what stands ahead in the text, are the same to it
        have hindep : ∀ (j : Nat), j < es.length → listed.getD j false ≠ Nat.blt j i → i ≠ j ∧ ((Region.before ops).getD i 0).testBit j = false ∧ ((Region.before ops).getD j 0).testBit i = false := fun j hj hne => by
          have hij : i ≠ j := by
            rintro rfl
            rw [hun] at hne
            apply hne
            cases e : Nat.blt i i with
            | false => rfl
            | true => rw [Nat.blt_eq] at e; omega
          cases hjl : listed.getD j false with
          | true =>
            have hge : ¬ j < i := fun h => by rw [hjl] at hne; apply hne; symm; rw [Nat.blt_eq]; exact h
            refine ⟨hij, ?_, ?_⟩
            · cases e : ((Region.before ops).getD i 0).testBit j with
              | false => rfl
              | true => exact absurd (hbit i j e) hge
            · cases e : ((Region.before ops).getD j 0).testBit i with
              | false => rfl
              | true => have := hclosed (fun j => listed.getD j false) hcl j i hjl e; rw [hun] at this; cases this
          | false =>
            have hlt2 : j < i := by
              rw [hjl] at hne
              cases e : Nat.blt j i with
              | true => rwa [Nat.blt_eq] at e
              | false => rw [e] at hne; exact absurd rfl hne
            refine ⟨hij, ?_, ?_⟩
            · cases e : ((Region.before ops).getD i 0).testBit j with
              | false => rfl
              | true =>
                exfalso
                obtain ⟨ed, he, hb, h⟩ := before_bit ho e
                have hp := hpre ed he hb
                rcases h with h | ⟨_, h⟩
                · rw [h, hjl] at hp; cases hp
                · have := hclosed (fun j => listed.getD j false) hcl ed.on j hp h
                  rw [hjl] at this; cases this
            · cases e : ((Region.before ops).getD j 0).testBit i with
              | false => rfl
              | true => have := hbit j i e; omega
        have hT : ∀ t ∈ o.looksAt ops, TS ops (fun j => listed.getD j false) 0 es (lk st.tm) t = TS ops (fun j => Nat.blt j i) 0 es (lk st.tm) t := fun t ht => TS_at (fun j _ hj hne => by
          obtain ⟨h1, h2, h3⟩ := hindep j (by omega) hne
          obtain ⟨ej, hej⟩ : ∃ ej, es[j]? = some ej := ⟨_, List.getElem?_eq_getElem (by omega)⟩
          exact (hpair i j ei ej o hei hej ho h1 h2 h3).1 t ht) rfl
        have hH : ∀ e', ei = some e' → ∀ k ∈ onToks e', HS (fun j => listed.getD j false) 0 es (lk st.hp) k = HS (fun j => Nat.blt j i) 0 es (lk st.hp) k := fun e' he k hk => HS_at (fun j ej hej hne => by
          rw [Nat.zero_add] at hne
          obtain ⟨h1, h2, h3⟩ := hindep j (List.getElem?_eq_some_iff.1 hej).1 hne
          exact (hpair i j ei ej o hei hej ho h1 h2 h3).2.2 e' he k hk) rfl
        -- the state behind it
        let listed' := listed.setIfInBounds i true
        have hself : listed'.getD i false = true := by simp [listed', Array.getD, hlt']
        have hother : ∀ j, j ≠ i → listed'.getD j false = listed.getD j false := fun j hj => getD_set_ne false (fun e => hj e.symm)
        have hlater : ∀ j, i < j → j < es.length → listed.getD j false = true → i ≠ j ∧ ((Region.before ops).getD i 0).testBit j = false ∧ ((Region.before ops).getD j 0).testBit i = false := fun j hj hj' hl => hindep j hj' (by
          rw [hl]
          intro e
          have : Nat.blt j i = true := e.symm
          rw [Nat.blt_eq] at this; omega)
        have eT : TS ops (fun j => listed'.getD j false) 0 es (lk st.tm) = upd (TS ops (fun j => listed.getD j false) 0 es (lk st.tm)) o.dst (valOf ei) := by
          funext t
          rw [← hdst]
          exact TS_add (S := fun j => listed.getD j false) (S' := fun j => listed'.getD j false) hun hself hother (Nat.zero_le _) (by simpa using hei) (fun j t hj hj' hl hd => by
            rw [Nat.zero_add] at hj'
            obtain ⟨h1, h2, h3⟩ := hlater j hj hj' hl
            obtain ⟨ej, hej⟩ : ∃ ej, es[j]? = some ej := ⟨_, List.getElem?_eq_getElem hj'⟩
            exact (hpair i j ei ej o hei hej ho h1 h2 h3).2.1 t hd) t
        have eH : HS (fun j => listed'.getD j false) 0 es (lk st.hp) = hup (hwOf ei) (HS (fun j => listed.getD j false) 0 es (lk st.hp)) := by
          funext k
          exact HS_add (S := fun j => listed.getD j false) (S' := fun j => listed'.getD j false) hun hself hother (Nat.zero_le _) (by simpa using hei) (fun j ej k hej hj hl hk => by
            rw [Nat.zero_add] at hj hl
            obtain ⟨h1, h2, h3⟩ := hlater j hj (List.getElem?_eq_some_iff.1 hej).1 hl
            cases ei with
            | none => cases hk
            | some e' => exact (hpair i j (some e') ej o hei hej ho h1 h2 h3).2.2 e' rfl k (List.mem_append_right _ hk)) k
        have hcount' : ((List.range ops.size).filter fun j => !listed'.getD j false).length = fuel := by
          have h1 : ((List.range ops.size).filter fun j => !listed'.getD j false) = ((List.range ops.size).filter fun j => !listed.getD j false).erase i := by
            rw [List.Nodup.erase_eq_filter ((List.filter_sublist (p := fun j => !listed.getD j false)).nodup List.nodup_range), List.filter_filter]
            apply List.filter_congr
            intro j _
            by_cases hj : j = i
            · subst hj; simp [hself]
            · rw [hother j hj]; simp [hj]
          rw [h1, List.length_erase_of_mem (by rw [List.mem_filter]; exact ⟨by simpa using hlt, by rw [hun]; rfl⟩), hcount]
          rfl
        have hcl' : ∀ (j : Nat) (q : Oper), listed'.getD j false = true → ops[j]? = some q → ∀ e ∈ q.after, Region.binds .any e = true → listed'.getD e.on false = true := fun j q hj hq e he hb => by
          by_cases hji : j = i
          · subst hji
            rw [ho] at hq; cases hq
            exact getD_set_true (hpre e he hb)
          · rw [hother j hji] at hj
            exact getD_set_true (hcl j q hj hq e he hb)
        unfold wpOpIn
        simp only [ho]
        cases ei with
        | none =>
          have hw : Region.wanted o (yielded ops a.tmps) = false := by
            obtain ⟨j, want, hgd, hc⟩ := q3
            have hgt : ∀ d, (ops[j]?).bind (·.dst) = some d → TS ops (fun j => listed.getD j false) 0 es (lk st.tm) d = TS ops (fun j => Nat.blt j i) 0 es (lk st.tm) d := fun d hd => hT d (by unfold Oper.looksAt; rw [hgd]; simp [hd])
            have hb' : ((ops[j]?).bind (·.dst)).bind (TS ops (fun j => listed.getD j false) 0 es (lk st.tm)) = ((ops[j]?).bind (·.dst)).bind (TS ops (fun j => Nat.blt j i) 0 es (lk st.tm)) := by
              cases hd : (ops[j]?).bind (·.dst) with
              | none => rfl
              | some d => exact hgt d hd
            unfold Region.wanted
            rw [hgd]
            rcases hc with ⟨b, hb, hne⟩ | ⟨vs, hb⟩
            · simp only [yielded_eq S (hb'.trans hb)]
              cases b <;> cases want <;> first | rfl | exact absurd rfl hne
            · simp only [yielded_none S (hb'.trans hb)]; rfl
          rw [hw]
          simp only [Bool.false_eq_true, if_false]
          refine ⟨fun f _ => hF.fn f, ih listed' ρ I _ w (by simp [listed', hs]) hcount' hcl' ?_⟩
          rw [eT, eH]
          exact S.put (v := .s undef) (by simp [RV]) (by rw [← hN]; exact q2)
        | some e' =>
          have hw : Region.wanted o (yielded ops a.tmps) = true := by
            unfold Region.wanted
            rcases q3 with hgd | ⟨j, want, hgd, hb⟩
            · rw [hgd]
            · have hb' : ((ops[j]?).bind (·.dst)).bind (TS ops (fun j => listed.getD j false) 0 es (lk st.tm)) = ((ops[j]?).bind (·.dst)).bind (TS ops (fun j => Nat.blt j i) 0 es (lk st.tm)) := by
                cases hd : (ops[j]?).bind (·.dst) with
                | none => rfl
                | some d => exact hT d (by unfold Oper.looksAt; rw [hgd]; simp [hd])
              rw [hgd]; simp [yielded_eq S (hb'.trans hb)]
          rw [hw]
          simp only [if_true]
          have he := q4 e' rfl
          have he2 : opE X o (TS ops (fun j => listed.getD j false) 0 es (lk st.tm)) (HS (fun j => listed.getD j false) 0 es (lk st.hp)) (base + 16 * i) some = some e' := by
            refine opE_congrH (H := HS (fun j => Nat.blt j i) 0 es (lk st.hp)) ?_ (hH e' rfl)
            rw [opE_congrT (T := TS ops (fun j => Nat.blt j i) 0 es (lk st.tm))]
            · exact he
            · intro x hx
              cases x with
              | tmp t => exact hT t (List.mem_append_left _ (List.mem_filterMap.2 ⟨.tmp t, by simpa using hx, rfl⟩))
              | _ => rfl
          refine opE_step hF hX hG hP S (by rw [← hN]; exact q2) he2 _ Q fun x w' ρ' I' S' => ih listed' ρ' I' _ w' (by simp [listed', hs]) hcount' hcl' ?_
          rw [eT, eH]
          exact S'
  refine key ops.size _ ρ I a w (by simp) ?_ (fun j o hj => ?_) ?_
  · have : ((List.range ops.size).filter fun j => !(Array.replicate ops.size false).getD j false) = List.range ops.size := by
      rw [List.filter_eq_self]
      intro j hj
      have : j < ops.size := by simpa using hj
      simp [Array.getD, this]
    rw [this]; simp
  · exfalso
    by_cases h : j < ops.size
    · simp [Array.getD, h] at hj
    · simp [Array.getD, h] at hj
  · have e1 : TS ops (fun j => (Array.replicate ops.size false).getD j false) 0 es (lk st.tm) = lk st.tm := by
      funext t
      have hno : ∀ (es : List (Option Eff)) (i : Nat) (T : Nat → Option V), TS ops (fun _ => false) i es T = T := by
        intro es
        induction es with
        | nil => intro i T; rfl
        | cons e es ih => intro i T; simp only [TS, cond_false]; exact ih _ _
      refine Eq.trans ?_ (congrFun (hno es 0 (lk st.tm)) t)
      refine TS_at (fun j _ hj hne => absurd ?_ hne) rfl
      by_cases h : j < ops.size <;> simp [Array.getD, h]
    have e2 : HS (fun j => (Array.replicate ops.size false).getD j false) 0 es (lk st.hp) = lk st.hp := by
      funext t
      have hno : ∀ (es : List (Option Eff)) (i : Nat) (H : Heap), HS (fun _ => false) i es H = H := by
        intro es
        induction es with
        | nil => intro i T; rfl
        | cons e es ih => intro i T; simp only [HS, cond_false]; exact ih _ _
      refine Eq.trans ?_ (congrFun (hno es 0 (lk st.hp)) t)
      refine HS_at (fun j e _ hne => absurd ?_ hne) rfl
      by_cases h : 0 + j < ops.size <;> simp [Array.getD, h]
    rw [e1, e2]; exact S0
end Go.PM
