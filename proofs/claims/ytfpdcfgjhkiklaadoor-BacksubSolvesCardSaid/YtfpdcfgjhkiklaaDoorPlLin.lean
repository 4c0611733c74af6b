/- Rows of bits as numbers: what they span; reduced rows are the only ones of their span. No program in sight. -/
set_option linter.unusedSimpArgs false
set_option linter.unusedVariables false
set_option autoImplicit false
namespace Go.PM.Lin

/-- What rows span. -/
inductive Sp (l : List Nat) : Nat → Prop
  | zero : Sp l 0
  | step {a v : Nat} : a ∈ l → Sp l v → Sp l (v ^^^ a)

theorem Sp.of_mem {l : List Nat} {a : Nat} (h : a ∈ l) : Sp l a := by
  have := Sp.step h Sp.zero
  rwa [Nat.zero_xor] at this

theorem Sp.xor {l : List Nat} {v w : Nat} (hv : Sp l v) (hw : Sp l w) : Sp l (v ^^^ w) := by
  induction hw with
  | zero => rwa [Nat.xor_zero]
  | step ha _ ih => rw [← Nat.xor_assoc]; exact Sp.step ha ih

theorem Sp.mono {l m : List Nat} (h : ∀ a, a ∈ l → Sp m a) {v : Nat} (hv : Sp l v) : Sp m v := by
  induction hv with
  | zero => exact .zero
  | step ha _ ih => exact ih.xor (h _ ha)

theorem Sp.sub {l m : List Nat} (h : ∀ a, a ∈ l → a ∈ m) {v : Nat} (hv : Sp l v) : Sp m v := hv.mono fun a ha => .of_mem (h a ha)

theorem Sp.nil {v : Nat} (h : Sp [] v) : v = 0 := by
  cases h with
  | zero => rfl
  | step ha _ => cases ha

theorem xor_back (a b : Nat) : (a ^^^ b) ^^^ b = a := by rw [Nat.xor_assoc, Nat.xor_self, Nat.xor_zero]
theorem xor_eq_zero {a b : Nat} (h : a ^^^ b = 0) : a = b := by
  have := congrArg (· ^^^ b) h
  simpa [xor_back, Nat.zero_xor] using this

/-- The first place of a number's bits 1. -/
def IsFst (v p : Nat) : Prop := v.testBit p = true ∧ ∀ q, q < p → v.testBit q = false

theorem IsFst.unique {v p q : Nat} (hp : IsFst v p) (hq : IsFst v q) : p = q := by
  rcases Nat.lt_trichotomy p q with h | h | h
  · have := hq.2 p h; rw [hp.1] at this; cases this
  · exact h
  · have := hp.2 q h; rw [hq.1] at this; cases this

theorem eq_zero_of_testBit {v : Nat} (h : ∀ i, v.testBit i = false) : v = 0 := Nat.eq_of_testBit_eq fun i => by rw [h i, Nat.zero_testBit]

theorem exists_fst {v : Nat} (h : v ≠ 0) : ∃ p, IsFst v p := by
  have ⟨i, hi⟩ : ∃ i, v.testBit i = true := by
    apply Classical.byContradiction
    intro hn
    exact h (eq_zero_of_testBit fun i => by
      cases hb : v.testBit i with
      | false => rfl
      | true => exact absurd ⟨i, hb⟩ hn)
  induction i using Nat.strongRecOn with
  | _ i ih =>
    by_cases hl : ∃ q, q < i ∧ v.testBit q = true
    · obtain ⟨q, hq, hb⟩ := hl
      exact ih q hq hb
    · refine ⟨i, hi, fun q hq => ?_⟩
      cases hb : v.testBit q with
      | false => rfl
      | true => exact absurd ⟨q, hq, hb⟩ hl

/-- Rows, each with its first place: places rise, and each row alone has a bit 1 at its own. -/
structure Red (l : List (Nat × Nat)) : Prop where
  fst : ∀ x, x ∈ l → IsFst x.2 x.1
  inc : l.Pairwise fun x y => x.1 < y.1
  own : ∀ x, x ∈ l → ∀ y, y ∈ l → x.1 ≠ y.1 → y.2.testBit x.1 = false

abbrev rows (l : List (Nat × Nat)) : List Nat := l.map (·.2)
abbrev places (l : List (Nat × Nat)) : List Nat := l.map (·.1)

/-- The xor of those rows at whose places a number has 1. -/
def comb (v : Nat) : List (Nat × Nat) → Nat
  | [] => 0
  | x :: t => (if v.testBit x.1 = true then x.2 else 0) ^^^ comb v t

theorem comb_zero {v : Nat} {l : List (Nat × Nat)} (h : ∀ x, x ∈ l → v.testBit x.1 = false) : comb v l = 0 := by
  induction l with
  | nil => rfl
  | cons x t ih =>
    unfold comb
    rw [h x (by simp), ih fun y hy => h y (by simp [hy])]
    simp

theorem comb_xor (v w : Nat) (l : List (Nat × Nat)) : comb (v ^^^ w) l = comb v l ^^^ comb w l := by
  induction l with
  | nil => simp [comb]
  | cons x t ih =>
    unfold comb
    rw [ih, Nat.testBit_xor]
    have e : ∀ a b c d : Nat, (a ^^^ b) ^^^ (c ^^^ d) = (a ^^^ c) ^^^ (b ^^^ d) := fun a b c d => by
      rw [Nat.xor_assoc, Nat.xor_assoc, ← Nat.xor_assoc b, ← Nat.xor_assoc c, Nat.xor_comm b c]
    rw [e]
    congr 1
    cases v.testBit x.1 <;> cases w.testBit x.1 <;> simp

theorem comb_one {v : Nat} {x : Nat × Nat} {l : List (Nat × Nat)} (hn : l.Nodup) (hx : x ∈ l) (hb : v.testBit x.1 = true)
    (ho : ∀ y, y ∈ l → y ≠ x → v.testBit y.1 = false) : comb v l = x.2 := by
  induction l with
  | nil => cases hx
  | cons y t ih =>
    rw [List.nodup_cons] at hn
    unfold comb
    by_cases e : y = x
    · subst e
      rw [hb, comb_zero fun z hz => ho z (by simp [hz]) (fun e => hn.1 (e ▸ hz))]
      simp
    · rw [ho y (by simp) e, ih hn.2 (by rcases List.mem_cons.1 hx with h | h; exact absurd h.symm e; exact h) fun z hz => ho z (by simp [hz])]
      simp

theorem testBit_comb {v p : Nat} {l : List (Nat × Nat)} (h : ∀ x, x ∈ l → v.testBit x.1 = true → x.2.testBit p = false) : (comb v l).testBit p = false := by
  induction l with
  | nil => simp [comb]
  | cons x t ih =>
    unfold comb
    rw [Nat.testBit_xor, ih fun y hy => h y (by simp [hy])]
    by_cases hb : v.testBit x.1 = true
    · rw [if_pos hb, h x (by simp) hb]; rfl
    · rw [if_neg hb, Nat.zero_testBit]; rfl

theorem Red.nodup {l : List (Nat × Nat)} (h : Red l) : l.Nodup := h.inc.imp fun hlt e => by subst e; exact absurd hlt (Nat.lt_irrefl _)

theorem Red.places_inj {l : List (Nat × Nat)} (h : Red l) {x y : Nat × Nat} (hx : x ∈ l) (hy : y ∈ l) (e : x.1 = y.1) : x = y := by
  have hi := h.inc
  clear h
  induction l with
  | nil => cases hx
  | cons z t ih =>
    rw [List.pairwise_cons] at hi
    rcases List.mem_cons.1 hx with ex | hx'
    · rcases List.mem_cons.1 hy with ey | hy'
      · rw [ex, ey]
      · have := hi.1 y hy'; rw [← ex] at this; omega
    · rcases List.mem_cons.1 hy with ey | hy'
      · have := hi.1 x hx'; rw [← ey] at this; omega
      · exact ih hx' hy' hi.2

theorem Red.comb_self {l : List (Nat × Nat)} (h : Red l) {v : Nat} (hv : Sp (rows l) v) : comb v l = v := by
  induction hv with
  | zero => exact comb_zero fun x _ => Nat.zero_testBit _
  | step ha _ ih =>
    obtain ⟨x, hx, rfl⟩ := List.mem_map.1 ha
    rw [comb_xor, ih, comb_one h.nodup hx (h.fst x hx).1 fun y hy hne => h.own y hy x hx fun e => hne (h.places_inj hy hx e)]

theorem Red.eq_zero {l : List (Nat × Nat)} (h : Red l) {v : Nat} (hv : Sp (rows l) v) (hp : ∀ x, x ∈ l → v.testBit x.1 = false) : v = 0 := by
  rw [← h.comb_self hv]; exact comb_zero hp

theorem Red.fst_mem {l : List (Nat × Nat)} (h : Red l) {v p : Nat} (hv : Sp (rows l) v) (hp : IsFst v p) : ∃ x, x ∈ l ∧ x.1 = p := by
  apply Classical.byContradiction
  intro hn
  have h1 := hp.1
  rw [← h.comb_self hv, testBit_comb] at h1
  · cases h1
  · intro x hx hb
    have hlt : p < x.1 := by
      rcases Nat.lt_trichotomy p x.1 with hl | hl | hl
      · exact hl
      · exact absurd ⟨x, hx, hl.symm⟩ hn
      · rw [hp.2 _ hl] at hb; cases hb
    exact (h.fst x hx).2 p hlt

theorem eq_of_mem_iff {l m : List (Nat × Nat)} (hl : l.Pairwise fun x y => x.1 < y.1) (hm : m.Pairwise fun x y => x.1 < y.1) (h : ∀ x, x ∈ l ↔ x ∈ m) : l = m := by
  induction l generalizing m with
  | nil =>
    cases m with
    | nil => rfl
    | cons y s => have := (h y).2 (by simp); cases this
  | cons x t ih =>
    cases m with
    | nil => have := (h x).1 (by simp); cases this
    | cons y s =>
      rw [List.pairwise_cons] at hl hm
      have e : x = y := by
        rcases List.mem_cons.1 ((h x).1 (by simp)) with e | hx
        · exact e
        · rcases List.mem_cons.1 ((h y).2 (by simp)) with e | hy
          · exact e.symm
          · have a := hm.1 x hx; have b := hl.1 y hy; omega
      subst e
      congr 1
      refine ih hl.2 hm.2 fun z => ⟨fun hz => ?_, fun hz => ?_⟩
      · rcases List.mem_cons.1 ((h z).1 (by simp [hz])) with rfl | h'
        · have := hl.1 z hz; omega
        · exact h'
      · rcases List.mem_cons.1 ((h z).2 (by simp [hz])) with rfl | h'
        · have := hm.1 z hz; omega
        · exact h'

theorem Red.mem_of {l m : List (Nat × Nat)} (hl : Red l) (hm : Red m) (h1 : ∀ v, Sp (rows l) v → Sp (rows m) v) (h2 : ∀ v, Sp (rows m) v → Sp (rows l) v) {x : Nat × Nat} (hx : x ∈ l) : x ∈ m := by
  have sx : Sp (rows l) x.2 := .of_mem (List.mem_map.2 ⟨x, hx, rfl⟩)
  obtain ⟨y, hy, e⟩ := hm.fst_mem (h1 _ sx) (hl.fst x hx)
  have sy : Sp (rows l) y.2 := h2 _ (.of_mem (List.mem_map.2 ⟨y, hy, rfl⟩))
  have hd : x.2 ^^^ y.2 = 0 := hl.eq_zero (sx.xor sy) fun z hz => by
    rw [Nat.testBit_xor]
    by_cases hzx : z.1 = x.1
    · rw [hzx, (hl.fst x hx).1, ← e, (hm.fst y hy).1]; rfl
    · rw [hl.own z hz x hx hzx]
      obtain ⟨z', hz', ez⟩ := hm.fst_mem (h1 _ (.of_mem (List.mem_map.2 ⟨z, hz, rfl⟩))) (hl.fst z hz)
      rw [← ez, hm.own z' hz' y hy (by omega)]; rfl
  have e2 : x = y := Prod.ext e.symm (xor_eq_zero hd)
  rw [e2]; exact hy

/-- Reduced rows of one span are the same. -/
theorem Red.unique {l m : List (Nat × Nat)} (hl : Red l) (hm : Red m) (h : ∀ v, Sp (rows l) v ↔ Sp (rows m) v) : l = m :=
  eq_of_mem_iff hl.inc hm.inc fun _ => ⟨hl.mem_of hm (fun v => (h v).1) (fun v => (h v).2), hm.mem_of hl (fun v => (h v).2) (fun v => (h v).1)⟩

theorem length_le_of_sub {α : Type} [DecidableEq α] {l m : List α} (hn : l.Nodup) (h : ∀ a, a ∈ l → a ∈ m) : l.length ≤ m.length := by
  induction l generalizing m with
  | nil => simp
  | cons a t ih =>
    rw [List.nodup_cons] at hn
    have ha := h a (by simp)
    have := ih (m := m.erase a) hn.2 fun b hb => (List.mem_erase_of_ne (fun e => hn.1 (by rw [← e]; exact hb))).2 (h b (by simp [hb]))
    rw [List.length_erase_of_mem ha] at this
    have hp : 0 < m.length := List.length_pos_of_mem ha
    simp only [List.length_cons]; omega

theorem Red.nodup_places {l : List (Nat × Nat)} (h : Red l) : (places l).Nodup := by
  have := h.inc
  unfold places
  rw [List.Nodup, List.pairwise_map]
  exact this.imp fun hlt => by omega

theorem Red.length_le {l m : List (Nat × Nat)} (hl : Red l) (hm : Red m) (h : ∀ v, Sp (rows l) v → Sp (rows m) v) : l.length ≤ m.length := by
  have := length_le_of_sub hl.nodup_places (m := places m) fun p hp => by
    obtain ⟨x, hx, rfl⟩ := List.mem_map.1 hp
    obtain ⟨y, hy, e⟩ := hm.fst_mem (h _ (.of_mem (List.mem_map.2 ⟨x, hx, rfl⟩))) (hl.fst x hx)
    exact List.mem_map.2 ⟨y, hy, e⟩
  simpa [places] using this

/-- What is left of a number behind reduced rows. -/
def left : List (Nat × Nat) → Nat → Nat
  | [], v => v
  | x :: t, v => left t (if v.testBit x.1 = true then v ^^^ x.2 else v)

theorem left_sp {l : List (Nat × Nat)} (v : Nat) : Sp (rows l) (left l v ^^^ v) := by
  induction l generalizing v with
  | nil => simp only [left, Nat.xor_self]; exact .zero
  | cons x t ih =>
    unfold left
    have h := (ih (if v.testBit x.1 = true then v ^^^ x.2 else v)).sub (m := rows (x :: t)) (fun a ha => List.mem_cons_of_mem _ ha)
    by_cases hb : v.testBit x.1 = true
    · rw [if_pos hb] at h ⊢
      have := h.xor (.of_mem (show x.2 ∈ rows (x :: t) by simp [rows]))
      rwa [← Nat.xor_assoc, xor_back] at this
    · rw [if_neg hb] at h ⊢; exact h

/-- Bits at places at which no row has 1 stay. -/
theorem left_keeps {l : List (Nat × Nat)} {v p : Nat} (h : ∀ x, x ∈ l → x.2.testBit p = false) : (left l v).testBit p = v.testBit p := by
  induction l generalizing v with
  | nil => rfl
  | cons x t ih =>
    unfold left
    rw [ih fun y hy => h y (by simp [hy])]
    by_cases hb : v.testBit x.1 = true
    · rw [if_pos hb, Nat.testBit_xor, h x (by simp)]; simp
    · rw [if_neg hb]

theorem Red.tail {x : Nat × Nat} {l : List (Nat × Nat)} (h : Red (x :: l)) : Red l :=
  ⟨fun y hy => h.fst y (by simp [hy]), (List.pairwise_cons.1 h.inc).2, fun y hy z hz => h.own y (by simp [hy]) z (by simp [hz])⟩

theorem Red.left_clear {l : List (Nat × Nat)} (h : Red l) (v : Nat) {x : Nat × Nat} (hx : x ∈ l) : (left l v).testBit x.1 = false := by
  induction l generalizing v with
  | nil => cases hx
  | cons y t ih =>
    unfold left
    rcases List.mem_cons.1 hx with rfl | hx
    · rw [left_keeps]
      · by_cases hb : v.testBit x.1 = true
        · rw [if_pos hb, Nat.testBit_xor, hb, (h.fst x (by simp)).1]; rfl
        · rw [if_neg hb]; simpa using hb
      · intro z hz
        exact h.own x (by simp) z (by simp [hz]) (by have := (List.pairwise_cons.1 h.inc).1 z hz; omega)
    · exact ih h.tail _ hx

theorem Red.left_zero_iff {l : List (Nat × Nat)} (h : Red l) (v : Nat) : left l v = 0 ↔ Sp (rows l) v := by
  have hs := left_sp (l := l) v
  constructor
  · intro e
    rw [e, Nat.zero_xor] at hs; exact hs
  · intro hv
    have := hs.xor hv
    rw [xor_back] at this
    exact h.eq_zero this fun x hx => h.left_clear v hx

/-- Reduced rows with one that has a place of its own. -/
def ins (l : List (Nat × Nat)) (p v : Nat) : List (Nat × Nat) :=
  (l.filter fun x => decide (x.1 < p)).map (fun x => (x.1, if x.2.testBit p = true then x.2 ^^^ v else x.2)) ++ [(p, v)] ++ l.filter fun x => decide (p < x.1)

theorem mem_ins {l : List (Nat × Nat)} {p v : Nat} {y : Nat × Nat} : y ∈ ins l p v ↔ (∃ x, x ∈ l ∧ x.1 < p ∧ y = (x.1, if x.2.testBit p = true then x.2 ^^^ v else x.2)) ∨ y = (p, v) ∨ (y ∈ l ∧ p < y.1) := by
  unfold ins
  simp only [List.mem_append, List.mem_map, List.mem_filter, List.mem_singleton, decide_eq_true_eq]
  constructor
  · rintro ((⟨x, ⟨a, b⟩, rfl⟩ | h) | h)
    · exact .inl ⟨x, a, b, rfl⟩
    · exact .inr (.inl h)
    · exact .inr (.inr h)
  · rintro (⟨x, a, b, rfl⟩ | h | h)
    · exact .inl (.inl ⟨x, ⟨a, b⟩, rfl⟩)
    · exact .inl (.inr h)
    · exact .inr h

theorem Red.ins {l : List (Nat × Nat)} (h : Red l) {p v : Nat} (hf : IsFst v p) (hc : ∀ x, x ∈ l → v.testBit x.1 = false) : Red (ins l p v) := by
  have hne : ∀ x, x ∈ l → x.1 ≠ p := fun x hx e => by have := hc x hx; rw [e, hf.1] at this; cases this
  refine ⟨fun y hy => ?_, ?_, fun y hy z hz hyz => ?_⟩
  · rcases mem_ins.1 hy with ⟨x, hx, hlt, rfl⟩ | rfl | ⟨hy, _⟩
    · have fx := h.fst x hx
      refine ⟨?_, fun q hq => ?_⟩ <;> by_cases hb : x.2.testBit p = true
      · show (if x.2.testBit p = true then x.2 ^^^ v else x.2).testBit x.1 = true
        rw [if_pos hb, Nat.testBit_xor, fx.1, hc x hx]; rfl
      · show (if x.2.testBit p = true then x.2 ^^^ v else x.2).testBit x.1 = true
        rw [if_neg hb]; exact fx.1
      · show (if x.2.testBit p = true then x.2 ^^^ v else x.2).testBit q = false
        rw [if_pos hb, Nat.testBit_xor, fx.2 q hq, hf.2 q (Nat.lt_trans hq hlt)]; rfl
      · show (if x.2.testBit p = true then x.2 ^^^ v else x.2).testBit q = false
        rw [if_neg hb]; exact fx.2 q hq
    · exact hf
    · exact h.fst y hy
  · unfold Lin.ins
    rw [List.pairwise_append, List.pairwise_append]
    refine ⟨⟨?_, List.pairwise_singleton _ _, ?_⟩, h.inc.filter _, ?_⟩
    · rw [List.pairwise_map]; exact h.inc.filter _
    · intro a ha b hb
      obtain ⟨x, hx, rfl⟩ := List.mem_map.1 ha
      rw [List.mem_singleton.1 hb]
      simpa using (List.mem_filter.1 hx).2
    · intro a ha b hb
      have hb' : p < b.1 := by simpa using (List.mem_filter.1 hb).2
      rcases List.mem_append.1 ha with ha | ha
      · obtain ⟨x, hx, rfl⟩ := List.mem_map.1 ha
        have : x.1 < p := by simpa using (List.mem_filter.1 hx).2
        show x.1 < b.1
        omega
      · rw [List.mem_singleton.1 ha]; exact hb'
  · -- y's place, z's row
    rcases mem_ins.1 hy with ⟨x, hx, hlt, rfl⟩ | rfl | ⟨hy, hyp⟩
    · have e : (x.1, if x.2.testBit p = true then x.2 ^^^ v else x.2).1 = x.1 := rfl
      rcases mem_ins.1 hz with ⟨u, hu, hul, rfl⟩ | rfl | ⟨hz, hzp⟩
      · have h0 := h.own x hx u hu hyz
        show (if u.2.testBit p = true then u.2 ^^^ v else u.2).testBit x.1 = false
        by_cases hb : u.2.testBit p = true
        · rw [if_pos hb, Nat.testBit_xor, h0, hc x hx]; rfl
        · rw [if_neg hb]; exact h0
      · exact hf.2 x.1 hlt
      · exact h.own x hx z hz hyz
    · rcases mem_ins.1 hz with ⟨u, hu, hul, rfl⟩ | rfl | ⟨hz, hzp⟩
      · show (if u.2.testBit p = true then u.2 ^^^ v else u.2).testBit p = false
        by_cases hb : u.2.testBit p = true
        · rw [if_pos hb, Nat.testBit_xor, hb, hf.1]; rfl
        · rw [if_neg hb]; simpa using hb
      · exact absurd rfl hyz
      · exact (h.fst z hz).2 p hzp
    · rcases mem_ins.1 hz with ⟨u, hu, hul, rfl⟩ | rfl | ⟨hz, hzp⟩
      · have h0 := h.own y hy u hu hyz
        show (if u.2.testBit p = true then u.2 ^^^ v else u.2).testBit y.1 = false
        by_cases hb : u.2.testBit p = true
        · rw [if_pos hb, Nat.testBit_xor, h0, hc y hy]; rfl
        · rw [if_neg hb]; exact h0
      · exact hc y hy
      · exact h.own y hy z hz hyz

theorem ins_sp {l : List (Nat × Nat)} {p v : Nat} (hne : ∀ x, x ∈ l → x.1 ≠ p) (w : Nat) : Sp (rows (ins l p v)) w ↔ Sp (v :: rows l) w := by
  constructor
  · refine Sp.mono fun a ha => ?_
    obtain ⟨y, hy, rfl⟩ := List.mem_map.1 ha
    rcases mem_ins.1 hy with ⟨x, hx, _, rfl⟩ | rfl | ⟨hy, _⟩
    · have h1 : Sp (v :: rows l) x.2 := .of_mem (List.mem_cons_of_mem _ (List.mem_map.2 ⟨x, hx, rfl⟩))
      show Sp (v :: rows l) (if x.2.testBit p = true then x.2 ^^^ v else x.2)
      by_cases hb : x.2.testBit p = true
      · rw [if_pos hb]; exact h1.xor (.of_mem (by simp))
      · rw [if_neg hb]; exact h1
    · exact .of_mem (by simp)
    · exact .of_mem (List.mem_cons_of_mem _ (List.mem_map.2 ⟨y, hy, rfl⟩))
  · have hv : Sp (rows (ins l p v)) v := .of_mem (List.mem_map.2 ⟨(p, v), mem_ins.2 (.inr (.inl rfl)), rfl⟩)
    refine Sp.mono fun a ha => ?_
    rcases List.mem_cons.1 ha with rfl | ha
    · exact hv
    · obtain ⟨x, hx, rfl⟩ := List.mem_map.1 ha
      rcases Nat.lt_trichotomy x.1 p with hl | hl | hl
      · have h1 : Sp (rows (ins l p v)) (if x.2.testBit p = true then x.2 ^^^ v else x.2) := .of_mem (List.mem_map.2 ⟨_, mem_ins.2 (.inl ⟨x, hx, hl, rfl⟩), rfl⟩)
        by_cases hb : x.2.testBit p = true
        · rw [if_pos hb] at h1
          have := h1.xor hv
          rwa [xor_back] at this
        · rwa [if_neg hb] at h1
      · exact absurd hl (hne x hx)
      · exact .of_mem (List.mem_map.2 ⟨x, mem_ins.2 (.inr (.inr ⟨hx, hl⟩)), rfl⟩)

theorem length_filter_parts (l : List (Nat × Nat)) (p : Nat) (hne : ∀ x, x ∈ l → x.1 ≠ p) : (l.filter fun x => decide (x.1 < p)).length + (l.filter fun x => decide (p < x.1)).length = l.length := by
  induction l with
  | nil => rfl
  | cons x t ih =>
    have h1 := ih fun y hy => hne y (by simp [hy])
    have h2 := hne x (by simp)
    rcases Nat.lt_or_gt_of_ne h2 with h | h
    · rw [List.filter_cons_of_pos (by simpa using h), List.filter_cons_of_neg (by simp; omega)]; simp only [List.length_cons]; omega
    · rw [List.filter_cons_of_neg (by simp; omega), List.filter_cons_of_pos (by simpa using h)]; simp only [List.length_cons]; omega

theorem ins_length {l : List (Nat × Nat)} {p v : Nat} (hne : ∀ x, x ∈ l → x.1 ≠ p) : (ins l p v).length = l.length + 1 := by
  have := length_filter_parts l p hne
  unfold ins
  simp only [List.length_append, List.length_map, List.length_singleton]
  omega

end Go.PM.Lin
