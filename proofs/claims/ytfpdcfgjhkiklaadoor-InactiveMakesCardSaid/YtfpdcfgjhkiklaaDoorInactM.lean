/- Columns that are put off: the plan. -/
import Derived.Test.YtfpdcfgjhkiklaaDoorPmTab
import Derived.KernelRfl
import Derived.Test.YtfpdcfgjhkiklaaDoorProg
import Derived.Test.YtfpdcfgjhkiklaaDoorInact
set_option autoImplicit false
set_option maxRecDepth 100000
set_option maxHeartbeats 4000000
set_option linter.unusedVariables false
set_option linter.unusedSimpArgs false
namespace Go.Proofs.YtfpdcfgjhkiklaaDoor
open Go Go.PM Go.Proofs Go.Shelf Go.PM.Row Go.PM.Bits Go.PM.Bit
/-! What making a plan comes to. -/
noncomputable def opens (l : List Int) : Nat := (l.filter fun x => decide (x ≠ 1)).length
theorem opens_le (l : List Int) : opens l ≤ l.length := List.length_filter_le _ _
theorem opens_set : ∀ (l : List Int) (i : Nat), i < l.length → l.getD i 0 ≠ 1 → opens (l.set i 1) + 1 = opens l
  | [], i, h, _ => by simp at h
  | x :: t, 0, h, hx => by
    have hx : x ≠ 1 := hx
    unfold opens
    rw [List.set_cons_zero, List.filter_cons_of_neg (by simp), List.filter_cons_of_pos (by simpa using hx)]
    rfl
  | x :: t, i + 1, h, hx => by
    have ih := opens_set t i (by simpa using h) hx
    unfold opens at ih ⊢
    rw [List.set_cons_succ]
    by_cases hc : x = 1
    · rw [List.filter_cons_of_neg (by simpa using hc), List.filter_cons_of_neg (by simpa using hc)]; exact ih
    · rw [List.filter_cons_of_pos (by simpa using hc), List.filter_cons_of_pos (by simpa using hc), List.length_cons, List.length_cons]; omega
theorem addL_len : ∀ (l cs : List Int), (addL cs l).length = cs.length
  | [], cs => rfl
  | i :: t, cs => by
    show (addL (cs.set i.toNat _) t).length = _
    rw [addL_len t, List.length_set]
theorem addL_pos : ∀ (l cs : List Int) (q : Nat), (∀ i, i ∈ l → 0 ≤ i) → 0 < (addL cs l).getD q 0 → 0 < cs.getD q 0 ∨ (q : Int) ∈ l
  | [], cs, q, _, h => .inl h
  | i :: t, cs, q, hl, h => by
    have h : 0 < (addL (cs.set i.toNat (cs.getD i.toNat 0 + 1)) t).getD q 0 := h
    have h0 := hl i List.mem_cons_self
    rcases addL_pos t _ q (fun x hx => hl x (List.mem_cons_of_mem _ hx)) h with h | h
    · by_cases hq : i.toNat = q
      · exact .inr (by rw [show (q : Int) = i by omega]; exact List.mem_cons_self)
      · refine .inl ?_
        rw [List.getD_eq_getElem?_getD, List.getElem?_set, if_neg hq, ← List.getD_eq_getElem?_getD] at h
        exact h
    · exact .inr (List.mem_cons_of_mem _ h)
theorem set_bound {cs : List Int} {M v : Int} {i : Nat} (h : ∀ x, x ∈ cs → 0 ≤ x ∧ x ≤ M) (hv : 0 ≤ v ∧ v ≤ M + 1) : ∀ x, x ∈ cs.set i v → 0 ≤ x ∧ x ≤ M + 1 := fun x hx => by
  rcases List.mem_or_eq_of_mem_set hx with hx | rfl
  · have := h x hx; omega
  · exact hv
theorem getD_bound {cs : List Int} {M : Int} (hM : 0 ≤ M) (h : ∀ x, x ∈ cs → 0 ≤ x ∧ x ≤ M) (i : Nat) : 0 ≤ cs.getD i 0 ∧ cs.getD i 0 ≤ M := by
  rw [List.getD_eq_getElem?_getD]
  cases he : cs[i]? with
  | none => simpa using hM
  | some x => exact h x (List.mem_of_getElem? he)
theorem addL_bound : ∀ (l cs : List Int) (M : Int), 0 ≤ M → (∀ x, x ∈ cs → 0 ≤ x ∧ x ≤ M) → ∀ x, x ∈ addL cs l → 0 ≤ x ∧ x ≤ M + (l.length : Int)
  | [], cs, M, _, h, x, hx => by have := h x hx; simp; omega
  | i :: t, cs, M, hM, h, x, hx => by
    have hx : x ∈ addL (cs.set i.toNat (cs.getD i.toNat 0 + 1)) t := hx
    have hb := getD_bound hM h i.toNat
    have := addL_bound t _ (M + 1) (by omega) (set_bound h (by omega)) x hx
    rw [List.length_cons]; omega
theorem act_range {n : Int} {m : List Rw} {r c : List Int} {p : Int} (h : actOk n m r c p = true) : (actS m r c p).length ≤ 64 ∧ ∀ i, i ∈ actS m r c p → (0 ≤ i ∧ i < n) ∧ c.getD i.toNat 0 ≠ 1 := by
  obtain ⟨hok, hm, hr, hc, q0, q1⟩ := actOk_iff.1 h
  obtain ⟨hn64, hml, hrow⟩ := mrt_iff.1 hm
  obtain ⟨j, rfl⟩ : ∃ j : Nat, p = (j : Int) := ⟨p.toNat, by omega⟩
  have hj : j < m.length := by omega
  have hmem := List.getElem_mem hj
  obtain ⟨g1, g2⟩ := hrow _ hmem
  obtain ⟨p1, p2⟩ := plc_le64 (okM_iff.1 hok _ hmem) g2 (by omega)
  have em : m.getD j (0, []) = m[j] := by rw [List.getD_eq_getElem?_getD, List.getElem?_eq_getElem hj]; rfl
  rw [actS_eq]; unfold actI
  rw [Int.toNat_natCast, em]
  split
  · simp
  · have hl := keep_len c (plS (m[j]).2)
    refine ⟨by omega, fun i hi => ?_⟩
    rw [keepC_eq] at hi
    unfold keepI at hi
    obtain ⟨h1, h2⟩ := List.mem_filter.1 hi
    have := p2 i h1
    refine ⟨by omega, fun hc1 => ?_⟩
    rw [goneB_eq] at h2
    unfold goneI at h2
    rw [decide_eq_true hc1] at h2
    cases h2
theorem oneFrom_spec (m : List Rw) (r c : List Int) : ∀ (d p q : Nat), oneFrom m r c d p = some q → p ≤ q ∧ q < p + d ∧ (actS m r c (q : Int)).length = 1
  | 0, p, q, h => by cases h
  | d + 1, p, q, h => by
    rw [oneFrom] at h
    split at h
    · rename_i h1
      cases h
      exact ⟨Nat.le_refl _, by omega, h1⟩
    · have := oneFrom_spec m r c d (p + 1) q h
      exact ⟨by omega, by omega, this.2.2⟩
theorem cnt_len (m : List Rw) (r c : List Int) : ∀ (d p : Nat) (cs : List Int), (cntFrom m r c d p cs).length = cs.length
  | 0, p, cs => rfl
  | d + 1, p, cs => by rw [cntFrom, cnt_len m r c d, addL_len]
theorem cnt_pos {n : Int} (m : List Rw) (r c : List Int) : ∀ (d p : Nat) (cs : List Int) (q : Nat), (∀ p', p ≤ p' → p' < p + d → actOk n m r c (p' : Int) = true) → 0 < (cntFrom m r c d p cs).getD q 0 → 0 < cs.getD q 0 ∨ ∃ p', p ≤ p' ∧ p' < p + d ∧ (q : Int) ∈ actS m r c (p' : Int)
  | 0, p, cs, q, _, h => .inl h
  | d + 1, p, cs, q, ha, h => by
    rw [cntFrom] at h
    rcases cnt_pos m r c d (p + 1) _ q (fun p' h1 h2 => ha p' (by omega) (by omega)) h with h | ⟨p', h1, h2, h3⟩
    · rcases addL_pos _ _ q (fun i hi => ((act_range (ha p (by omega) (by omega))).2 i hi).1.1) h with h | h
      · exact .inl h
      · exact .inr ⟨p, by omega, by omega, h⟩
    · exact .inr ⟨p', by omega, by omega, h3⟩
theorem most_cases : ∀ (l : List Int) (j : Nat) (t best : Int), 0 ≤ best → mostFrom l (j : Int) t best = t ∨ ∃ q, q < l.length ∧ mostFrom l (j : Int) t best = ((j + q : Nat) : Int) ∧ best < l.getD q 0
  | [], j, t, best, hb => .inl rfl
  | x :: l, j, t, best, hb => by
    rw [mostFrom, show (j : Int) + 1 = ((j + 1 : Nat) : Int) by omega]
    by_cases h : x > best
    · rw [if_pos h]
      rcases most_cases l (j + 1) (j : Int) x (by omega) with h1 | ⟨q, h1, h2, h3⟩
      · exact .inr ⟨0, by simp, by rw [h1]; simp, h⟩
      · refine .inr ⟨q + 1, by simp; omega, by rw [h2]; congr 1; omega, ?_⟩
        show best < l.getD q 0
        omega
    · rw [if_neg h]
      rcases most_cases l (j + 1) t best hb with h1 | ⟨q, h1, h2, h3⟩
      · exact .inl h1
      · exact .inr ⟨q + 1, by simp; omega, by rw [h2]; congr 1; omega, h3⟩
theorem most_spec (l : List Int) : mostS l < 0 ∨ ∃ q, q < l.length ∧ mostS l = (q : Int) ∧ 0 < l.getD q 0 := by
  rw [mostS_eq]; unfold mostI
  rcases most_cases l 0 (-1) 0 (by omega) with h | ⟨q, h1, h2, h3⟩
  · exact .inl (by rw [show ((0 : Nat) : Int) = 0 from rfl] at h; rw [h]; decide)
  · exact .inr ⟨q, h1, by rw [show ((0 : Nat) : Int) = 0 from rfl] at h2; rw [h2]; congr 1; omega, h3⟩
/-- What a plan that is made keeps. -/
structure MInv (n : Int) (m : List Rw) (a b d r c : List Int) : Prop where
  ok : okM m = true
  may : mrt n m = true
  rl : r.length = m.length
  cl : (c.length : Int) = n
  bd : b.length = d.length
  al : a.length + opens c ≤ 64
  bl : b.length + opens c ≤ 64
theorem MInv.act {n : Int} {m : List Rw} {a b d r c : List Int} (h : MInv n m a b d r c) {p : Nat} (hp : p < m.length) : actOk n m r c (p : Int) = true := actOk_iff.2 ⟨h.ok, h.may, h.rl, h.cl, by omega, by omega⟩
theorem MInv.one {n : Int} {m : List Rw} {a b d r c : List Int} (h : MInv n m a b d r c) {p : Nat} (hp : oneFrom m r c m.length 0 = some p) : p < m.length ∧ ∃ i : Nat, actS m r c (p : Int) = [(i : Int)] ∧ i < c.length ∧ opens (c.set i 1) + 1 = opens c ∧ MInv n m a (b ++ [(p : Int)]) (d ++ [(i : Int)]) (r.set p 1) (c.set i 1) := by
  obtain ⟨_, h2, h3⟩ := oneFrom_spec m r c _ _ _ hp
  have hpl : p < m.length := by omega
  obtain ⟨g1, g2⟩ := act_range (h.act hpl)
  have hcl := h.cl
  cases hs : actS m r c (p : Int) with
  | nil => rw [hs] at h3; simp at h3
  | cons x t =>
    cases t with
    | cons y t => rw [hs] at h3; simp at h3
    | nil =>
      obtain ⟨g3, g4⟩ := g2 x (by rw [hs]; exact List.mem_cons_self)
      obtain ⟨i, rfl⟩ : ∃ i : Nat, x = (i : Int) := ⟨x.toNat, by omega⟩
      rw [Int.toNat_natCast] at g4
      have hi : i < c.length := by omega
      have ho := opens_set c i hi g4
      have h6 := h.al
      have h7 := h.bl
      exact ⟨hpl, i, rfl, hi, ho, h.ok, h.may, by rw [List.length_set]; exact h.rl, by rw [List.length_set]; exact h.cl, by rw [List.length_append, List.length_append, h.bd]; rfl, by omega, by rw [List.length_append]; simp; omega⟩
theorem MInv.most {n : Int} {m : List Rw} {a b d r c : List Int} (h : MInv n m a b d r c) (hm : ¬ mostS (cntS n m r c) < 0) : ∃ i : Nat, mostS (cntS n m r c) = (i : Int) ∧ i < c.length ∧ opens (c.set i 1) + 1 = opens c ∧ MInv n m (a ++ [(i : Int)]) b d r (c.set i 1) := by
  rcases most_spec (cntS n m r c) with hs | ⟨i, h1, h2, h3⟩
  · exact absurd hs hm
  · have hcl := h.cl
    have hlen : (cntS n m r c).length = n.toNat := by unfold cntS; rw [cnt_len]; simp
    have hi : i < c.length := by omega
    have hz : (List.replicate n.toNat (0 : Int)).getD i 0 = 0 := by
      rw [List.getD_eq_getElem?_getD, List.getElem?_replicate]; split <;> rfl
    unfold cntS at h3
    rcases cnt_pos (n := n) m r c _ _ _ i (fun p' _ hp' => h.act (by omega)) h3 with g | ⟨p', g1, g2, g3⟩
    · rw [hz] at g; omega
    · have hn := ((act_range (h.act (p := p') (by omega))).2 _ g3).2
      rw [Int.toNat_natCast] at hn
      have ho := opens_set c i hi hn
      have h6 := h.al
      have h7 := h.bl
      exact ⟨i, h2, hi, ho, h.ok, h.may, h.rl, by rw [List.length_set]; exact h.cl, h.bd, by rw [List.length_append]; simp; omega, by omega⟩
theorem mk_ext (n : Int) (m : List Rw) : ∀ (f : Nat) (a b d r c : List Int), ∃ x y z, (plnN n m f a b d r c).1 = a ++ x ∧ (plnN n m f a b d r c).2.1 = b ++ y ∧ (plnN n m f a b d r c).2.2.1 = d ++ z
  | 0, a, b, d, r, c => ⟨[], [], [], by rw [plnN]; simp⟩
  | f + 1, a, b, d, r, c => by
    rw [plnN]
    split
    · rename_i p hp
      obtain ⟨x, y, z, h1, h2, h3⟩ := mk_ext n m f a (b ++ [(p : Int)]) (d ++ [(actS m r c (p : Int)).headD 0]) (r.set p 1) (c.set ((actS m r c (p : Int)).headD 0).toNat 1)
      exact ⟨x, [(p : Int)] ++ y, [(actS m r c (p : Int)).headD 0] ++ z, h1, by rw [h2, List.append_assoc], by rw [h3, List.append_assoc]⟩
    · split
      · exact ⟨[], [], [], by simp⟩
      · obtain ⟨x, y, z, h1, h2, h3⟩ := mk_ext n m f (a ++ [mostS (cntS n m r c)]) b d r (c.set (mostS (cntS n m r c)).toNat 1)
        exact ⟨[mostS (cntS n m r c)] ++ x, y, z, by rw [h1, List.append_assoc], h2, h3⟩
theorem plnN_stop {n : Int} {m : List Rw} {a b d r c : List Int} (h : oneFrom m r c m.length 0 = none) (h2 : mostS (cntS n m r c) < 0) : ∀ f, plnN n m f a b d r c = (a, b, d, r, c)
  | 0 => by rw [plnN]
  | f + 1 => by rw [plnN, h]; dsimp only; rw [if_pos h2]
theorem plnN_one {n : Int} {m : List Rw} {a b d r c : List Int} {q i : Nat} (f : Nat) (h : oneFrom m r c m.length 0 = some q) (h2 : actS m r c (q : Int) = [(i : Int)]) : plnN n m (f + 1) a b d r c = plnN n m f a (b ++ [(q : Int)]) (d ++ [(i : Int)]) (r.set q 1) (c.set i 1) := by
  rw [plnN, h]
  dsimp only
  rw [h2]
  rfl
theorem plnN_most {n : Int} {m : List Rw} {a b d r c : List Int} {i : Nat} (f : Nat) (h : oneFrom m r c m.length 0 = none) (h2 : mostS (cntS n m r c) = (i : Int)) : plnN n m (f + 1) a b d r c = plnN n m f (a ++ [(i : Int)]) b d r (c.set i 1) := by
  rw [plnN, h]
  dsimp only
  rw [h2, if_neg (by omega)]
  try rfl
theorem plnN_rows (n : Int) (m : List Rw) : ∀ (f : Nat) (a b d r c : List Int), (plnN n m f a b d r c).2.1.length = b.length → (plnN n m f a b d r c).2.2.2.1 = r
  | 0, a, b, d, r, c, _ => by rw [plnN]
  | f + 1, a, b, d, r, c, h => by
    rw [plnN] at h ⊢
    split
    · rename_i p hp
      rw [hp] at h
      dsimp only at h
      obtain ⟨x, y, z, h1, h2, h3⟩ := mk_ext n m f a (b ++ [(p : Int)]) (d ++ [(actS m r c (p : Int)).headD 0]) (r.set p 1) (c.set ((actS m r c (p : Int)).headD 0).toNat 1)
      rw [h2] at h
      simp at h
    · rename_i hp
      rw [hp] at h
      dsimp only at h
      split
      · rfl
      · rename_i hs
        rw [if_neg hs] at h
        exact plnN_rows n m f _ _ _ _ _ h
theorem plnN_inv {n : Int} {m : List Rw} : ∀ (f : Nat) {a b d r c : List Int}, MInv n m a b d r c → MInv n m (plnN n m f a b d r c).1 (plnN n m f a b d r c).2.1 (plnN n m f a b d r c).2.2.1 (plnN n m f a b d r c).2.2.2.1 (plnN n m f a b d r c).2.2.2.2
  | 0, a, b, d, r, c, h => by rw [plnN]; exact h
  | f + 1, a, b, d, r, c, h => by
    rw [plnN]
    split
    · rename_i p hp
      obtain ⟨_, i, h2, _, _, hJ⟩ := h.one hp
      have := plnN_inv f hJ
      rw [h2]
      exact this
    · split
      · exact h
      · rename_i hs
        obtain ⟨i, h2, _, _, hJ⟩ := h.most hs
        have := plnN_inv f hJ
        rw [h2]
        exact this
theorem minv_start {n : Int} {m : List Rw} (hok : okM m = true) (hm : mrt n m = true) : MInv n m [] [] [] (List.replicate m.length 0) (List.replicate n.toNat 0) := by
  obtain ⟨⟨h1, h2⟩, h3, _⟩ := mrt_iff.1 hm
  have := opens_le (List.replicate n.toNat 0)
  rw [List.length_replicate] at this
  exact ⟨hok, hm, by simp, by simp; omega, rfl, by simp; omega, by simp; omega⟩
noncomputable def vOf (l : List Int) : V := if l.length = 0 then .s (.slice none 0 0) else .li .i64 l
theorem vOf_nil {l : List Int} (h : l.length = 0) : vOf l = .s (.slice none 0 0) := if_pos h
theorem vOf_li {l : List Int} (h : ¬ l.length = 0) : vOf l = .li .i64 l := if_neg h
theorem RV_vOf {I : _} {ρ : _} {w : _} (l : List Int) (x : Value) (h : RV I ρ w (vOf l) x) : RV I ρ w (.li .i64 l) x := by
  by_cases h0 : l.length = 0
  · rw [vOf_nil h0] at h
    rw [List.eq_nil_of_length_eq_zero h0]
    exact RV_nil_li h
  · rwa [vOf_li h0] at h
def mode12 : FuncId → Nat := fun f => bif Nat.beq f 57 then 2 else 0
/-! downpour/inactive.most -/
noncomputable abbrev qc0 (fuel : Nat) : Ctx Out := (fnX Tryd.prog mode12 T_active11 fuel 21 0)
noncomputable def mostF_s2 {R : Type} (w4 w6 : Int) (l : List Int) (w3 w5 : Int) (c0 c1 : Int → Int → Int → Int → Option R) (c2 : Int → Option R) : Option R :=
  br (decide (w4 < w6))
    (bnd (ix l w4) fun e9 =>
    br (decide (e9 > w3))
      (c0 w4 e9 w6 (IntKind.i64.wrap (w4 + 1)))
      (c1 w5 w3 w6 (IntKind.i64.wrap (w4 + 1))))
    (c2 w5)
theorem mostF_s2_eq (fuel k : Nat) (K : Ex → St → Option Out) (w4 w6 : Int) (l : List Int) (w3 w5 : Int) : lpN (sub (bodyOf Tryd.prog 58) [1, 1, 0, 1, 0, 0]) (qc0 fuel) 1048588 [2, 3, 4, 7, 8, 9] (k + 1) ⟨[(2, vI 0), (3, vI w5), (4, vI w3), (7, vL l), (8, vI w6), (9, vI w4)], [], 0, none⟩ K = mostF_s2 w4 w6 l w3 w5 (fun a0 a1 a2 a3 => lpN (sub (bodyOf Tryd.prog 58) [1, 1, 0, 1, 0, 0]) (qc0 fuel) 1048588 [2, 3, 4, 7, 8, 9] k ⟨[(2, vI 0), (3, vI a0), (4, vI a1), (7, vL l), (8, vI a2), (9, vI a3)], [], 0, none⟩ K) (fun a4 a5 a6 a7 => lpN (sub (bodyOf Tryd.prog 58) [1, 1, 0, 1, 0, 0]) (qc0 fuel) 1048588 [2, 3, 4, 7, 8, 9] k ⟨[(2, vI 0), (3, vI a4), (4, vI a5), (7, vL l), (8, vI a6), (9, vI a7)], [], 0, none⟩ K) (fun a8 => K (.exit 0) ⟨[(2, vI 0), (3, vI a8)], [], 0, none⟩) := by kernel_rfl
noncomputable def mostF_l1 {R : Type} (fuel : Nat) (l : List Int) (k0 : Int → Option R) : Nat → Int → Int → Int → Int → Option R
  | 0, _, _, _, _ => none
  | k + 1, w5, w3, w6, w4 =>
    (mostF_s2 w4 w6 l w3 w5 (fun a0 a1 a2 a3 => ( mostF_l1 fuel l k0 k a0 a1 a2 a3 )) (fun a4 a5 a6 a7 => ( mostF_l1 fuel l k0 k a4 a5 a6 a7 )) (fun a8 => k0 a8))
theorem mostF_l1_eq (fuel : Nat) (l : List Int) (K : Ex → St → Option Out) : ∀ (k : Nat) (w5 w3 w6 w4 : Int), lpN (sub (bodyOf Tryd.prog 58) [1, 1, 0, 1, 0, 0]) (qc0 fuel) 1048588 [2, 3, 4, 7, 8, 9] k ⟨[(2, vI 0), (3, vI w5), (4, vI w3), (7, vL l), (8, vI w6), (9, vI w4)], [], 0, none⟩ K = mostF_l1 fuel l (fun y8 => K (.exit 0) ⟨[(2, vI 0), (3, vI y8)], [], 0, none⟩) k w5 w3 w6 w4
  | 0, _, _, _, _ => rfl
  | k + 1, w5, w3, w6, w4 => by
    unfold mostF_l1
    exact (mostF_s2_eq fuel k K w4 w6 l w3 w5).trans (congr (congr (congr (Eq.refl (mostF_s2 (R := Out) w4 w6 l w3 w5)) (funext fun a0 => funext fun a1 => funext fun a2 => funext fun a3 => mostF_l1_eq fuel l K k a0 a1 a2 a3)) (funext fun a4 => funext fun a5 => funext fun a6 => funext fun a7 => mostF_l1_eq fuel l K k a4 a5 a6 a7)) (rfl))
noncomputable def mostF_s3 {R : Type} (x0 : Int) (c0 : Int → Option R) : Option R :=
  c0 x0
theorem mostF_s3_eq (fuel : Nat)  (x0 : Int) : (kont (qc0 fuel) (bodyOf Tryd.prog 58) [1, 1, 0, 1, 0] 4 (endK Tryd.prog 0 0 58)) (.exit 0) ⟨[(2, vI 0), (3, vI x0)], [], 0, none⟩ = mostF_s3 x0 (fun a0 => some (vI a0, [])) := by kernel_rfl
noncomputable def mostF_s1 {R : Type} (l : List Int) (c0 : Int → Int → Int → Int → Option R) : Option R :=
  c0 (-1) 0 ((l.length : Nat) : Int) 0
theorem mostF_s1_eq (fuel : Nat)  (l : List Int) : callN Tryd.prog mode12 T_active11 fuel 58 [vL l] [] = mostF_s1 l (fun a0 a1 a2 a3 => lpN (sub (bodyOf Tryd.prog 58) [1, 1, 0, 1, 0, 0]) (qc0 fuel) 1048588 [2, 3, 4, 7, 8, 9] fuel ⟨[(2, vI 0), (3, vI a0), (4, vI a1), (7, vL l), (8, vI a2), (9, vI a3)], [], 0, none⟩ (kont (qc0 fuel) (bodyOf Tryd.prog 58) [1, 1, 0, 1, 0] 4 (endK Tryd.prog 0 0 58))) := by kernel_rfl
noncomputable def mostF {R : Type} (fuel : Nat) (l : List Int) (r0 : Int → Option R) : Option R :=
  (mostF_s1 l (fun a0 a1 a2 a3 => (mostF_l1 fuel l (fun x0 => (mostF_s3 x0 (fun a4 => r0 a4))) fuel a0 a1 a2 a3)))
theorem mostF_eq (fuel : Nat) (l : List Int) : callN Tryd.prog mode12 T_active11 fuel 58 [.li .i64 l] [] = mostF fuel l (fun z0 => some (.s (.int .i64 z0), [])) := by
  unfold mostF
  exact (mostF_s1_eq fuel  l).trans (congr (Eq.refl (mostF_s1 (R := Out) l)) (funext fun a0 => funext fun a1 => funext fun a2 => funext fun a3 => (mostF_l1_eq fuel l (kont (qc0 fuel) (bodyOf Tryd.prog 58) [1, 1, 0, 1, 0] 4 (endK Tryd.prog 0 0 58)) fuel a0 a1 a2 a3).trans (congrFun (congrFun (congrFun (congrFun (congrFun (congr (Eq.refl (mostF_l1 (R := Out) fuel l)) (funext fun x0 => (mostF_s3_eq fuel  x0))) fuel) a0) a1) a2) a3)))
theorem most_loop {R : Type} (fuel : Nat) (l : List Int) (hl : l.length ≤ 1000) (k0 : Int → Option R) : ∀ (k j : Nat) (t best : Int), j ≤ l.length → l.length < j + k →
    mostF_l1 fuel l k0 k t best (l.length : Int) (j : Int) = k0 (mostFrom (l.drop j) (j : Int) t best)
  | 0, j, t, best, h1, h2 => by omega
  | k + 1, j, t, best, h1, h2 => by
    unfold mostF_l1 mostF_s2
    rw [br_if]
    by_cases hc : j < l.length
    · have ei : ix l (j : Int) = some l[j] := by rw [ix_nat, List.getElem?_eq_getElem hc]
      rw [if_pos (by simpa using hc), bnd_of ei, br_if, List.drop_eq_getElem_cons hc, mostFrom, wrap_i64 (by omega) (by omega), show (j : Int) + 1 = ((j + 1 : Nat) : Int) by omega]
      by_cases h : l[j] > best
      · rw [if_pos (by simpa using h), if_pos h]
        exact most_loop fuel l hl k0 k (j + 1) (j : Int) l[j] (by omega) (by omega)
      · rw [if_neg (by simpa using h), if_neg h]
        exact most_loop fuel l hl k0 k (j + 1) t best (by omega) (by omega)
    · rw [if_neg (by simpa using hc), List.drop_eq_nil_of_le (by omega), mostFrom]
theorem most_fact (l : List Int) (hg : (decide (l.length ≤ 1000)) = true) : Fact Tryd.prog gTab 58 [.li .i64 l] [] (.s (.int .i64 (mostS l)), []) := by
  have hl : l.length ≤ 1000 := of_decide_eq_true hg
  refine callN_fact hN hM T_active11_ok (n := 1001) (mode := mode12) ?_
  rw [mostF_eq]
  unfold mostF mostF_s1
  dsimp only
  have h := fun k0 => most_loop (R := Out) 1001 l hl k0 1001 0 (-1) 0 (by omega) (by omega)
  rw [show ((0 : Nat) : Int) = 0 from rfl, List.drop_zero] at h
  rw [h, mostS_eq]
  rfl
noncomputable def most_ent : List V → List Blk → Option (Bool × Out)
  | [w0], [] => (asSl (.int .i64) w0).bind fun l => some ((decide (l.length ≤ 1000)), (.s (.int .i64 (mostS l)), []))
  | _, _ => none
theorem most_ok : ∀ args bs out, most_ent args bs = some (true, out) → Fact Tryd.prog gTab 58 args bs out := by
  intro args bs out h
  unfold most_ent at h
  split at h
  · rename_i w0
    obtain ⟨l, h_l, h⟩ := Option.bind_eq_some_iff.1 h
    simp only [Option.some.injEq, Prod.mk.injEq] at h
    obtain ⟨hg, rfl⟩ := h
    exact (most_fact l hg).args (fun _ _ _ => fun _ h => RVs_two (fun _ h => RV_li h_l h) (fun _ h => h) h)
  · cases h
noncomputable def T_most : Tbl := Tbl.cons 58 most_ent T_active11
theorem T_most_ok : CallOk Tryd.prog gTab T_most := cons_ok T_active11_ok most_ok
/-! downpour/inactive.Make -/
noncomputable abbrev qc1 : Code := (sub (bodyOf Tryd.prog 14) [1, 0, 1, 1, 1, 1, 0, 0, 0])
noncomputable abbrev qc2 (fuel : Nat) : Ctx Out := (fnX Tryd.prog mode12 T_most fuel 149 0)
noncomputable abbrev qc3 : Nat × Option Blk := (1, some ⟨28, .agg [vN, vN, vN, vN], true⟩)
noncomputable abbrev qc4 : Nat × Option Blk := (0, some ⟨28, .agg [vN, vN, vN, vN], true⟩)
noncomputable abbrev qc5 : Nat := 713623846352979940529142984724747567922953726
noncomputable abbrev qc6 (n : Int) (m : List (Int × List Int)) : Nat × Option Blk := (0, some ⟨24, .agg [vI n, vR m], true⟩)
noncomputable abbrev qc7 : Code := (sub (bodyOf Tryd.prog 14) [1, 0, 1, 1, 1, 1, 1, 0, 1, 0, 0])
noncomputable abbrev qc8 : List (Nat × V) := [(2, .ptr 0 4 0 0), (3, vI 0), (4, .ptr 1 8 0 0)]
noncomputable abbrev qc9 : Nat × V := (5, .fn (.func 57) [] [])
noncomputable abbrev qc10 : List Nat := [1, 2, 3, 4, 5, 6, 7, 8, 28, 29, 30, 31, 32, 33, 34, 35, 36, 37, 38, 39, 40, 41, 42, 43, 84, 85, 86]
noncomputable abbrev qc11 : Nat := 669022355955918694246071548179450845179412508
noncomputable abbrev qc12 : Code := (sub qc1 [0, 1, 0, 1, 0, 0])
noncomputable abbrev qc13 : Nat := 713623845023751944744227111820940507911041052
noncomputable abbrev qc14 : List Nat := [1, 2, 3, 4, 5, 6, 28, 29, 30, 31, 32, 33, 34]
noncomputable abbrev qc15 : List (Nat × V) := [(1, .ptr 0 2 0 0), (2, .ptr 1 4 0 0), (3, vI 0), (4, .ptr 2 8 0 0), qc9]
noncomputable abbrev qc16 : Nat × V := (28, .ptr 0 2 0 0)
noncomputable abbrev qc17 : Nat × V := (31, .ptr 0 2 0 1)
noncomputable abbrev qc18 : Nat × V := (1, .ptr 0 2 0 0)
noncomputable abbrev qc19 : Nat × V := (2, .ptr 1 4 0 0)
noncomputable abbrev qc20 : Nat × V := (4, .ptr 2 8 0 0)
noncomputable abbrev qc21 : Nat × V := (37, .fn (.func 57) [] [])
noncomputable abbrev qc22 : List Nat := [2, 3, 4, 123, 124, 125]
noncomputable abbrev qc23 : Code := (sub qc12 [1, 1, 0, 0, 1, 1, 1, 1, 0, 0])
noncomputable abbrev qc24 : Nat × V := (38, .ptr 2 8 0 0)
noncomputable abbrev qc25 : Nat × V := (2, .ptr 0 4 0 0)
noncomputable abbrev qc26 : Nat × V := (4, .ptr 1 8 0 0)
noncomputable abbrev qc27 : List Nat := [1, 0, 1, 1, 1, 1, 1, 0, 1, 0]
noncomputable abbrev qc28 : Code := (bodyOf Tryd.prog 14)
noncomputable abbrev qc29 : List Nat := [1, 2, 3, 4, 5]
noncomputable abbrev qc30 : List Nat := [1, 1, 0, 0, 1, 1, 1, 1, 0]
noncomputable abbrev qc31 : List Nat := [0, 1, 0, 1, 0]
noncomputable abbrev qc32 : Nat × V := (44, .ptr 2 8 0 0)
noncomputable abbrev qc33 : Nat × V := (45, .ptr 2 8 0 0)
noncomputable abbrev qc34 : Nat × V := (46, .ptr 2 8 0 0)
noncomputable abbrev qc35 : Nat × V := (47, .ptr 2 8 0 0)
noncomputable abbrev qc36 : Nat × V := (48, .ptr 2 8 0 4)
noncomputable abbrev qc37 : Nat × V := (49, .ptr 2 8 0 5)
noncomputable abbrev qc38 : Nat × V := (54, .ptr 2 8 0 0)
noncomputable abbrev qc39 : Nat × V := (55, .ptr 2 8 0 0)
noncomputable abbrev qc40 : Nat × V := (56, .ptr 2 8 0 4)
noncomputable abbrev qc41 : Nat × V := (57, .ptr 2 8 0 6)
noncomputable abbrev qc42 : Nat × V := (64, .ptr 2 8 0 0)
noncomputable abbrev qc43 : Nat × V := (65, .ptr 2 8 0 4)
noncomputable abbrev qc44 : Nat × V := (66, .ptr 2 8 0 5)
noncomputable abbrev qc45 : Nat × V := (67, .ptr 2 8 0 0)
noncomputable abbrev qc46 : Nat × V := (68, .ptr 2 8 0 4)
noncomputable abbrev qc47 : Nat × V := (69, .ptr 2 8 0 6)
noncomputable abbrev qc48 : Nat × V := (70, .ptr 2 8 0 0)
noncomputable abbrev qc49 : Nat × V := (71, .ptr 2 8 0 0)
noncomputable abbrev qc50 : Nat × V := (72, .ptr 2 8 0 2)
noncomputable abbrev qc51 : Nat × V := (75, .ptr 2 8 0 0)
noncomputable abbrev qc52 : Nat × V := (76, .ptr 2 8 0 0)
noncomputable abbrev qc53 : Nat × V := (77, .ptr 2 8 0 3)
noncomputable def MakeF_s4 {R : Type} (w0 w1 : Int) (w2 : List Int) (n0 : Nat) (w3 : List Int) (w6 w7 : Bool) (w8 n : Int) (m : List (Int × List Int)) (w9 : Int) (n2 n3 : Nat) (w4 w5 : List Int) (c0 : List Int → Bool → Int → Bool → Int → List Int → Option R) (c1 : List Int → Bool → Int → Bool → Int → Bool → List Int → Option R) : Option R :=
  br (decide (w0 < w1))
    (bnd (ix w2 w0) fun e0 =>
    bnd (below e0 n0) fun j0 =>
    bnd (w3[(0 + j0)]?) fun e1 =>
    bnd (below e0 n0) fun j1 =>
    bnd (w3[(0 + j1)]?) fun e2 =>
    c0 w2 w6 w1 w7 (IntKind.i64.wrap (w0 + 1)) (w3.set (0 + j1) (IntKind.i64.wrap (e1 + 1))))
    (c1 w2 w6 w1 w7 w0 (decide (w0 < w1)) w3)
theorem MakeF_s4_eq (fuel k : Nat) (K : Ex → St → Option Out) (w0 w1 : Int) (w2 : List Int) (n0 : Nat) (w3 : List Int) (w6 w7 : Bool) (w8 n : Int) (m : List (Int × List Int)) (w9 : Int) (n2 n3 : Nat) (w4 w5 : List Int) : lpN qc23 (qc2 fuel) qc5 qc10 (k + 1) ⟨[qc18, qc19, (3, vI 0), qc20, qc9, (6, .sl 5 1 0 n0), (7, vI w8), (8, vL w2), qc16, (29, vI n), (30, .sl 5 1 0 n0), qc17, (32, vR m), (33, vI w9), (34, vI w8), (35, vB w6), (36, vI w8), qc21, qc24, (39, vI w8), (40, vL w2), (41, vL w2), (42, vI w1), (43, vB w7), (84, vL w2), (85, vI w1), (86, vI w0)], [(qc6 n m), qc3, (2, some ⟨100, .agg [vI n, vR m, .sl 3 1 0 n2, .sl 4 1 0 n3, vN, vN, vN, vN], true⟩), (3, bL 3 w4), (4, bL 3 w5), (5, bL 3 w3)], 6, none⟩ K = MakeF_s4 w0 w1 w2 n0 w3 w6 w7 w8 n m w9 n2 n3 w4 w5 (fun a0 a1 a2 a3 a4 a5 => lpN qc23 (qc2 fuel) qc5 qc10 k ⟨[qc18, qc19, (3, vI 0), qc20, qc9, (6, .sl 5 1 0 n0), (7, vI w8), (8, vL a0), qc16, (29, vI n), (30, .sl 5 1 0 n0), qc17, (32, vR m), (33, vI w9), (34, vI w8), (35, vB a1), (36, vI w8), qc21, qc24, (39, vI w8), (40, vL a0), (41, vL a0), (42, vI a2), (43, vB a3), (84, vL a0), (85, vI a2), (86, vI a4)], [(qc6 n m), qc3, (2, some ⟨100, .agg [vI n, vR m, .sl 3 1 0 n2, .sl 4 1 0 n3, vN, vN, vN, vN], true⟩), (3, bL 3 w4), (4, bL 3 w5), (5, bL 3 a5)], 6, none⟩ K) (fun a6 a7 a8 a9 a10 a11 a12 => K (.exit 4) ⟨[qc18, qc19, (3, vI 0), qc20, qc9, (6, .sl 5 1 0 n0), (7, vI w8), (8, vL a6), qc16, (29, vI n), (30, .sl 5 1 0 n0), qc17, (32, vR m), (33, vI w9), (34, vI w8), (35, vB a7), (36, vI w8), qc21, qc24, (39, vI w8), (40, vL a6), (41, vL a6), (42, vI a8), (43, vB a9), (84, vL a6), (85, vI a8), (86, vI a10), (87, vB a11)], [(qc6 n m), qc3, (2, some ⟨100, .agg [vI n, vR m, .sl 3 1 0 n2, .sl 4 1 0 n3, vN, vN, vN, vN], true⟩), (3, bL 3 w4), (4, bL 3 w5), (5, bL 3 a12)], 6, none⟩) := by kernel_rfl
noncomputable def MakeF_l3 {R : Type} (fuel n0 : Nat) (w0 n : Int) (m : List (Int × List Int)) (w1 : Int) (n2 n3 : Nat) (w4 w5 : List Int) (k0 : List Int → Bool → Int → Bool → Int → Bool → List Int → Option R) : Nat → List Int → Bool → Int → Bool → Int → List Int → Option R
  | 0, _, _, _, _, _, _ => none
  | k + 1, w2, w3, w6, w7, w8, w9 =>
    (MakeF_s4 w8 w6 w2 n0 w9 w3 w7 w0 n m w1 n2 n3 w4 w5 (fun a0 a1 a2 a3 a4 a5 => ( MakeF_l3 fuel n0 w0 n m w1 n2 n3 w4 w5 k0 k a0 a1 a2 a3 a4 a5 )) (fun a6 a7 a8 a9 a10 a11 a12 => k0 a6 a7 a8 a9 a10 a11 a12))
theorem MakeF_l3_eq (fuel n0 : Nat) (w0 n : Int) (m : List (Int × List Int)) (w1 : Int) (n2 n3 : Nat) (w4 w5 : List Int) (K : Ex → St → Option Out) : ∀ (k : Nat) (w2 : List Int) (w3 : Bool) (w6 : Int) (w7 : Bool) (w8 : Int) (w9 : List Int), lpN qc23 (qc2 fuel) qc5 qc10 k ⟨[qc18, qc19, (3, vI 0), qc20, qc9, (6, .sl 5 1 0 n0), (7, vI w0), (8, vL w2), qc16, (29, vI n), (30, .sl 5 1 0 n0), qc17, (32, vR m), (33, vI w1), (34, vI w0), (35, vB w3), (36, vI w0), qc21, qc24, (39, vI w0), (40, vL w2), (41, vL w2), (42, vI w6), (43, vB w7), (84, vL w2), (85, vI w6), (86, vI w8)], [(qc6 n m), qc3, (2, some ⟨100, .agg [vI n, vR m, .sl 3 1 0 n2, .sl 4 1 0 n3, vN, vN, vN, vN], true⟩), (3, bL 3 w4), (4, bL 3 w5), (5, bL 3 w9)], 6, none⟩ K = MakeF_l3 fuel n0 w0 n m w1 n2 n3 w4 w5 (fun y0 y1 y2 y3 y4 y5 y6 => K (.exit 4) ⟨[qc18, qc19, (3, vI 0), qc20, qc9, (6, .sl 5 1 0 n0), (7, vI w0), (8, vL y0), qc16, (29, vI n), (30, .sl 5 1 0 n0), qc17, (32, vR m), (33, vI w1), (34, vI w0), (35, vB y1), (36, vI w0), qc21, qc24, (39, vI w0), (40, vL y0), (41, vL y0), (42, vI y2), (43, vB y3), (84, vL y0), (85, vI y2), (86, vI y4), (87, vB y5)], [(qc6 n m), qc3, (2, some ⟨100, .agg [vI n, vR m, .sl 3 1 0 n2, .sl 4 1 0 n3, vN, vN, vN, vN], true⟩), (3, bL 3 w4), (4, bL 3 w5), (5, bL 3 y6)], 6, none⟩) k w2 w3 w6 w7 w8 w9
  | 0, _, _, _, _, _, _ => rfl
  | k + 1, w2, w3, w6, w7, w8, w9 => by
    unfold MakeF_l3
    exact (MakeF_s4_eq fuel k K w8 w6 w2 n0 w9 w3 w7 w0 n m w1 n2 n3 w4 w5).trans (congr (congr (Eq.refl (MakeF_s4 (R := Out) w8 w6 w2 n0 w9 w3 w7 w0 n m w1 n2 n3 w4 w5)) (funext fun a0 => funext fun a1 => funext fun a2 => funext fun a3 => funext fun a4 => funext fun a5 => MakeF_l3_eq fuel n0 w0 n m w1 n2 n3 w4 w5 K k a0 a1 a2 a3 a4 a5)) (rfl))
noncomputable def MakeF_s5 {R : Type} (w0 w1 : Int) (x0 : List Int) (n0 : Nat) (x1 : List Int) (n : Int) (m : List (Int × List Int)) (x2 : Bool) (x3 : Int) (x4 : Bool) (x5 : Int) (x6 : Bool) (n2 n3 : Nat) (w4 w5 : List Int) (c0 : Int → Int → List Int → Option R) : Option R :=
  c0 w0 (IntKind.i64.wrap (w1 + 1)) x0
theorem MakeF_s5_eq (fuel k : Nat) (K : Ex → St → Option Out) (w0 w1 : Int) (x0 : List Int) (n0 : Nat) (x1 : List Int) (n : Int) (m : List (Int × List Int)) (x2 : Bool) (x3 : Int) (x4 : Bool) (x5 : Int) (x6 : Bool) (n2 n3 : Nat) (w4 w5 : List Int) : (kont (qc2 fuel) qc12 qc30 qc5 (rdK qc12 (qc2 fuel) qc5 qc14 k K)) (.exit 4) ⟨[qc18, qc19, (3, vI 0), qc20, qc9, (6, .sl 5 1 0 n0), (7, vI w1), (8, vL x1), qc16, (29, vI n), (30, .sl 5 1 0 n0), qc17, (32, vR m), (33, vI w0), (34, vI w1), (35, vB x2), (36, vI w1), qc21, qc24, (39, vI w1), (40, vL x1), (41, vL x1), (42, vI x3), (43, vB x4), (84, vL x1), (85, vI x3), (86, vI x5), (87, vB x6)], [(qc6 n m), qc3, (2, some ⟨100, .agg [vI n, vR m, .sl 3 1 0 n2, .sl 4 1 0 n3, vN, vN, vN, vN], true⟩), (3, bL 3 w4), (4, bL 3 w5), (5, bL 3 x0)], 6, none⟩ = MakeF_s5 w0 w1 x0 n0 x1 n m x2 x3 x4 x5 x6 n2 n3 w4 w5 (fun a0 a1 a2 => lpN qc12 (qc2 fuel) qc5 qc14 k ⟨[qc18, qc19, (3, vI 0), qc20, qc9, (6, .sl 5 1 0 n0), qc16, (29, vI n), (30, .sl 5 1 0 n0), qc17, (32, vR m), (33, vI a0), (34, vI a1)], [(qc6 n m), qc3, (2, some ⟨100, .agg [vI n, vR m, .sl 3 1 0 n2, .sl 4 1 0 n3, vN, vN, vN, vN], true⟩), (3, bL 3 w4), (4, bL 3 w5), (5, bL 3 a2)], 6, none⟩ K) := by kernel_rfl
noncomputable def MakeF_s3 {R : Type} (w0 w1 n : Int) (m : List (Int × List Int)) (w4 w5 : List Int) (n2 n3 : Nat) (w2 : List Int) (n0 : Nat) (c0 : Int → List Int → Int → Bool → Int → Bool → Int → Int → Nat → Nat → List Int → List Int → List Int → List Int → List Int → Option R) (c1 : List Int → Bool → Int → Bool → Int → List Int → Option R) (c2 : Int → Int → Bool → List Int → Option R) : Option R :=
  br (decide (w0 < w1))
    (grd (actOk n m w4 w5 w0 && decide (n2 = w4.length) && decide (n3 = w5.length)) <|
    br (((((actS m w4 w5 w0).length : Nat) : Int) : Int) == 1)
      (bnd (ix (actS m w4 w5 w0) 0) fun e0 =>
      bnd (ix (actS m w4 w5 w0) 0) fun e1 =>
      bnd (below w0 n2) fun j0 =>
      bnd (w4[(0 + j0)]?) fun e2 =>
      bnd (below e1 n3) fun j1 =>
      bnd (w5[(0 + j1)]?) fun e3 =>
      c0 w0 (actS m w4 w5 w0) w1 (decide (w0 < w1)) (((actS m w4 w5 w0).length : Nat) : Int) (((((actS m w4 w5 w0).length : Nat) : Int) : Int) == 1) e0 e1 (0 + j0) (0 + j1) (w4.set (0 + j0) 1) (w5.set (0 + j1) 1) ([w0]) ([e0]) w2)
      (c1 (actS m w4 w5 w0) (decide (w0 < w1)) (((actS m w4 w5 w0).length : Nat) : Int) (((((actS m w4 w5 w0).length : Nat) : Int) : Int) == 1) 0 w2))
    (c2 w1 w0 (decide (w0 < w1)) w2)
theorem MakeF_s3_eq (fuel k : Nat) (K : Ex → St → Option Out) (w0 w1 n : Int) (m : List (Int × List Int)) (w4 w5 : List Int) (n2 n3 : Nat) (w2 : List Int) (n0 : Nat) : lpN qc12 (qc2 fuel) qc5 qc14 (k + 1) ⟨[qc18, qc19, (3, vI 0), qc20, qc9, (6, .sl 5 1 0 n0), qc16, (29, vI n), (30, .sl 5 1 0 n0), qc17, (32, vR m), (33, vI w1), (34, vI w0)], [(qc6 n m), qc3, (2, some ⟨100, .agg [vI n, vR m, .sl 3 1 0 n2, .sl 4 1 0 n3, vN, vN, vN, vN], true⟩), (3, bL 3 w4), (4, bL 3 w5), (5, bL 3 w2)], 6, none⟩ K = MakeF_s3 w0 w1 n m w4 w5 n2 n3 w2 n0 (fun a0 a1 a2 a3 a4 a5 a6 a7 a8 a9 a10 a11 a12 a13 a14 => K (.exit 1) ⟨[qc18, qc19, (3, vI 0), qc20, qc9, (6, .sl 7 1 0 n0), (7, vI a0), (8, vL a1), qc16, (29, vI n), (30, .sl 7 1 0 n0), qc17, (32, vR m), (33, vI a2), (34, vI a0), (35, vB a3), (36, vI a0), qc21, qc24, (39, vI a0), (40, vL a1), (41, vL a1), (42, vI a4), (43, vB a5), qc32, qc33, qc34, qc35, qc36, qc37, (50, vN), (51, vI a0), (52, .sl 8 1 0 1), (53, .sl 5 1 0 1), qc38, qc39, qc40, qc41, (58, vN), (59, vL a1), (60, .lp [vI a6] 0), (61, vI a6), (62, .sl 9 1 0 1), (63, .sl 6 1 0 1), qc42, qc43, qc44, qc45, qc46, qc47, qc48, qc49, qc50, (73, .sl 3 1 0 n2), (74, vI a0), qc51, qc52, qc53, (78, .sl 4 1 0 n3), (79, vL a1), (80, .lp [vI a7] 0), (81, vI a7), (82, .ptr 3 1 a8 0), (83, .ptr 4 1 a9 0)], [(qc6 n m), qc3, (2, some ⟨100, .agg [vI n, vR m, .sl 3 1 0 n2, .sl 4 1 0 n3, vN, .sl 5 1 0 1, .sl 6 1 0 1, vN], true⟩), (3, bL 3 a10), (4, bL 3 a11), (5, bL 3 a12), (6, bL 3 a13), (7, bL 3 a14), (8, bL 3 a12), (9, bL 3 a13)], 10, none⟩) (fun a15 a16 a17 a18 a19 a20 => lpN qc23 (qc2 fuel) qc5 qc10 fuel ⟨[qc18, qc19, (3, vI 0), qc20, qc9, (6, .sl 5 1 0 n0), (7, vI w0), (8, vL a15), qc16, (29, vI n), (30, .sl 5 1 0 n0), qc17, (32, vR m), (33, vI w1), (34, vI w0), (35, vB a16), (36, vI w0), qc21, qc24, (39, vI w0), (40, vL a15), (41, vL a15), (42, vI a17), (43, vB a18), (84, vL a15), (85, vI a17), (86, vI a19)], [(qc6 n m), qc3, (2, some ⟨100, .agg [vI n, vR m, .sl 3 1 0 n2, .sl 4 1 0 n3, vN, vN, vN, vN], true⟩), (3, bL 3 w4), (4, bL 3 w5), (5, bL 3 a20)], 6, none⟩ (kont (qc2 fuel) qc12 qc30 qc5 (rdK qc12 (qc2 fuel) qc5 qc14 k K))) (fun a21 a22 a23 a24 => K (.exit 2) ⟨[qc18, qc19, (3, vI 0), qc20, qc9, (6, .sl 5 1 0 n0), qc16, (29, vI n), (30, .sl 5 1 0 n0), qc17, (32, vR m), (33, vI a21), (34, vI a22), (35, vB a23)], [(qc6 n m), qc3, (2, some ⟨100, .agg [vI n, vR m, .sl 3 1 0 n2, .sl 4 1 0 n3, vN, vN, vN, vN], true⟩), (3, bL 3 w4), (4, bL 3 w5), (5, bL 3 a24)], 6, none⟩) := by kernel_rfl
noncomputable def MakeF_l2 {R : Type} (fuel n0 : Nat) (n : Int) (m : List (Int × List Int)) (n2 n3 : Nat) (w4 w5 : List Int) (k0 : Int → List Int → Int → Bool → Int → Bool → Int → Int → Nat → Nat → List Int → List Int → List Int → List Int → List Int → Option R) (k1 : Int → Int → Bool → List Int → Option R) : Nat → Int → Int → List Int → Option R
  | 0, _, _, _ => none
  | k + 1, w0, w1, w2 =>
    (MakeF_s3 w1 w0 n m w4 w5 n2 n3 w2 n0 (fun a0 a1 a2 a3 a4 a5 a6 a7 a8 a9 a10 a11 a12 a13 a14 => k0 a0 a1 a2 a3 a4 a5 a6 a7 a8 a9 a10 a11 a12 a13 a14) (fun a15 a16 a17 a18 a19 a20 => (MakeF_l3 fuel n0 w1 n m w0 n2 n3 w4 w5 (fun x0 x1 x2 x3 x4 x5 x6 => (MakeF_s5 w0 w1 x6 n0 x0 n m x1 x2 x3 x4 x5 n2 n3 w4 w5 (fun a21 a22 a23 => ( MakeF_l2 fuel n0 n m n2 n3 w4 w5 k0 k1 k a21 a22 a23 )))) fuel a15 a16 a17 a18 a19 a20)) (fun a24 a25 a26 a27 => k1 a24 a25 a26 a27))
theorem MakeF_l2_eq (fuel n0 : Nat) (n : Int) (m : List (Int × List Int)) (n2 n3 : Nat) (w4 w5 : List Int) (K : Ex → St → Option Out) : ∀ (k : Nat) (w0 w1 : Int) (w2 : List Int), lpN qc12 (qc2 fuel) qc5 qc14 k ⟨[qc18, qc19, (3, vI 0), qc20, qc9, (6, .sl 5 1 0 n0), qc16, (29, vI n), (30, .sl 5 1 0 n0), qc17, (32, vR m), (33, vI w0), (34, vI w1)], [(qc6 n m), qc3, (2, some ⟨100, .agg [vI n, vR m, .sl 3 1 0 n2, .sl 4 1 0 n3, vN, vN, vN, vN], true⟩), (3, bL 3 w4), (4, bL 3 w5), (5, bL 3 w2)], 6, none⟩ K = MakeF_l2 fuel n0 n m n2 n3 w4 w5 (fun y0 y1 y2 y3 y4 y5 y6 y7 y8 y9 y10 y11 y12 y13 y14 => K (.exit 1) ⟨[qc18, qc19, (3, vI 0), qc20, qc9, (6, .sl 7 1 0 n0), (7, vI y0), (8, vL y1), qc16, (29, vI n), (30, .sl 7 1 0 n0), qc17, (32, vR m), (33, vI y2), (34, vI y0), (35, vB y3), (36, vI y0), qc21, qc24, (39, vI y0), (40, vL y1), (41, vL y1), (42, vI y4), (43, vB y5), qc32, qc33, qc34, qc35, qc36, qc37, (50, vN), (51, vI y0), (52, .sl 8 1 0 1), (53, .sl 5 1 0 1), qc38, qc39, qc40, qc41, (58, vN), (59, vL y1), (60, .lp [vI y6] 0), (61, vI y6), (62, .sl 9 1 0 1), (63, .sl 6 1 0 1), qc42, qc43, qc44, qc45, qc46, qc47, qc48, qc49, qc50, (73, .sl 3 1 0 n2), (74, vI y0), qc51, qc52, qc53, (78, .sl 4 1 0 n3), (79, vL y1), (80, .lp [vI y7] 0), (81, vI y7), (82, .ptr 3 1 y8 0), (83, .ptr 4 1 y9 0)], [(qc6 n m), qc3, (2, some ⟨100, .agg [vI n, vR m, .sl 3 1 0 n2, .sl 4 1 0 n3, vN, .sl 5 1 0 1, .sl 6 1 0 1, vN], true⟩), (3, bL 3 y10), (4, bL 3 y11), (5, bL 3 y12), (6, bL 3 y13), (7, bL 3 y14), (8, bL 3 y12), (9, bL 3 y13)], 10, none⟩) (fun y15 y16 y17 y18 => K (.exit 2) ⟨[qc18, qc19, (3, vI 0), qc20, qc9, (6, .sl 5 1 0 n0), qc16, (29, vI n), (30, .sl 5 1 0 n0), qc17, (32, vR m), (33, vI y15), (34, vI y16), (35, vB y17)], [(qc6 n m), qc3, (2, some ⟨100, .agg [vI n, vR m, .sl 3 1 0 n2, .sl 4 1 0 n3, vN, vN, vN, vN], true⟩), (3, bL 3 w4), (4, bL 3 w5), (5, bL 3 y18)], 6, none⟩) k w0 w1 w2
  | 0, _, _, _ => rfl
  | k + 1, w0, w1, w2 => by
    unfold MakeF_l2
    exact (MakeF_s3_eq fuel k K w1 w0 n m w4 w5 n2 n3 w2 n0).trans (congr (congr (congr (Eq.refl (MakeF_s3 (R := Out) w1 w0 n m w4 w5 n2 n3 w2 n0)) (rfl)) (funext fun a0 => funext fun a1 => funext fun a2 => funext fun a3 => funext fun a4 => funext fun a5 => (MakeF_l3_eq fuel n0 w1 n m w0 n2 n3 w4 w5 (kont (qc2 fuel) qc12 qc30 qc5 (rdK qc12 (qc2 fuel) qc5 qc14 k K)) fuel a0 a1 a2 a3 a4 a5).trans (congrFun (congrFun (congrFun (congrFun (congrFun (congrFun (congrFun (congr (Eq.refl (MakeF_l3 (R := Out) fuel n0 w1 n m w0 n2 n3 w4 w5)) (funext fun x0 => funext fun x1 => funext fun x2 => funext fun x3 => funext fun x4 => funext fun x5 => funext fun x6 => (MakeF_s5_eq fuel k K w0 w1 x6 n0 x0 n m x1 x2 x3 x4 x5 n2 n3 w4 w5).trans (congr (Eq.refl (MakeF_s5 (R := Out) w0 w1 x6 n0 x0 n m x1 x2 x3 x4 x5 n2 n3 w4 w5)) (funext fun a6 => funext fun a7 => funext fun a8 => MakeF_l2_eq fuel n0 n m n2 n3 w4 w5 K k a6 a7 a8)))) fuel) a0) a1) a2) a3) a4) a5))) (rfl))
noncomputable def MakeF_s9 {R : Type} (w0 w1 : Int) (w2 : List Int) (n0 : Nat) (w3 : List Int) (w4 w5 : Bool) (w6 n : Int) (m : List (Int × List Int)) (w7 : Int) (n2 n3 w8 w9 : Nat) (w10 w11 w12 w13 : List Int) (c0 : List Int → Bool → Int → Bool → Int → List Int → Option R) (c1 : List Int → Bool → Int → Bool → Int → Bool → List Int → Option R) : Option R :=
  br (decide (w0 < w1))
    (bnd (ix w2 w0) fun e0 =>
    bnd (below e0 n0) fun j0 =>
    bnd (w3[(0 + j0)]?) fun e1 =>
    bnd (below e0 n0) fun j1 =>
    bnd (w3[(0 + j1)]?) fun e2 =>
    c0 w2 w4 w1 w5 (IntKind.i64.wrap (w0 + 1)) (w3.set (0 + j1) (IntKind.i64.wrap (e1 + 1))))
    (c1 w2 w4 w1 w5 w0 (decide (w0 < w1)) w3)
theorem MakeF_s9_eq (fuel k : Nat) (K : Ex → St → Option Out) (w0 w1 : Int) (w2 : List Int) (n0 : Nat) (w3 : List Int) (w4 w5 : Bool) (w6 n : Int) (m : List (Int × List Int)) (w7 : Int) (n2 n3 w8 w9 : Nat) (w10 w11 w12 w13 : List Int) : lpN qc23 (qc2 fuel) qc5 qc10 (k + 1) ⟨[qc18, qc19, (3, vI 0), qc20, qc9, (6, .sl 7 1 0 n0), (7, vI w6), (8, vL w2), qc16, (29, vI n), (30, .sl 7 1 0 n0), qc17, (32, vR m), (33, vI w7), (34, vI w6), (35, vB w4), (36, vI w6), qc21, qc24, (39, vI w6), (40, vL w2), (41, vL w2), (42, vI w1), (43, vB w5), (84, vL w2), (85, vI w1), (86, vI w0)], [(qc6 n m), qc3, (2, some ⟨100, .agg [vI n, vR m, .sl 3 1 0 n2, .sl 4 1 0 n3, vN, .sl 5 1 0 w8, .sl 6 1 0 w9, vN], true⟩), (3, bL 3 w10), (4, bL 3 w11), (5, bL 3 w12), (6, bL 3 w13), (7, bL 3 w3)], 8, none⟩ K = MakeF_s9 w0 w1 w2 n0 w3 w4 w5 w6 n m w7 n2 n3 w8 w9 w10 w11 w12 w13 (fun a0 a1 a2 a3 a4 a5 => lpN qc23 (qc2 fuel) qc5 qc10 k ⟨[qc18, qc19, (3, vI 0), qc20, qc9, (6, .sl 7 1 0 n0), (7, vI w6), (8, vL a0), qc16, (29, vI n), (30, .sl 7 1 0 n0), qc17, (32, vR m), (33, vI w7), (34, vI w6), (35, vB a1), (36, vI w6), qc21, qc24, (39, vI w6), (40, vL a0), (41, vL a0), (42, vI a2), (43, vB a3), (84, vL a0), (85, vI a2), (86, vI a4)], [(qc6 n m), qc3, (2, some ⟨100, .agg [vI n, vR m, .sl 3 1 0 n2, .sl 4 1 0 n3, vN, .sl 5 1 0 w8, .sl 6 1 0 w9, vN], true⟩), (3, bL 3 w10), (4, bL 3 w11), (5, bL 3 w12), (6, bL 3 w13), (7, bL 3 a5)], 8, none⟩ K) (fun a6 a7 a8 a9 a10 a11 a12 => K (.exit 4) ⟨[qc18, qc19, (3, vI 0), qc20, qc9, (6, .sl 7 1 0 n0), (7, vI w6), (8, vL a6), qc16, (29, vI n), (30, .sl 7 1 0 n0), qc17, (32, vR m), (33, vI w7), (34, vI w6), (35, vB a7), (36, vI w6), qc21, qc24, (39, vI w6), (40, vL a6), (41, vL a6), (42, vI a8), (43, vB a9), (84, vL a6), (85, vI a8), (86, vI a10), (87, vB a11)], [(qc6 n m), qc3, (2, some ⟨100, .agg [vI n, vR m, .sl 3 1 0 n2, .sl 4 1 0 n3, vN, .sl 5 1 0 w8, .sl 6 1 0 w9, vN], true⟩), (3, bL 3 w10), (4, bL 3 w11), (5, bL 3 w12), (6, bL 3 w13), (7, bL 3 a12)], 8, none⟩) := by kernel_rfl
noncomputable def MakeF_l6 {R : Type} (fuel n0 : Nat) (w0 n : Int) (m : List (Int × List Int)) (w1 : Int) (n2 n3 w2 w3 : Nat) (w4 w5 w6 w7 : List Int) (k0 : List Int → Bool → Int → Bool → Int → Bool → List Int → Option R) : Nat → List Int → Bool → Int → Bool → Int → List Int → Option R
  | 0, _, _, _, _, _, _ => none
  | k + 1, w8, w9, w10, w11, w12, w13 =>
    (MakeF_s9 w12 w10 w8 n0 w13 w9 w11 w0 n m w1 n2 n3 w2 w3 w4 w5 w6 w7 (fun a0 a1 a2 a3 a4 a5 => ( MakeF_l6 fuel n0 w0 n m w1 n2 n3 w2 w3 w4 w5 w6 w7 k0 k a0 a1 a2 a3 a4 a5 )) (fun a6 a7 a8 a9 a10 a11 a12 => k0 a6 a7 a8 a9 a10 a11 a12))
theorem MakeF_l6_eq (fuel n0 : Nat) (w0 n : Int) (m : List (Int × List Int)) (w1 : Int) (n2 n3 w2 w3 : Nat) (w4 w5 w6 w7 : List Int) (K : Ex → St → Option Out) : ∀ (k : Nat) (w8 : List Int) (w9 : Bool) (w10 : Int) (w11 : Bool) (w12 : Int) (w13 : List Int), lpN qc23 (qc2 fuel) qc5 qc10 k ⟨[qc18, qc19, (3, vI 0), qc20, qc9, (6, .sl 7 1 0 n0), (7, vI w0), (8, vL w8), qc16, (29, vI n), (30, .sl 7 1 0 n0), qc17, (32, vR m), (33, vI w1), (34, vI w0), (35, vB w9), (36, vI w0), qc21, qc24, (39, vI w0), (40, vL w8), (41, vL w8), (42, vI w10), (43, vB w11), (84, vL w8), (85, vI w10), (86, vI w12)], [(qc6 n m), qc3, (2, some ⟨100, .agg [vI n, vR m, .sl 3 1 0 n2, .sl 4 1 0 n3, vN, .sl 5 1 0 w2, .sl 6 1 0 w3, vN], true⟩), (3, bL 3 w4), (4, bL 3 w5), (5, bL 3 w6), (6, bL 3 w7), (7, bL 3 w13)], 8, none⟩ K = MakeF_l6 fuel n0 w0 n m w1 n2 n3 w2 w3 w4 w5 w6 w7 (fun y0 y1 y2 y3 y4 y5 y6 => K (.exit 4) ⟨[qc18, qc19, (3, vI 0), qc20, qc9, (6, .sl 7 1 0 n0), (7, vI w0), (8, vL y0), qc16, (29, vI n), (30, .sl 7 1 0 n0), qc17, (32, vR m), (33, vI w1), (34, vI w0), (35, vB y1), (36, vI w0), qc21, qc24, (39, vI w0), (40, vL y0), (41, vL y0), (42, vI y2), (43, vB y3), (84, vL y0), (85, vI y2), (86, vI y4), (87, vB y5)], [(qc6 n m), qc3, (2, some ⟨100, .agg [vI n, vR m, .sl 3 1 0 n2, .sl 4 1 0 n3, vN, .sl 5 1 0 w2, .sl 6 1 0 w3, vN], true⟩), (3, bL 3 w4), (4, bL 3 w5), (5, bL 3 w6), (6, bL 3 w7), (7, bL 3 y6)], 8, none⟩) k w8 w9 w10 w11 w12 w13
  | 0, _, _, _, _, _, _ => rfl
  | k + 1, w8, w9, w10, w11, w12, w13 => by
    unfold MakeF_l6
    exact (MakeF_s9_eq fuel k K w12 w10 w8 n0 w13 w9 w11 w0 n m w1 n2 n3 w2 w3 w4 w5 w6 w7).trans (congr (congr (Eq.refl (MakeF_s9 (R := Out) w12 w10 w8 n0 w13 w9 w11 w0 n m w1 n2 n3 w2 w3 w4 w5 w6 w7)) (funext fun a0 => funext fun a1 => funext fun a2 => funext fun a3 => funext fun a4 => funext fun a5 => MakeF_l6_eq fuel n0 w0 n m w1 n2 n3 w2 w3 w4 w5 w6 w7 K k a0 a1 a2 a3 a4 a5)) (rfl))
noncomputable def MakeF_s10 {R : Type} (w0 w1 : Int) (x0 : List Int) (n0 : Nat) (x1 : List Int) (n : Int) (m : List (Int × List Int)) (x2 : Bool) (x3 : Int) (x4 : Bool) (x5 : Int) (x6 : Bool) (n2 n3 w2 w3 : Nat) (w4 w5 w6 w7 : List Int) (c0 : Int → Int → List Int → Option R) : Option R :=
  c0 w0 (IntKind.i64.wrap (w1 + 1)) x0
theorem MakeF_s10_eq (fuel k : Nat) (K : Ex → St → Option Out) (w0 w1 : Int) (x0 : List Int) (n0 : Nat) (x1 : List Int) (n : Int) (m : List (Int × List Int)) (x2 : Bool) (x3 : Int) (x4 : Bool) (x5 : Int) (x6 : Bool) (n2 n3 w2 w3 : Nat) (w4 w5 w6 w7 : List Int) : (kont (qc2 fuel) qc12 qc30 qc5 (rdK qc12 (qc2 fuel) qc5 qc14 k K)) (.exit 4) ⟨[qc18, qc19, (3, vI 0), qc20, qc9, (6, .sl 7 1 0 n0), (7, vI w1), (8, vL x1), qc16, (29, vI n), (30, .sl 7 1 0 n0), qc17, (32, vR m), (33, vI w0), (34, vI w1), (35, vB x2), (36, vI w1), qc21, qc24, (39, vI w1), (40, vL x1), (41, vL x1), (42, vI x3), (43, vB x4), (84, vL x1), (85, vI x3), (86, vI x5), (87, vB x6)], [(qc6 n m), qc3, (2, some ⟨100, .agg [vI n, vR m, .sl 3 1 0 n2, .sl 4 1 0 n3, vN, .sl 5 1 0 w2, .sl 6 1 0 w3, vN], true⟩), (3, bL 3 w4), (4, bL 3 w5), (5, bL 3 w6), (6, bL 3 w7), (7, bL 3 x0)], 8, none⟩ = MakeF_s10 w0 w1 x0 n0 x1 n m x2 x3 x4 x5 x6 n2 n3 w2 w3 w4 w5 w6 w7 (fun a0 a1 a2 => lpN qc12 (qc2 fuel) qc5 qc14 k ⟨[qc18, qc19, (3, vI 0), qc20, qc9, (6, .sl 7 1 0 n0), qc16, (29, vI n), (30, .sl 7 1 0 n0), qc17, (32, vR m), (33, vI a0), (34, vI a1)], [(qc6 n m), qc3, (2, some ⟨100, .agg [vI n, vR m, .sl 3 1 0 n2, .sl 4 1 0 n3, vN, .sl 5 1 0 w2, .sl 6 1 0 w3, vN], true⟩), (3, bL 3 w4), (4, bL 3 w5), (5, bL 3 w6), (6, bL 3 w7), (7, bL 3 a2)], 8, none⟩ K) := by kernel_rfl
noncomputable def MakeF_s8 {R : Type} (w0 w1 n : Int) (m : List (Int × List Int)) (w2 w3 : List Int) (n2 n3 : Nat) (w4 : List Int) (w5 : Nat) (w6 : List Int) (w7 : Nat) (w8 : List Int) (n0 : Nat) (c0 : Int → List Int → Int → Bool → Int → Bool → Nat → Int → Nat → Int → Nat → Nat → List Int → List Int → List Int → List Int → List Int → List Int → List Int → Option R) (c1 : List Int → Bool → Int → Bool → Int → List Int → Option R) (c2 : Int → Int → Bool → List Int → Option R) : Option R :=
  br (decide (w0 < w1))
    (grd (actOk n m w2 w3 w0 && decide (n2 = w2.length) && decide (n3 = w3.length)) <|
    br (((((actS m w2 w3 w0).length : Nat) : Int) : Int) == 1)
      (grd (Nat.beq w4.length w5) <|
      grd (okN (w5 + 1) 8) <|
      bnd (ix (actS m w2 w3 w0) 0) fun e0 =>
      grd (Nat.beq w6.length w7) <|
      grd (okN (w7 + 1) 8) <|
      bnd (ix (actS m w2 w3 w0) 0) fun e1 =>
      bnd (below w0 n2) fun j0 =>
      bnd (w2[(0 + j0)]?) fun e2 =>
      bnd (below e1 n3) fun j1 =>
      bnd (w3[(0 + j1)]?) fun e3 =>
      c0 w0 (actS m w2 w3 w0) w1 (decide (w0 < w1)) (((actS m w2 w3 w0).length : Nat) : Int) (((((actS m w2 w3 w0).length : Nat) : Int) : Int) == 1) ((w4 ++ [w0]).length) e0 ((w6 ++ [e0]).length) e1 (0 + j0) (0 + j1) (w2.set (0 + j0) 1) (w3.set (0 + j1) 1) (w4 ++ [w0]) (w6 ++ [e0]) w8 ([w0]) ([e0]))
      (c1 (actS m w2 w3 w0) (decide (w0 < w1)) (((actS m w2 w3 w0).length : Nat) : Int) (((((actS m w2 w3 w0).length : Nat) : Int) : Int) == 1) 0 w8))
    (c2 w1 w0 (decide (w0 < w1)) w8)
theorem MakeF_s8_eq (fuel k : Nat) (K : Ex → St → Option Out) (w0 w1 n : Int) (m : List (Int × List Int)) (w2 w3 : List Int) (n2 n3 : Nat) (w4 : List Int) (w5 : Nat) (w6 : List Int) (w7 : Nat) (w8 : List Int) (n0 : Nat) : lpN qc12 (qc2 fuel) qc5 qc14 (k + 1) ⟨[qc18, qc19, (3, vI 0), qc20, qc9, (6, .sl 7 1 0 n0), qc16, (29, vI n), (30, .sl 7 1 0 n0), qc17, (32, vR m), (33, vI w1), (34, vI w0)], [(qc6 n m), qc3, (2, some ⟨100, .agg [vI n, vR m, .sl 3 1 0 n2, .sl 4 1 0 n3, vN, .sl 5 1 0 w5, .sl 6 1 0 w7, vN], true⟩), (3, bL 3 w2), (4, bL 3 w3), (5, bL 3 w4), (6, bL 3 w6), (7, bL 3 w8)], 8, none⟩ K = MakeF_s8 w0 w1 n m w2 w3 n2 n3 w4 w5 w6 w7 w8 n0 (fun a0 a1 a2 a3 a4 a5 a6 a7 a8 a9 a10 a11 a12 a13 a14 a15 a16 a17 a18 => K (.exit 1) ⟨[qc18, qc19, (3, vI 0), qc20, qc9, (6, .sl 7 1 0 n0), (7, vI a0), (8, vL a1), qc16, (29, vI n), (30, .sl 7 1 0 n0), qc17, (32, vR m), (33, vI a2), (34, vI a0), (35, vB a3), (36, vI a0), qc21, qc24, (39, vI a0), (40, vL a1), (41, vL a1), (42, vI a4), (43, vB a5), qc32, qc33, qc34, qc35, qc36, qc37, (50, .sl 8 1 0 w5), (51, vI a0), (52, .sl 9 1 0 1), (53, .sl 5 1 0 a6), qc38, qc39, qc40, qc41, (58, .sl 10 1 0 w7), (59, vL a1), (60, .lp [vI a7] 0), (61, vI a7), (62, .sl 11 1 0 1), (63, .sl 6 1 0 a8), qc42, qc43, qc44, qc45, qc46, qc47, qc48, qc49, qc50, (73, .sl 3 1 0 n2), (74, vI a0), qc51, qc52, qc53, (78, .sl 4 1 0 n3), (79, vL a1), (80, .lp [vI a9] 0), (81, vI a9), (82, .ptr 3 1 a10 0), (83, .ptr 4 1 a11 0)], [(qc6 n m), qc3, (2, some ⟨100, .agg [vI n, vR m, .sl 3 1 0 n2, .sl 4 1 0 n3, vN, .sl 5 1 0 a6, .sl 6 1 0 a8, vN], true⟩), (3, bL 3 a12), (4, bL 3 a13), (5, bL 3 a14), (6, bL 3 a15), (7, bL 3 a16), (8, none), (9, bL 3 a17), (10, none), (11, bL 3 a18)], 12, none⟩) (fun a19 a20 a21 a22 a23 a24 => lpN qc23 (qc2 fuel) qc5 qc10 fuel ⟨[qc18, qc19, (3, vI 0), qc20, qc9, (6, .sl 7 1 0 n0), (7, vI w0), (8, vL a19), qc16, (29, vI n), (30, .sl 7 1 0 n0), qc17, (32, vR m), (33, vI w1), (34, vI w0), (35, vB a20), (36, vI w0), qc21, qc24, (39, vI w0), (40, vL a19), (41, vL a19), (42, vI a21), (43, vB a22), (84, vL a19), (85, vI a21), (86, vI a23)], [(qc6 n m), qc3, (2, some ⟨100, .agg [vI n, vR m, .sl 3 1 0 n2, .sl 4 1 0 n3, vN, .sl 5 1 0 w5, .sl 6 1 0 w7, vN], true⟩), (3, bL 3 w2), (4, bL 3 w3), (5, bL 3 w4), (6, bL 3 w6), (7, bL 3 a24)], 8, none⟩ (kont (qc2 fuel) qc12 qc30 qc5 (rdK qc12 (qc2 fuel) qc5 qc14 k K))) (fun a25 a26 a27 a28 => K (.exit 2) ⟨[qc18, qc19, (3, vI 0), qc20, qc9, (6, .sl 7 1 0 n0), qc16, (29, vI n), (30, .sl 7 1 0 n0), qc17, (32, vR m), (33, vI a25), (34, vI a26), (35, vB a27)], [(qc6 n m), qc3, (2, some ⟨100, .agg [vI n, vR m, .sl 3 1 0 n2, .sl 4 1 0 n3, vN, .sl 5 1 0 w5, .sl 6 1 0 w7, vN], true⟩), (3, bL 3 w2), (4, bL 3 w3), (5, bL 3 w4), (6, bL 3 w6), (7, bL 3 a28)], 8, none⟩) := by kernel_rfl
noncomputable def MakeF_l5 {R : Type} (fuel n0 : Nat) (n : Int) (m : List (Int × List Int)) (n2 n3 w0 w1 : Nat) (w2 w3 w4 w5 : List Int) (k0 : Int → List Int → Int → Bool → Int → Bool → Nat → Int → Nat → Int → Nat → Nat → List Int → List Int → List Int → List Int → List Int → List Int → List Int → Option R) (k1 : Int → Int → Bool → List Int → Option R) : Nat → Int → Int → List Int → Option R
  | 0, _, _, _ => none
  | k + 1, w6, w7, w8 =>
    (MakeF_s8 w7 w6 n m w2 w3 n2 n3 w4 w0 w5 w1 w8 n0 (fun a0 a1 a2 a3 a4 a5 a6 a7 a8 a9 a10 a11 a12 a13 a14 a15 a16 a17 a18 => k0 a0 a1 a2 a3 a4 a5 a6 a7 a8 a9 a10 a11 a12 a13 a14 a15 a16 a17 a18) (fun a19 a20 a21 a22 a23 a24 => (MakeF_l6 fuel n0 w7 n m w6 n2 n3 w0 w1 w2 w3 w4 w5 (fun x0 x1 x2 x3 x4 x5 x6 => (MakeF_s10 w6 w7 x6 n0 x0 n m x1 x2 x3 x4 x5 n2 n3 w0 w1 w2 w3 w4 w5 (fun a25 a26 a27 => ( MakeF_l5 fuel n0 n m n2 n3 w0 w1 w2 w3 w4 w5 k0 k1 k a25 a26 a27 )))) fuel a19 a20 a21 a22 a23 a24)) (fun a28 a29 a30 a31 => k1 a28 a29 a30 a31))
theorem MakeF_l5_eq (fuel n0 : Nat) (n : Int) (m : List (Int × List Int)) (n2 n3 w0 w1 : Nat) (w2 w3 w4 w5 : List Int) (K : Ex → St → Option Out) : ∀ (k : Nat) (w6 w7 : Int) (w8 : List Int), lpN qc12 (qc2 fuel) qc5 qc14 k ⟨[qc18, qc19, (3, vI 0), qc20, qc9, (6, .sl 7 1 0 n0), qc16, (29, vI n), (30, .sl 7 1 0 n0), qc17, (32, vR m), (33, vI w6), (34, vI w7)], [(qc6 n m), qc3, (2, some ⟨100, .agg [vI n, vR m, .sl 3 1 0 n2, .sl 4 1 0 n3, vN, .sl 5 1 0 w0, .sl 6 1 0 w1, vN], true⟩), (3, bL 3 w2), (4, bL 3 w3), (5, bL 3 w4), (6, bL 3 w5), (7, bL 3 w8)], 8, none⟩ K = MakeF_l5 fuel n0 n m n2 n3 w0 w1 w2 w3 w4 w5 (fun y0 y1 y2 y3 y4 y5 y6 y7 y8 y9 y10 y11 y12 y13 y14 y15 y16 y17 y18 => K (.exit 1) ⟨[qc18, qc19, (3, vI 0), qc20, qc9, (6, .sl 7 1 0 n0), (7, vI y0), (8, vL y1), qc16, (29, vI n), (30, .sl 7 1 0 n0), qc17, (32, vR m), (33, vI y2), (34, vI y0), (35, vB y3), (36, vI y0), qc21, qc24, (39, vI y0), (40, vL y1), (41, vL y1), (42, vI y4), (43, vB y5), qc32, qc33, qc34, qc35, qc36, qc37, (50, .sl 8 1 0 w0), (51, vI y0), (52, .sl 9 1 0 1), (53, .sl 5 1 0 y6), qc38, qc39, qc40, qc41, (58, .sl 10 1 0 w1), (59, vL y1), (60, .lp [vI y7] 0), (61, vI y7), (62, .sl 11 1 0 1), (63, .sl 6 1 0 y8), qc42, qc43, qc44, qc45, qc46, qc47, qc48, qc49, qc50, (73, .sl 3 1 0 n2), (74, vI y0), qc51, qc52, qc53, (78, .sl 4 1 0 n3), (79, vL y1), (80, .lp [vI y9] 0), (81, vI y9), (82, .ptr 3 1 y10 0), (83, .ptr 4 1 y11 0)], [(qc6 n m), qc3, (2, some ⟨100, .agg [vI n, vR m, .sl 3 1 0 n2, .sl 4 1 0 n3, vN, .sl 5 1 0 y6, .sl 6 1 0 y8, vN], true⟩), (3, bL 3 y12), (4, bL 3 y13), (5, bL 3 y14), (6, bL 3 y15), (7, bL 3 y16), (8, none), (9, bL 3 y17), (10, none), (11, bL 3 y18)], 12, none⟩) (fun y19 y20 y21 y22 => K (.exit 2) ⟨[qc18, qc19, (3, vI 0), qc20, qc9, (6, .sl 7 1 0 n0), qc16, (29, vI n), (30, .sl 7 1 0 n0), qc17, (32, vR m), (33, vI y19), (34, vI y20), (35, vB y21)], [(qc6 n m), qc3, (2, some ⟨100, .agg [vI n, vR m, .sl 3 1 0 n2, .sl 4 1 0 n3, vN, .sl 5 1 0 w0, .sl 6 1 0 w1, vN], true⟩), (3, bL 3 w2), (4, bL 3 w3), (5, bL 3 w4), (6, bL 3 w5), (7, bL 3 y22)], 8, none⟩) k w6 w7 w8
  | 0, _, _, _ => rfl
  | k + 1, w6, w7, w8 => by
    unfold MakeF_l5
    exact (MakeF_s8_eq fuel k K w7 w6 n m w2 w3 n2 n3 w4 w0 w5 w1 w8 n0).trans (congr (congr (congr (Eq.refl (MakeF_s8 (R := Out) w7 w6 n m w2 w3 n2 n3 w4 w0 w5 w1 w8 n0)) (rfl)) (funext fun a0 => funext fun a1 => funext fun a2 => funext fun a3 => funext fun a4 => funext fun a5 => (MakeF_l6_eq fuel n0 w7 n m w6 n2 n3 w0 w1 w2 w3 w4 w5 (kont (qc2 fuel) qc12 qc30 qc5 (rdK qc12 (qc2 fuel) qc5 qc14 k K)) fuel a0 a1 a2 a3 a4 a5).trans (congrFun (congrFun (congrFun (congrFun (congrFun (congrFun (congrFun (congr (Eq.refl (MakeF_l6 (R := Out) fuel n0 w7 n m w6 n2 n3 w0 w1 w2 w3 w4 w5)) (funext fun x0 => funext fun x1 => funext fun x2 => funext fun x3 => funext fun x4 => funext fun x5 => funext fun x6 => (MakeF_s10_eq fuel k K w6 w7 x6 n0 x0 n m x1 x2 x3 x4 x5 n2 n3 w0 w1 w2 w3 w4 w5).trans (congr (Eq.refl (MakeF_s10 (R := Out) w6 w7 x6 n0 x0 n m x1 x2 x3 x4 x5 n2 n3 w0 w1 w2 w3 w4 w5)) (funext fun a6 => funext fun a7 => funext fun a8 => MakeF_l5_eq fuel n0 n m n2 n3 w0 w1 w2 w3 w4 w5 K k a6 a7 a8)))) fuel) a0) a1) a2) a3) a4) a5))) (rfl))
noncomputable def MakeF_s11 {R : Type} (x0 x1 : Nat) (x2 x3 x4 x5 : List Int) (n0 : Nat) (x6 : Int) (x7 : List Int) (n : Int) (m : List (Int × List Int)) (x8 : Int) (x9 : Bool) (x10 : Int) (x11 : Bool) (w0 w1 : Nat) (x12 : Int) (n2 n3 : Nat) (x13 : Int) (x14 x15 : Nat) (x16 x17 x18 : List Int) (c0 : Nat → Nat → List Int → List Int → List Int → List Int → Option R) : Option R :=
  c0 x0 x1 x2 x3 x4 x5
theorem MakeF_s11_eq (fuel k : Nat) (K : Ex → St → Option Out) (x0 x1 : Nat) (x2 x3 x4 x5 : List Int) (n0 : Nat) (x6 : Int) (x7 : List Int) (n : Int) (m : List (Int × List Int)) (x8 : Int) (x9 : Bool) (x10 : Int) (x11 : Bool) (w0 w1 : Nat) (x12 : Int) (n2 n3 : Nat) (x13 : Int) (x14 x15 : Nat) (x16 x17 x18 : List Int) : (kont (qc2 fuel) qc1 qc31 qc5 (rdK qc1 (qc2 fuel) qc13 qc29 k K)) (.exit 1) ⟨[qc18, qc19, (3, vI 0), qc20, qc9, (6, .sl 7 1 0 n0), (7, vI x6), (8, vL x7), qc16, (29, vI n), (30, .sl 7 1 0 n0), qc17, (32, vR m), (33, vI x8), (34, vI x6), (35, vB x9), (36, vI x6), qc21, qc24, (39, vI x6), (40, vL x7), (41, vL x7), (42, vI x10), (43, vB x11), qc32, qc33, qc34, qc35, qc36, qc37, (50, .sl 8 1 0 w0), (51, vI x6), (52, .sl 9 1 0 1), (53, .sl 5 1 0 x0), qc38, qc39, qc40, qc41, (58, .sl 10 1 0 w1), (59, vL x7), (60, .lp [vI x12] 0), (61, vI x12), (62, .sl 11 1 0 1), (63, .sl 6 1 0 x1), qc42, qc43, qc44, qc45, qc46, qc47, qc48, qc49, qc50, (73, .sl 3 1 0 n2), (74, vI x6), qc51, qc52, qc53, (78, .sl 4 1 0 n3), (79, vL x7), (80, .lp [vI x13] 0), (81, vI x13), (82, .ptr 3 1 x14 0), (83, .ptr 4 1 x15 0)], [(qc6 n m), qc3, (2, some ⟨100, .agg [vI n, vR m, .sl 3 1 0 n2, .sl 4 1 0 n3, vN, .sl 5 1 0 x0, .sl 6 1 0 x1, vN], true⟩), (3, bL 3 x2), (4, bL 3 x3), (5, bL 3 x4), (6, bL 3 x5), (7, bL 3 x16), (8, none), (9, bL 3 x17), (10, none), (11, bL 3 x18)], 12, none⟩ = MakeF_s11 x0 x1 x2 x3 x4 x5 n0 x6 x7 n m x8 x9 x10 x11 w0 w1 x12 n2 n3 x13 x14 x15 x16 x17 x18 (fun a0 a1 a2 a3 a4 a5 => lpN qc1 (qc2 fuel) qc13 qc29 k ⟨qc15, [(qc6 n m), qc3, (2, some ⟨100, .agg [vI n, vR m, .sl 3 1 0 n2, .sl 4 1 0 n3, vN, .sl 5 1 0 a0, .sl 6 1 0 a1, vN], true⟩), (3, bL 3 a2), (4, bL 3 a3), (5, bL 3 a4), (6, bL 3 a5)], 7, none⟩ K) := by kernel_rfl
noncomputable def MakeF_s15 {R : Type} (w0 w1 : Int) (w2 : List Int) (n0 : Nat) (w3 : List Int) (w4 w5 : Bool) (w6 n : Int) (m : List (Int × List Int)) (w7 : Int) (n2 n3 w8 w9 w10 : Nat) (w11 w12 w13 w14 w15 : List Int) (c0 : List Int → Bool → Int → Bool → Int → List Int → Option R) (c1 : List Int → Bool → Int → Bool → Int → Bool → List Int → Option R) : Option R :=
  br (decide (w0 < w1))
    (bnd (ix w2 w0) fun e0 =>
    bnd (below e0 n0) fun j0 =>
    bnd (w3[(0 + j0)]?) fun e1 =>
    bnd (below e0 n0) fun j1 =>
    bnd (w3[(0 + j1)]?) fun e2 =>
    c0 w2 w4 w1 w5 (IntKind.i64.wrap (w0 + 1)) (w3.set (0 + j1) (IntKind.i64.wrap (e1 + 1))))
    (c1 w2 w4 w1 w5 w0 (decide (w0 < w1)) w3)
theorem MakeF_s15_eq (fuel k : Nat) (K : Ex → St → Option Out) (w0 w1 : Int) (w2 : List Int) (n0 : Nat) (w3 : List Int) (w4 w5 : Bool) (w6 n : Int) (m : List (Int × List Int)) (w7 : Int) (n2 n3 w8 w9 w10 : Nat) (w11 w12 w13 w14 w15 : List Int) : lpN qc23 (qc2 fuel) qc5 qc10 (k + 1) ⟨[qc18, qc19, (3, vI 0), qc20, qc9, (6, .sl 8 1 0 n0), (7, vI w6), (8, vL w2), qc16, (29, vI n), (30, .sl 8 1 0 n0), qc17, (32, vR m), (33, vI w7), (34, vI w6), (35, vB w4), (36, vI w6), qc21, qc24, (39, vI w6), (40, vL w2), (41, vL w2), (42, vI w1), (43, vB w5), (84, vL w2), (85, vI w1), (86, vI w0)], [(qc6 n m), qc3, (2, some ⟨100, .agg [vI n, vR m, .sl 3 1 0 n2, .sl 4 1 0 n3, .sl 5 1 0 w8, .sl 6 1 0 w9, .sl 7 1 0 w10, vN], true⟩), (3, bL 3 w11), (4, bL 3 w12), (5, bL 3 w13), (6, bL 3 w14), (7, bL 3 w15), (8, bL 3 w3)], 9, none⟩ K = MakeF_s15 w0 w1 w2 n0 w3 w4 w5 w6 n m w7 n2 n3 w8 w9 w10 w11 w12 w13 w14 w15 (fun a0 a1 a2 a3 a4 a5 => lpN qc23 (qc2 fuel) qc5 qc10 k ⟨[qc18, qc19, (3, vI 0), qc20, qc9, (6, .sl 8 1 0 n0), (7, vI w6), (8, vL a0), qc16, (29, vI n), (30, .sl 8 1 0 n0), qc17, (32, vR m), (33, vI w7), (34, vI w6), (35, vB a1), (36, vI w6), qc21, qc24, (39, vI w6), (40, vL a0), (41, vL a0), (42, vI a2), (43, vB a3), (84, vL a0), (85, vI a2), (86, vI a4)], [(qc6 n m), qc3, (2, some ⟨100, .agg [vI n, vR m, .sl 3 1 0 n2, .sl 4 1 0 n3, .sl 5 1 0 w8, .sl 6 1 0 w9, .sl 7 1 0 w10, vN], true⟩), (3, bL 3 w11), (4, bL 3 w12), (5, bL 3 w13), (6, bL 3 w14), (7, bL 3 w15), (8, bL 3 a5)], 9, none⟩ K) (fun a6 a7 a8 a9 a10 a11 a12 => K (.exit 4) ⟨[qc18, qc19, (3, vI 0), qc20, qc9, (6, .sl 8 1 0 n0), (7, vI w6), (8, vL a6), qc16, (29, vI n), (30, .sl 8 1 0 n0), qc17, (32, vR m), (33, vI w7), (34, vI w6), (35, vB a7), (36, vI w6), qc21, qc24, (39, vI w6), (40, vL a6), (41, vL a6), (42, vI a8), (43, vB a9), (84, vL a6), (85, vI a8), (86, vI a10), (87, vB a11)], [(qc6 n m), qc3, (2, some ⟨100, .agg [vI n, vR m, .sl 3 1 0 n2, .sl 4 1 0 n3, .sl 5 1 0 w8, .sl 6 1 0 w9, .sl 7 1 0 w10, vN], true⟩), (3, bL 3 w11), (4, bL 3 w12), (5, bL 3 w13), (6, bL 3 w14), (7, bL 3 w15), (8, bL 3 a12)], 9, none⟩) := by kernel_rfl
noncomputable def MakeF_l9 {R : Type} (fuel n0 : Nat) (w0 n : Int) (m : List (Int × List Int)) (w1 : Int) (n2 n3 w2 w3 w4 : Nat) (w5 w6 w7 w8 w9 : List Int) (k0 : List Int → Bool → Int → Bool → Int → Bool → List Int → Option R) : Nat → List Int → Bool → Int → Bool → Int → List Int → Option R
  | 0, _, _, _, _, _, _ => none
  | k + 1, w10, w11, w12, w13, w14, w15 =>
    (MakeF_s15 w14 w12 w10 n0 w15 w11 w13 w0 n m w1 n2 n3 w2 w3 w4 w5 w6 w7 w8 w9 (fun a0 a1 a2 a3 a4 a5 => ( MakeF_l9 fuel n0 w0 n m w1 n2 n3 w2 w3 w4 w5 w6 w7 w8 w9 k0 k a0 a1 a2 a3 a4 a5 )) (fun a6 a7 a8 a9 a10 a11 a12 => k0 a6 a7 a8 a9 a10 a11 a12))
theorem MakeF_l9_eq (fuel n0 : Nat) (w0 n : Int) (m : List (Int × List Int)) (w1 : Int) (n2 n3 w2 w3 w4 : Nat) (w5 w6 w7 w8 w9 : List Int) (K : Ex → St → Option Out) : ∀ (k : Nat) (w10 : List Int) (w11 : Bool) (w12 : Int) (w13 : Bool) (w14 : Int) (w15 : List Int), lpN qc23 (qc2 fuel) qc5 qc10 k ⟨[qc18, qc19, (3, vI 0), qc20, qc9, (6, .sl 8 1 0 n0), (7, vI w0), (8, vL w10), qc16, (29, vI n), (30, .sl 8 1 0 n0), qc17, (32, vR m), (33, vI w1), (34, vI w0), (35, vB w11), (36, vI w0), qc21, qc24, (39, vI w0), (40, vL w10), (41, vL w10), (42, vI w12), (43, vB w13), (84, vL w10), (85, vI w12), (86, vI w14)], [(qc6 n m), qc3, (2, some ⟨100, .agg [vI n, vR m, .sl 3 1 0 n2, .sl 4 1 0 n3, .sl 5 1 0 w2, .sl 6 1 0 w3, .sl 7 1 0 w4, vN], true⟩), (3, bL 3 w5), (4, bL 3 w6), (5, bL 3 w7), (6, bL 3 w8), (7, bL 3 w9), (8, bL 3 w15)], 9, none⟩ K = MakeF_l9 fuel n0 w0 n m w1 n2 n3 w2 w3 w4 w5 w6 w7 w8 w9 (fun y0 y1 y2 y3 y4 y5 y6 => K (.exit 4) ⟨[qc18, qc19, (3, vI 0), qc20, qc9, (6, .sl 8 1 0 n0), (7, vI w0), (8, vL y0), qc16, (29, vI n), (30, .sl 8 1 0 n0), qc17, (32, vR m), (33, vI w1), (34, vI w0), (35, vB y1), (36, vI w0), qc21, qc24, (39, vI w0), (40, vL y0), (41, vL y0), (42, vI y2), (43, vB y3), (84, vL y0), (85, vI y2), (86, vI y4), (87, vB y5)], [(qc6 n m), qc3, (2, some ⟨100, .agg [vI n, vR m, .sl 3 1 0 n2, .sl 4 1 0 n3, .sl 5 1 0 w2, .sl 6 1 0 w3, .sl 7 1 0 w4, vN], true⟩), (3, bL 3 w5), (4, bL 3 w6), (5, bL 3 w7), (6, bL 3 w8), (7, bL 3 w9), (8, bL 3 y6)], 9, none⟩) k w10 w11 w12 w13 w14 w15
  | 0, _, _, _, _, _, _ => rfl
  | k + 1, w10, w11, w12, w13, w14, w15 => by
    unfold MakeF_l9
    exact (MakeF_s15_eq fuel k K w14 w12 w10 n0 w15 w11 w13 w0 n m w1 n2 n3 w2 w3 w4 w5 w6 w7 w8 w9).trans (congr (congr (Eq.refl (MakeF_s15 (R := Out) w14 w12 w10 n0 w15 w11 w13 w0 n m w1 n2 n3 w2 w3 w4 w5 w6 w7 w8 w9)) (funext fun a0 => funext fun a1 => funext fun a2 => funext fun a3 => funext fun a4 => funext fun a5 => MakeF_l9_eq fuel n0 w0 n m w1 n2 n3 w2 w3 w4 w5 w6 w7 w8 w9 K k a0 a1 a2 a3 a4 a5)) (rfl))
noncomputable def MakeF_s16 {R : Type} (w0 w1 : Int) (x0 : List Int) (n0 : Nat) (x1 : List Int) (n : Int) (m : List (Int × List Int)) (x2 : Bool) (x3 : Int) (x4 : Bool) (x5 : Int) (x6 : Bool) (n2 n3 w2 w3 w4 : Nat) (w5 w6 w7 w8 w9 : List Int) (c0 : Int → Int → List Int → Option R) : Option R :=
  c0 w0 (IntKind.i64.wrap (w1 + 1)) x0
theorem MakeF_s16_eq (fuel k : Nat) (K : Ex → St → Option Out) (w0 w1 : Int) (x0 : List Int) (n0 : Nat) (x1 : List Int) (n : Int) (m : List (Int × List Int)) (x2 : Bool) (x3 : Int) (x4 : Bool) (x5 : Int) (x6 : Bool) (n2 n3 w2 w3 w4 : Nat) (w5 w6 w7 w8 w9 : List Int) : (kont (qc2 fuel) qc12 qc30 qc5 (rdK qc12 (qc2 fuel) qc5 qc14 k K)) (.exit 4) ⟨[qc18, qc19, (3, vI 0), qc20, qc9, (6, .sl 8 1 0 n0), (7, vI w1), (8, vL x1), qc16, (29, vI n), (30, .sl 8 1 0 n0), qc17, (32, vR m), (33, vI w0), (34, vI w1), (35, vB x2), (36, vI w1), qc21, qc24, (39, vI w1), (40, vL x1), (41, vL x1), (42, vI x3), (43, vB x4), (84, vL x1), (85, vI x3), (86, vI x5), (87, vB x6)], [(qc6 n m), qc3, (2, some ⟨100, .agg [vI n, vR m, .sl 3 1 0 n2, .sl 4 1 0 n3, .sl 5 1 0 w2, .sl 6 1 0 w3, .sl 7 1 0 w4, vN], true⟩), (3, bL 3 w5), (4, bL 3 w6), (5, bL 3 w7), (6, bL 3 w8), (7, bL 3 w9), (8, bL 3 x0)], 9, none⟩ = MakeF_s16 w0 w1 x0 n0 x1 n m x2 x3 x4 x5 x6 n2 n3 w2 w3 w4 w5 w6 w7 w8 w9 (fun a0 a1 a2 => lpN qc12 (qc2 fuel) qc5 qc14 k ⟨[qc18, qc19, (3, vI 0), qc20, qc9, (6, .sl 8 1 0 n0), qc16, (29, vI n), (30, .sl 8 1 0 n0), qc17, (32, vR m), (33, vI a0), (34, vI a1)], [(qc6 n m), qc3, (2, some ⟨100, .agg [vI n, vR m, .sl 3 1 0 n2, .sl 4 1 0 n3, .sl 5 1 0 w2, .sl 6 1 0 w3, .sl 7 1 0 w4, vN], true⟩), (3, bL 3 w5), (4, bL 3 w6), (5, bL 3 w7), (6, bL 3 w8), (7, bL 3 w9), (8, bL 3 a2)], 9, none⟩ K) := by kernel_rfl
noncomputable def MakeF_s14 {R : Type} (w0 w1 n : Int) (m : List (Int × List Int)) (w2 w3 : List Int) (n2 n3 : Nat) (w4 : List Int) (w5 : Nat) (w6 : List Int) (w7 : Nat) (w8 : List Int) (n0 w9 : Nat) (w10 : List Int) (c0 : Int → List Int → Int → Bool → Int → Bool → Nat → Int → Nat → Int → Nat → Nat → List Int → List Int → List Int → List Int → List Int → List Int → List Int → Option R) (c1 : List Int → Bool → Int → Bool → Int → List Int → Option R) (c2 : Int → Int → Bool → List Int → Option R) : Option R :=
  br (decide (w0 < w1))
    (grd (actOk n m w2 w3 w0 && decide (n2 = w2.length) && decide (n3 = w3.length)) <|
    br (((((actS m w2 w3 w0).length : Nat) : Int) : Int) == 1)
      (grd (Nat.beq w4.length w5) <|
      grd (okN (w5 + 1) 8) <|
      bnd (ix (actS m w2 w3 w0) 0) fun e0 =>
      grd (Nat.beq w6.length w7) <|
      grd (okN (w7 + 1) 8) <|
      bnd (ix (actS m w2 w3 w0) 0) fun e1 =>
      bnd (below w0 n2) fun j0 =>
      bnd (w2[(0 + j0)]?) fun e2 =>
      bnd (below e1 n3) fun j1 =>
      bnd (w3[(0 + j1)]?) fun e3 =>
      c0 w0 (actS m w2 w3 w0) w1 (decide (w0 < w1)) (((actS m w2 w3 w0).length : Nat) : Int) (((((actS m w2 w3 w0).length : Nat) : Int) : Int) == 1) ((w4 ++ [w0]).length) e0 ((w6 ++ [e0]).length) e1 (0 + j0) (0 + j1) (w2.set (0 + j0) 1) (w3.set (0 + j1) 1) (w4 ++ [w0]) (w6 ++ [e0]) w8 ([w0]) ([e0]))
      (c1 (actS m w2 w3 w0) (decide (w0 < w1)) (((actS m w2 w3 w0).length : Nat) : Int) (((((actS m w2 w3 w0).length : Nat) : Int) : Int) == 1) 0 w8))
    (c2 w1 w0 (decide (w0 < w1)) w8)
theorem MakeF_s14_eq (fuel k : Nat) (K : Ex → St → Option Out) (w0 w1 n : Int) (m : List (Int × List Int)) (w2 w3 : List Int) (n2 n3 : Nat) (w4 : List Int) (w5 : Nat) (w6 : List Int) (w7 : Nat) (w8 : List Int) (n0 w9 : Nat) (w10 : List Int) : lpN qc12 (qc2 fuel) qc5 qc14 (k + 1) ⟨[qc18, qc19, (3, vI 0), qc20, qc9, (6, .sl 8 1 0 n0), qc16, (29, vI n), (30, .sl 8 1 0 n0), qc17, (32, vR m), (33, vI w1), (34, vI w0)], [(qc6 n m), qc3, (2, some ⟨100, .agg [vI n, vR m, .sl 3 1 0 n2, .sl 4 1 0 n3, .sl 5 1 0 w9, .sl 6 1 0 w5, .sl 7 1 0 w7, vN], true⟩), (3, bL 3 w2), (4, bL 3 w3), (5, bL 3 w10), (6, bL 3 w4), (7, bL 3 w6), (8, bL 3 w8)], 9, none⟩ K = MakeF_s14 w0 w1 n m w2 w3 n2 n3 w4 w5 w6 w7 w8 n0 w9 w10 (fun a0 a1 a2 a3 a4 a5 a6 a7 a8 a9 a10 a11 a12 a13 a14 a15 a16 a17 a18 => K (.exit 1) ⟨[qc18, qc19, (3, vI 0), qc20, qc9, (6, .sl 8 1 0 n0), (7, vI a0), (8, vL a1), qc16, (29, vI n), (30, .sl 8 1 0 n0), qc17, (32, vR m), (33, vI a2), (34, vI a0), (35, vB a3), (36, vI a0), qc21, qc24, (39, vI a0), (40, vL a1), (41, vL a1), (42, vI a4), (43, vB a5), qc32, qc33, qc34, qc35, qc36, qc37, (50, .sl 9 1 0 w5), (51, vI a0), (52, .sl 10 1 0 1), (53, .sl 6 1 0 a6), qc38, qc39, qc40, qc41, (58, .sl 11 1 0 w7), (59, vL a1), (60, .lp [vI a7] 0), (61, vI a7), (62, .sl 12 1 0 1), (63, .sl 7 1 0 a8), qc42, qc43, qc44, qc45, qc46, qc47, qc48, qc49, qc50, (73, .sl 3 1 0 n2), (74, vI a0), qc51, qc52, qc53, (78, .sl 4 1 0 n3), (79, vL a1), (80, .lp [vI a9] 0), (81, vI a9), (82, .ptr 3 1 a10 0), (83, .ptr 4 1 a11 0)], [(qc6 n m), qc3, (2, some ⟨100, .agg [vI n, vR m, .sl 3 1 0 n2, .sl 4 1 0 n3, .sl 5 1 0 w9, .sl 6 1 0 a6, .sl 7 1 0 a8, vN], true⟩), (3, bL 3 a12), (4, bL 3 a13), (5, bL 3 w10), (6, bL 3 a14), (7, bL 3 a15), (8, bL 3 a16), (9, none), (10, bL 3 a17), (11, none), (12, bL 3 a18)], 13, none⟩) (fun a19 a20 a21 a22 a23 a24 => lpN qc23 (qc2 fuel) qc5 qc10 fuel ⟨[qc18, qc19, (3, vI 0), qc20, qc9, (6, .sl 8 1 0 n0), (7, vI w0), (8, vL a19), qc16, (29, vI n), (30, .sl 8 1 0 n0), qc17, (32, vR m), (33, vI w1), (34, vI w0), (35, vB a20), (36, vI w0), qc21, qc24, (39, vI w0), (40, vL a19), (41, vL a19), (42, vI a21), (43, vB a22), (84, vL a19), (85, vI a21), (86, vI a23)], [(qc6 n m), qc3, (2, some ⟨100, .agg [vI n, vR m, .sl 3 1 0 n2, .sl 4 1 0 n3, .sl 5 1 0 w9, .sl 6 1 0 w5, .sl 7 1 0 w7, vN], true⟩), (3, bL 3 w2), (4, bL 3 w3), (5, bL 3 w10), (6, bL 3 w4), (7, bL 3 w6), (8, bL 3 a24)], 9, none⟩ (kont (qc2 fuel) qc12 qc30 qc5 (rdK qc12 (qc2 fuel) qc5 qc14 k K))) (fun a25 a26 a27 a28 => K (.exit 2) ⟨[qc18, qc19, (3, vI 0), qc20, qc9, (6, .sl 8 1 0 n0), qc16, (29, vI n), (30, .sl 8 1 0 n0), qc17, (32, vR m), (33, vI a25), (34, vI a26), (35, vB a27)], [(qc6 n m), qc3, (2, some ⟨100, .agg [vI n, vR m, .sl 3 1 0 n2, .sl 4 1 0 n3, .sl 5 1 0 w9, .sl 6 1 0 w5, .sl 7 1 0 w7, vN], true⟩), (3, bL 3 w2), (4, bL 3 w3), (5, bL 3 w10), (6, bL 3 w4), (7, bL 3 w6), (8, bL 3 a28)], 9, none⟩) := by kernel_rfl
noncomputable def MakeF_l8 {R : Type} (fuel n0 : Nat) (n : Int) (m : List (Int × List Int)) (n2 n3 w0 w1 w2 : Nat) (w3 w4 w5 w6 w7 : List Int) (k0 : Int → List Int → Int → Bool → Int → Bool → Nat → Int → Nat → Int → Nat → Nat → List Int → List Int → List Int → List Int → List Int → List Int → List Int → Option R) (k1 : Int → Int → Bool → List Int → Option R) : Nat → Int → Int → List Int → Option R
  | 0, _, _, _ => none
  | k + 1, w8, w9, w10 =>
    (MakeF_s14 w9 w8 n m w3 w4 n2 n3 w6 w1 w7 w2 w10 n0 w0 w5 (fun a0 a1 a2 a3 a4 a5 a6 a7 a8 a9 a10 a11 a12 a13 a14 a15 a16 a17 a18 => k0 a0 a1 a2 a3 a4 a5 a6 a7 a8 a9 a10 a11 a12 a13 a14 a15 a16 a17 a18) (fun a19 a20 a21 a22 a23 a24 => (MakeF_l9 fuel n0 w9 n m w8 n2 n3 w0 w1 w2 w3 w4 w5 w6 w7 (fun x0 x1 x2 x3 x4 x5 x6 => (MakeF_s16 w8 w9 x6 n0 x0 n m x1 x2 x3 x4 x5 n2 n3 w0 w1 w2 w3 w4 w5 w6 w7 (fun a25 a26 a27 => ( MakeF_l8 fuel n0 n m n2 n3 w0 w1 w2 w3 w4 w5 w6 w7 k0 k1 k a25 a26 a27 )))) fuel a19 a20 a21 a22 a23 a24)) (fun a28 a29 a30 a31 => k1 a28 a29 a30 a31))
theorem MakeF_l8_eq (fuel n0 : Nat) (n : Int) (m : List (Int × List Int)) (n2 n3 w0 w1 w2 : Nat) (w3 w4 w5 w6 w7 : List Int) (K : Ex → St → Option Out) : ∀ (k : Nat) (w8 w9 : Int) (w10 : List Int), lpN qc12 (qc2 fuel) qc5 qc14 k ⟨[qc18, qc19, (3, vI 0), qc20, qc9, (6, .sl 8 1 0 n0), qc16, (29, vI n), (30, .sl 8 1 0 n0), qc17, (32, vR m), (33, vI w8), (34, vI w9)], [(qc6 n m), qc3, (2, some ⟨100, .agg [vI n, vR m, .sl 3 1 0 n2, .sl 4 1 0 n3, .sl 5 1 0 w0, .sl 6 1 0 w1, .sl 7 1 0 w2, vN], true⟩), (3, bL 3 w3), (4, bL 3 w4), (5, bL 3 w5), (6, bL 3 w6), (7, bL 3 w7), (8, bL 3 w10)], 9, none⟩ K = MakeF_l8 fuel n0 n m n2 n3 w0 w1 w2 w3 w4 w5 w6 w7 (fun y0 y1 y2 y3 y4 y5 y6 y7 y8 y9 y10 y11 y12 y13 y14 y15 y16 y17 y18 => K (.exit 1) ⟨[qc18, qc19, (3, vI 0), qc20, qc9, (6, .sl 8 1 0 n0), (7, vI y0), (8, vL y1), qc16, (29, vI n), (30, .sl 8 1 0 n0), qc17, (32, vR m), (33, vI y2), (34, vI y0), (35, vB y3), (36, vI y0), qc21, qc24, (39, vI y0), (40, vL y1), (41, vL y1), (42, vI y4), (43, vB y5), qc32, qc33, qc34, qc35, qc36, qc37, (50, .sl 9 1 0 w1), (51, vI y0), (52, .sl 10 1 0 1), (53, .sl 6 1 0 y6), qc38, qc39, qc40, qc41, (58, .sl 11 1 0 w2), (59, vL y1), (60, .lp [vI y7] 0), (61, vI y7), (62, .sl 12 1 0 1), (63, .sl 7 1 0 y8), qc42, qc43, qc44, qc45, qc46, qc47, qc48, qc49, qc50, (73, .sl 3 1 0 n2), (74, vI y0), qc51, qc52, qc53, (78, .sl 4 1 0 n3), (79, vL y1), (80, .lp [vI y9] 0), (81, vI y9), (82, .ptr 3 1 y10 0), (83, .ptr 4 1 y11 0)], [(qc6 n m), qc3, (2, some ⟨100, .agg [vI n, vR m, .sl 3 1 0 n2, .sl 4 1 0 n3, .sl 5 1 0 w0, .sl 6 1 0 y6, .sl 7 1 0 y8, vN], true⟩), (3, bL 3 y12), (4, bL 3 y13), (5, bL 3 w5), (6, bL 3 y14), (7, bL 3 y15), (8, bL 3 y16), (9, none), (10, bL 3 y17), (11, none), (12, bL 3 y18)], 13, none⟩) (fun y19 y20 y21 y22 => K (.exit 2) ⟨[qc18, qc19, (3, vI 0), qc20, qc9, (6, .sl 8 1 0 n0), qc16, (29, vI n), (30, .sl 8 1 0 n0), qc17, (32, vR m), (33, vI y19), (34, vI y20), (35, vB y21)], [(qc6 n m), qc3, (2, some ⟨100, .agg [vI n, vR m, .sl 3 1 0 n2, .sl 4 1 0 n3, .sl 5 1 0 w0, .sl 6 1 0 w1, .sl 7 1 0 w2, vN], true⟩), (3, bL 3 w3), (4, bL 3 w4), (5, bL 3 w5), (6, bL 3 w6), (7, bL 3 w7), (8, bL 3 y22)], 9, none⟩) k w8 w9 w10
  | 0, _, _, _ => rfl
  | k + 1, w8, w9, w10 => by
    unfold MakeF_l8
    exact (MakeF_s14_eq fuel k K w9 w8 n m w3 w4 n2 n3 w6 w1 w7 w2 w10 n0 w0 w5).trans (congr (congr (congr (Eq.refl (MakeF_s14 (R := Out) w9 w8 n m w3 w4 n2 n3 w6 w1 w7 w2 w10 n0 w0 w5)) (rfl)) (funext fun a0 => funext fun a1 => funext fun a2 => funext fun a3 => funext fun a4 => funext fun a5 => (MakeF_l9_eq fuel n0 w9 n m w8 n2 n3 w0 w1 w2 w3 w4 w5 w6 w7 (kont (qc2 fuel) qc12 qc30 qc5 (rdK qc12 (qc2 fuel) qc5 qc14 k K)) fuel a0 a1 a2 a3 a4 a5).trans (congrFun (congrFun (congrFun (congrFun (congrFun (congrFun (congrFun (congr (Eq.refl (MakeF_l9 (R := Out) fuel n0 w9 n m w8 n2 n3 w0 w1 w2 w3 w4 w5 w6 w7)) (funext fun x0 => funext fun x1 => funext fun x2 => funext fun x3 => funext fun x4 => funext fun x5 => funext fun x6 => (MakeF_s16_eq fuel k K w8 w9 x6 n0 x0 n m x1 x2 x3 x4 x5 n2 n3 w0 w1 w2 w3 w4 w5 w6 w7).trans (congr (Eq.refl (MakeF_s16 (R := Out) w8 w9 x6 n0 x0 n m x1 x2 x3 x4 x5 n2 n3 w0 w1 w2 w3 w4 w5 w6 w7)) (funext fun a6 => funext fun a7 => funext fun a8 => MakeF_l8_eq fuel n0 n m n2 n3 w0 w1 w2 w3 w4 w5 w6 w7 K k a6 a7 a8)))) fuel) a0) a1) a2) a3) a4) a5))) (rfl))
noncomputable def MakeF_s17 {R : Type} (w0 x0 x1 : Nat) (x2 x3 w1 x4 x5 : List Int) (n0 : Nat) (x6 : Int) (x7 : List Int) (n : Int) (m : List (Int × List Int)) (x8 : Int) (x9 : Bool) (x10 : Int) (x11 : Bool) (w2 w3 : Nat) (x12 : Int) (n2 n3 : Nat) (x13 : Int) (x14 x15 : Nat) (x16 x17 x18 : List Int) (c0 : Nat → Nat → Nat → List Int → List Int → List Int → List Int → List Int → Option R) : Option R :=
  c0 w0 x0 x1 x2 x3 w1 x4 x5
theorem MakeF_s17_eq (fuel k : Nat) (K : Ex → St → Option Out) (w0 x0 x1 : Nat) (x2 x3 w1 x4 x5 : List Int) (n0 : Nat) (x6 : Int) (x7 : List Int) (n : Int) (m : List (Int × List Int)) (x8 : Int) (x9 : Bool) (x10 : Int) (x11 : Bool) (w2 w3 : Nat) (x12 : Int) (n2 n3 : Nat) (x13 : Int) (x14 x15 : Nat) (x16 x17 x18 : List Int) : (kont (qc2 fuel) qc1 qc31 qc5 (rdK qc1 (qc2 fuel) qc13 qc29 k K)) (.exit 1) ⟨[qc18, qc19, (3, vI 0), qc20, qc9, (6, .sl 8 1 0 n0), (7, vI x6), (8, vL x7), qc16, (29, vI n), (30, .sl 8 1 0 n0), qc17, (32, vR m), (33, vI x8), (34, vI x6), (35, vB x9), (36, vI x6), qc21, qc24, (39, vI x6), (40, vL x7), (41, vL x7), (42, vI x10), (43, vB x11), qc32, qc33, qc34, qc35, qc36, qc37, (50, .sl 9 1 0 w2), (51, vI x6), (52, .sl 10 1 0 1), (53, .sl 6 1 0 x0), qc38, qc39, qc40, qc41, (58, .sl 11 1 0 w3), (59, vL x7), (60, .lp [vI x12] 0), (61, vI x12), (62, .sl 12 1 0 1), (63, .sl 7 1 0 x1), qc42, qc43, qc44, qc45, qc46, qc47, qc48, qc49, qc50, (73, .sl 3 1 0 n2), (74, vI x6), qc51, qc52, qc53, (78, .sl 4 1 0 n3), (79, vL x7), (80, .lp [vI x13] 0), (81, vI x13), (82, .ptr 3 1 x14 0), (83, .ptr 4 1 x15 0)], [(qc6 n m), qc3, (2, some ⟨100, .agg [vI n, vR m, .sl 3 1 0 n2, .sl 4 1 0 n3, .sl 5 1 0 w0, .sl 6 1 0 x0, .sl 7 1 0 x1, vN], true⟩), (3, bL 3 x2), (4, bL 3 x3), (5, bL 3 w1), (6, bL 3 x4), (7, bL 3 x5), (8, bL 3 x16), (9, none), (10, bL 3 x17), (11, none), (12, bL 3 x18)], 13, none⟩ = MakeF_s17 w0 x0 x1 x2 x3 w1 x4 x5 n0 x6 x7 n m x8 x9 x10 x11 w2 w3 x12 n2 n3 x13 x14 x15 x16 x17 x18 (fun a0 a1 a2 a3 a4 a5 a6 a7 => lpN qc1 (qc2 fuel) qc13 qc29 k ⟨qc15, [(qc6 n m), qc3, (2, some ⟨100, .agg [vI n, vR m, .sl 3 1 0 n2, .sl 4 1 0 n3, .sl 5 1 0 a0, .sl 6 1 0 a1, .sl 7 1 0 a2, vN], true⟩), (3, bL 3 a3), (4, bL 3 a4), (5, bL 3 a5), (6, bL 3 a6), (7, bL 3 a7)], 8, none⟩ K) := by kernel_rfl
noncomputable def MakeF_s18 {R : Type} (x0 : List Int) (n0 w0 w1 w2 : Nat) (w3 w4 w5 w6 w7 : List Int) (n3 : Nat) (n : Int) (m : List (Int × List Int)) (x1 x2 : Int) (x3 : Bool) (n2 : Nat) (c0 c1 : Nat → Nat → Nat → List Int → List Int → List Int → List Int → List Int → Option R) : Option R :=
  grd (decide (((x0.drop 0).take n0).length ≤ 1000)) <|
  br (decide (((mostS ((x0.drop 0).take n0)) : Int) < 0))
    (c0 w0 w1 w2 w3 w4 w5 w6 w7)
    (grd (Nat.beq w5.length w0) <|
    grd (okN (w0 + 1) 8) <|
    bnd (below (mostS ((x0.drop 0).take n0)) n3) fun j0 =>
    bnd (w4[(0 + j0)]?) fun e0 =>
    c1 ((w5 ++ [(mostS ((x0.drop 0).take n0))]).length) w1 w2 w3 (w4.set (0 + j0) 1) (w5 ++ [(mostS ((x0.drop 0).take n0))]) w6 w7)
theorem MakeF_s18_eq (fuel k : Nat) (K : Ex → St → Option Out) (x0 : List Int) (n0 w0 w1 w2 : Nat) (w3 w4 w5 w6 w7 : List Int) (n3 : Nat) (n : Int) (m : List (Int × List Int)) (x1 x2 : Int) (x3 : Bool) (n2 : Nat) : (kont (qc2 fuel) qc1 qc31 qc5 (rdK qc1 (qc2 fuel) qc13 qc29 k K)) (.exit 2) ⟨[qc18, qc19, (3, vI 0), qc20, qc9, (6, .sl 8 1 0 n0), qc16, (29, vI n), (30, .sl 8 1 0 n0), qc17, (32, vR m), (33, vI x1), (34, vI x2), (35, vB x3)], [(qc6 n m), qc3, (2, some ⟨100, .agg [vI n, vR m, .sl 3 1 0 n2, .sl 4 1 0 n3, .sl 5 1 0 w0, .sl 6 1 0 w1, .sl 7 1 0 w2, vN], true⟩), (3, bL 3 w3), (4, bL 3 w4), (5, bL 3 w5), (6, bL 3 w6), (7, bL 3 w7), (8, bL 3 x0)], 9, none⟩ = MakeF_s18 x0 n0 w0 w1 w2 w3 w4 w5 w6 w7 n3 n m x1 x2 x3 n2 (fun a0 a1 a2 a3 a4 a5 a6 a7 => K (.exit 0) ⟨qc8, [qc4, (1, some ⟨100, .agg [vI n, vR m, .sl 2 1 0 n2, .sl 3 1 0 n3, .sl 4 1 0 a0, .sl 5 1 0 a1, .sl 6 1 0 a2, vN], true⟩), (2, bL 3 a3), (3, bL 3 a4), (4, bL 3 a5), (5, bL 3 a6), (6, bL 3 a7)], 7, none⟩) (fun a8 a9 a10 a11 a12 a13 a14 a15 => lpN qc1 (qc2 fuel) qc13 qc29 k ⟨qc15, [(qc6 n m), qc3, (2, some ⟨100, .agg [vI n, vR m, .sl 3 1 0 n2, .sl 4 1 0 n3, .sl 5 1 0 a8, .sl 6 1 0 a9, .sl 7 1 0 a10, vN], true⟩), (3, bL 3 a11), (4, bL 3 a12), (5, bL 3 a13), (6, bL 3 a14), (7, bL 3 a15)], 8, none⟩ K) := by kernel_rfl
noncomputable def MakeF_s13 {R : Type} (n : Int) (m : List (Int × List Int)) (n2 n3 w0 w1 w2 : Nat) (w3 w4 w5 w6 w7 : List Int) (c0 : Int → Int → List Int → Nat → Option R) : Option R :=
  bnd (mkN n n 8) fun n0 =>
  c0 ((m.length : Nat) : Int) 0 (List.replicate n0 (0 : Int)) n0
theorem MakeF_s13_eq (fuel k : Nat) (K : Ex → St → Option Out) (n : Int) (m : List (Int × List Int)) (n2 n3 w0 w1 w2 : Nat) (w3 w4 w5 w6 w7 : List Int) : lpN qc1 (qc2 fuel) qc13 qc29 (k + 1) ⟨qc15, [(qc6 n m), qc3, (2, some ⟨100, .agg [vI n, vR m, .sl 3 1 0 n2, .sl 4 1 0 n3, .sl 5 1 0 w0, .sl 6 1 0 w1, .sl 7 1 0 w2, vN], true⟩), (3, bL 3 w3), (4, bL 3 w4), (5, bL 3 w5), (6, bL 3 w6), (7, bL 3 w7)], 8, none⟩ K = MakeF_s13 n m n2 n3 w0 w1 w2 w3 w4 w5 w6 w7 (fun a0 a1 a2 n0 => lpN qc12 (qc2 fuel) qc5 qc14 fuel ⟨[qc18, qc19, (3, vI 0), qc20, qc9, (6, .sl 8 1 0 n0), qc16, (29, vI n), (30, .sl 8 1 0 n0), qc17, (32, vR m), (33, vI a0), (34, vI a1)], [(qc6 n m), qc3, (2, some ⟨100, .agg [vI n, vR m, .sl 3 1 0 n2, .sl 4 1 0 n3, .sl 5 1 0 w0, .sl 6 1 0 w1, .sl 7 1 0 w2, vN], true⟩), (3, bL 3 w3), (4, bL 3 w4), (5, bL 3 w5), (6, bL 3 w6), (7, bL 3 w7), (8, bL 3 a2)], 9, none⟩ (kont (qc2 fuel) qc1 qc31 qc5 (rdK qc1 (qc2 fuel) qc13 qc29 k K))) := by kernel_rfl
noncomputable def MakeF_l7 {R : Type} (fuel : Nat) (n : Int) (m : List (Int × List Int)) (n2 n3 : Nat) (k0 : Nat → Nat → Nat → List Int → List Int → List Int → List Int → List Int → Option R) : Nat → Nat → Nat → Nat → List Int → List Int → List Int → List Int → List Int → Option R
  | 0, _, _, _, _, _, _, _, _ => none
  | k + 1, w0, w1, w2, w3, w4, w5, w6, w7 =>
    (MakeF_s13 n m n2 n3 w0 w1 w2 w3 w4 w5 w6 w7 (fun a0 a1 a2 n0 => (MakeF_l8 fuel n0 n m n2 n3 w0 w1 w2 w3 w4 w5 w6 w7 (fun x0 x1 x2 x3 x4 x5 x6 x7 x8 x9 x10 x11 x12 x13 x14 x15 x16 x17 x18 => (MakeF_s17 w0 x6 x8 x12 x13 w5 x14 x15 n0 x0 x1 n m x2 x3 x4 x5 w1 w2 x7 n2 n3 x9 x10 x11 x16 x17 x18 (fun a3 a4 a5 a6 a7 a8 a9 a10 => ( MakeF_l7 fuel n m n2 n3 k0 k a3 a4 a5 a6 a7 a8 a9 a10 )))) (fun x19 x20 x21 x22 => (MakeF_s18 x22 n0 w0 w1 w2 w3 w4 w5 w6 w7 n3 n m x19 x20 x21 n2 (fun a11 a12 a13 a14 a15 a16 a17 a18 => k0 a11 a12 a13 a14 a15 a16 a17 a18) (fun a19 a20 a21 a22 a23 a24 a25 a26 => ( MakeF_l7 fuel n m n2 n3 k0 k a19 a20 a21 a22 a23 a24 a25 a26 )))) fuel a0 a1 a2)))
theorem MakeF_l7_eq (fuel : Nat) (n : Int) (m : List (Int × List Int)) (n2 n3 : Nat) (K : Ex → St → Option Out) : ∀ (k w0 w1 w2 : Nat) (w3 w4 w5 w6 w7 : List Int), lpN qc1 (qc2 fuel) qc13 qc29 k ⟨qc15, [(qc6 n m), qc3, (2, some ⟨100, .agg [vI n, vR m, .sl 3 1 0 n2, .sl 4 1 0 n3, .sl 5 1 0 w0, .sl 6 1 0 w1, .sl 7 1 0 w2, vN], true⟩), (3, bL 3 w3), (4, bL 3 w4), (5, bL 3 w5), (6, bL 3 w6), (7, bL 3 w7)], 8, none⟩ K = MakeF_l7 fuel n m n2 n3 (fun y0 y1 y2 y3 y4 y5 y6 y7 => K (.exit 0) ⟨qc8, [qc4, (1, some ⟨100, .agg [vI n, vR m, .sl 2 1 0 n2, .sl 3 1 0 n3, .sl 4 1 0 y0, .sl 5 1 0 y1, .sl 6 1 0 y2, vN], true⟩), (2, bL 3 y3), (3, bL 3 y4), (4, bL 3 y5), (5, bL 3 y6), (6, bL 3 y7)], 7, none⟩) k w0 w1 w2 w3 w4 w5 w6 w7
  | 0, _, _, _, _, _, _, _, _ => rfl
  | k + 1, w0, w1, w2, w3, w4, w5, w6, w7 => by
    unfold MakeF_l7
    exact (MakeF_s13_eq fuel k K n m n2 n3 w0 w1 w2 w3 w4 w5 w6 w7).trans (congr (Eq.refl (MakeF_s13 (R := Out) n m n2 n3 w0 w1 w2 w3 w4 w5 w6 w7)) (funext fun a0 => funext fun a1 => funext fun a2 => funext fun n0 => (MakeF_l8_eq fuel n0 n m n2 n3 w0 w1 w2 w3 w4 w5 w6 w7 (kont (qc2 fuel) qc1 qc31 qc5 (rdK qc1 (qc2 fuel) qc13 qc29 k K)) fuel a0 a1 a2).trans (congrFun (congrFun (congrFun (congrFun (congr (congr (Eq.refl (MakeF_l8 (R := Out) fuel n0 n m n2 n3 w0 w1 w2 w3 w4 w5 w6 w7)) (funext fun x0 => funext fun x1 => funext fun x2 => funext fun x3 => funext fun x4 => funext fun x5 => funext fun x6 => funext fun x7 => funext fun x8 => funext fun x9 => funext fun x10 => funext fun x11 => funext fun x12 => funext fun x13 => funext fun x14 => funext fun x15 => funext fun x16 => funext fun x17 => funext fun x18 => (MakeF_s17_eq fuel k K w0 x6 x8 x12 x13 w5 x14 x15 n0 x0 x1 n m x2 x3 x4 x5 w1 w2 x7 n2 n3 x9 x10 x11 x16 x17 x18).trans (congr (Eq.refl (MakeF_s17 (R := Out) w0 x6 x8 x12 x13 w5 x14 x15 n0 x0 x1 n m x2 x3 x4 x5 w1 w2 x7 n2 n3 x9 x10 x11 x16 x17 x18)) (funext fun a3 => funext fun a4 => funext fun a5 => funext fun a6 => funext fun a7 => funext fun a8 => funext fun a9 => funext fun a10 => MakeF_l7_eq fuel n m n2 n3 K k a3 a4 a5 a6 a7 a8 a9 a10)))) (funext fun x19 => funext fun x20 => funext fun x21 => funext fun x22 => (MakeF_s18_eq fuel k K x22 n0 w0 w1 w2 w3 w4 w5 w6 w7 n3 n m x19 x20 x21 n2).trans (congr (congr (Eq.refl (MakeF_s18 (R := Out) x22 n0 w0 w1 w2 w3 w4 w5 w6 w7 n3 n m x19 x20 x21 n2)) (rfl)) (funext fun a11 => funext fun a12 => funext fun a13 => funext fun a14 => funext fun a15 => funext fun a16 => funext fun a17 => funext fun a18 => MakeF_l7_eq fuel n m n2 n3 K k a11 a12 a13 a14 a15 a16 a17 a18)))) fuel) a0) a1) a2)))
noncomputable def MakeF_s12 {R : Type} (x0 : List Int) (n0 w0 w1 : Nat) (w2 w3 w4 w5 : List Int) (n3 : Nat) (n : Int) (m : List (Int × List Int)) (x1 x2 : Int) (x3 : Bool) (n2 : Nat) (c0 : Nat → Nat → List Int → List Int → List Int → List Int → Option R) (c1 : Nat → Nat → Nat → List Int → List Int → List Int → List Int → List Int → Option R) : Option R :=
  grd (decide (((x0.drop 0).take n0).length ≤ 1000)) <|
  br (decide (((mostS ((x0.drop 0).take n0)) : Int) < 0))
    (c0 w0 w1 w2 w3 w4 w5)
    (bnd (below (mostS ((x0.drop 0).take n0)) n3) fun j0 =>
    bnd (w3[(0 + j0)]?) fun e0 =>
    c1 1 w0 w1 w2 (w3.set (0 + j0) 1) ([(mostS ((x0.drop 0).take n0))]) w4 w5)
theorem MakeF_s12_eq (fuel k : Nat) (K : Ex → St → Option Out) (x0 : List Int) (n0 w0 w1 : Nat) (w2 w3 w4 w5 : List Int) (n3 : Nat) (n : Int) (m : List (Int × List Int)) (x1 x2 : Int) (x3 : Bool) (n2 : Nat) : (kont (qc2 fuel) qc1 qc31 qc5 (rdK qc1 (qc2 fuel) qc13 qc29 k K)) (.exit 2) ⟨[qc18, qc19, (3, vI 0), qc20, qc9, (6, .sl 7 1 0 n0), qc16, (29, vI n), (30, .sl 7 1 0 n0), qc17, (32, vR m), (33, vI x1), (34, vI x2), (35, vB x3)], [(qc6 n m), qc3, (2, some ⟨100, .agg [vI n, vR m, .sl 3 1 0 n2, .sl 4 1 0 n3, vN, .sl 5 1 0 w0, .sl 6 1 0 w1, vN], true⟩), (3, bL 3 w2), (4, bL 3 w3), (5, bL 3 w4), (6, bL 3 w5), (7, bL 3 x0)], 8, none⟩ = MakeF_s12 x0 n0 w0 w1 w2 w3 w4 w5 n3 n m x1 x2 x3 n2 (fun a0 a1 a2 a3 a4 a5 => K (.exit 0) ⟨qc8, [qc4, (1, some ⟨100, .agg [vI n, vR m, .sl 2 1 0 n2, .sl 3 1 0 n3, vN, .sl 4 1 0 a0, .sl 5 1 0 a1, vN], true⟩), (2, bL 3 a2), (3, bL 3 a3), (4, bL 3 a4), (5, bL 3 a5)], 6, none⟩) (fun a6 a7 a8 a9 a10 a11 a12 a13 => lpN qc1 (qc2 fuel) qc13 qc29 k ⟨qc15, [(qc6 n m), qc3, (2, some ⟨100, .agg [vI n, vR m, .sl 3 1 0 n2, .sl 4 1 0 n3, .sl 5 1 0 a6, .sl 6 1 0 a7, .sl 7 1 0 a8, vN], true⟩), (3, bL 3 a9), (4, bL 3 a10), (5, bL 3 a11), (6, bL 3 a12), (7, bL 3 a13)], 8, none⟩ K) := by kernel_rfl
noncomputable def MakeF_s7 {R : Type} (n : Int) (m : List (Int × List Int)) (n2 n3 w0 w1 : Nat) (w2 w3 w4 w5 : List Int) (c0 : Int → Int → List Int → Nat → Option R) : Option R :=
  bnd (mkN n n 8) fun n0 =>
  c0 ((m.length : Nat) : Int) 0 (List.replicate n0 (0 : Int)) n0
theorem MakeF_s7_eq (fuel k : Nat) (K : Ex → St → Option Out) (n : Int) (m : List (Int × List Int)) (n2 n3 w0 w1 : Nat) (w2 w3 w4 w5 : List Int) : lpN qc1 (qc2 fuel) qc13 qc29 (k + 1) ⟨qc15, [(qc6 n m), qc3, (2, some ⟨100, .agg [vI n, vR m, .sl 3 1 0 n2, .sl 4 1 0 n3, vN, .sl 5 1 0 w0, .sl 6 1 0 w1, vN], true⟩), (3, bL 3 w2), (4, bL 3 w3), (5, bL 3 w4), (6, bL 3 w5)], 7, none⟩ K = MakeF_s7 n m n2 n3 w0 w1 w2 w3 w4 w5 (fun a0 a1 a2 n0 => lpN qc12 (qc2 fuel) qc5 qc14 fuel ⟨[qc18, qc19, (3, vI 0), qc20, qc9, (6, .sl 7 1 0 n0), qc16, (29, vI n), (30, .sl 7 1 0 n0), qc17, (32, vR m), (33, vI a0), (34, vI a1)], [(qc6 n m), qc3, (2, some ⟨100, .agg [vI n, vR m, .sl 3 1 0 n2, .sl 4 1 0 n3, vN, .sl 5 1 0 w0, .sl 6 1 0 w1, vN], true⟩), (3, bL 3 w2), (4, bL 3 w3), (5, bL 3 w4), (6, bL 3 w5), (7, bL 3 a2)], 8, none⟩ (kont (qc2 fuel) qc1 qc31 qc5 (rdK qc1 (qc2 fuel) qc13 qc29 k K))) := by kernel_rfl
noncomputable def MakeF_l4 {R : Type} (fuel : Nat) (n : Int) (m : List (Int × List Int)) (n2 n3 : Nat) (k0 : Nat → Nat → List Int → List Int → List Int → List Int → Option R) (k1 : Nat → Nat → Nat → List Int → List Int → List Int → List Int → List Int → Option R) : Nat → Nat → Nat → List Int → List Int → List Int → List Int → Option R
  | 0, _, _, _, _, _, _ => none
  | k + 1, w0, w1, w2, w3, w4, w5 =>
    (MakeF_s7 n m n2 n3 w0 w1 w2 w3 w4 w5 (fun a0 a1 a2 n0 => (MakeF_l5 fuel n0 n m n2 n3 w0 w1 w2 w3 w4 w5 (fun x0 x1 x2 x3 x4 x5 x6 x7 x8 x9 x10 x11 x12 x13 x14 x15 x16 x17 x18 => (MakeF_s11 x6 x8 x12 x13 x14 x15 n0 x0 x1 n m x2 x3 x4 x5 w0 w1 x7 n2 n3 x9 x10 x11 x16 x17 x18 (fun a3 a4 a5 a6 a7 a8 => ( MakeF_l4 fuel n m n2 n3 k0 k1 k a3 a4 a5 a6 a7 a8 )))) (fun x19 x20 x21 x22 => (MakeF_s12 x22 n0 w0 w1 w2 w3 w4 w5 n3 n m x19 x20 x21 n2 (fun a9 a10 a11 a12 a13 a14 => k0 a9 a10 a11 a12 a13 a14) (fun a15 a16 a17 a18 a19 a20 a21 a22 => (MakeF_l7 fuel n m n2 n3 (fun x23 x24 x25 x26 x27 x28 x29 x30 => k1 x23 x24 x25 x26 x27 x28 x29 x30) k a15 a16 a17 a18 a19 a20 a21 a22)))) fuel a0 a1 a2)))
theorem MakeF_l4_eq (fuel : Nat) (n : Int) (m : List (Int × List Int)) (n2 n3 : Nat) (K : Ex → St → Option Out) : ∀ (k w0 w1 : Nat) (w2 w3 w4 w5 : List Int), lpN qc1 (qc2 fuel) qc13 qc29 k ⟨qc15, [(qc6 n m), qc3, (2, some ⟨100, .agg [vI n, vR m, .sl 3 1 0 n2, .sl 4 1 0 n3, vN, .sl 5 1 0 w0, .sl 6 1 0 w1, vN], true⟩), (3, bL 3 w2), (4, bL 3 w3), (5, bL 3 w4), (6, bL 3 w5)], 7, none⟩ K = MakeF_l4 fuel n m n2 n3 (fun y0 y1 y2 y3 y4 y5 => K (.exit 0) ⟨qc8, [qc4, (1, some ⟨100, .agg [vI n, vR m, .sl 2 1 0 n2, .sl 3 1 0 n3, vN, .sl 4 1 0 y0, .sl 5 1 0 y1, vN], true⟩), (2, bL 3 y2), (3, bL 3 y3), (4, bL 3 y4), (5, bL 3 y5)], 6, none⟩) (fun y6 y7 y8 y9 y10 y11 y12 y13 => K (.exit 0) ⟨qc8, [qc4, (1, some ⟨100, .agg [vI n, vR m, .sl 2 1 0 n2, .sl 3 1 0 n3, .sl 4 1 0 y6, .sl 5 1 0 y7, .sl 6 1 0 y8, vN], true⟩), (2, bL 3 y9), (3, bL 3 y10), (4, bL 3 y11), (5, bL 3 y12), (6, bL 3 y13)], 7, none⟩) k w0 w1 w2 w3 w4 w5
  | 0, _, _, _, _, _, _ => rfl
  | k + 1, w0, w1, w2, w3, w4, w5 => by
    unfold MakeF_l4
    exact (MakeF_s7_eq fuel k K n m n2 n3 w0 w1 w2 w3 w4 w5).trans (congr (Eq.refl (MakeF_s7 (R := Out) n m n2 n3 w0 w1 w2 w3 w4 w5)) (funext fun a0 => funext fun a1 => funext fun a2 => funext fun n0 => (MakeF_l5_eq fuel n0 n m n2 n3 w0 w1 w2 w3 w4 w5 (kont (qc2 fuel) qc1 qc31 qc5 (rdK qc1 (qc2 fuel) qc13 qc29 k K)) fuel a0 a1 a2).trans (congrFun (congrFun (congrFun (congrFun (congr (congr (Eq.refl (MakeF_l5 (R := Out) fuel n0 n m n2 n3 w0 w1 w2 w3 w4 w5)) (funext fun x0 => funext fun x1 => funext fun x2 => funext fun x3 => funext fun x4 => funext fun x5 => funext fun x6 => funext fun x7 => funext fun x8 => funext fun x9 => funext fun x10 => funext fun x11 => funext fun x12 => funext fun x13 => funext fun x14 => funext fun x15 => funext fun x16 => funext fun x17 => funext fun x18 => (MakeF_s11_eq fuel k K x6 x8 x12 x13 x14 x15 n0 x0 x1 n m x2 x3 x4 x5 w0 w1 x7 n2 n3 x9 x10 x11 x16 x17 x18).trans (congr (Eq.refl (MakeF_s11 (R := Out) x6 x8 x12 x13 x14 x15 n0 x0 x1 n m x2 x3 x4 x5 w0 w1 x7 n2 n3 x9 x10 x11 x16 x17 x18)) (funext fun a3 => funext fun a4 => funext fun a5 => funext fun a6 => funext fun a7 => funext fun a8 => MakeF_l4_eq fuel n m n2 n3 K k a3 a4 a5 a6 a7 a8)))) (funext fun x19 => funext fun x20 => funext fun x21 => funext fun x22 => (MakeF_s12_eq fuel k K x22 n0 w0 w1 w2 w3 w4 w5 n3 n m x19 x20 x21 n2).trans (congr (congr (Eq.refl (MakeF_s12 (R := Out) x22 n0 w0 w1 w2 w3 w4 w5 n3 n m x19 x20 x21 n2)) (rfl)) (funext fun a9 => funext fun a10 => funext fun a11 => funext fun a12 => funext fun a13 => funext fun a14 => funext fun a15 => funext fun a16 => MakeF_l7_eq fuel n m n2 n3 K k a9 a10 a11 a12 a13 a14 a15 a16)))) fuel) a0) a1) a2)))
noncomputable def MakeF_s6 {R : Type} (x0 x1 x2 x3 : List Int) (n0 : Nat) (x4 : Int) (x5 : List Int) (n : Int) (m : List (Int × List Int)) (x6 : Int) (x7 : Bool) (x8 : Int) (x9 : Bool) (x10 : Int) (n2 n3 : Nat) (x11 : Int) (x12 x13 : Nat) (x14 : List Int) (c0 : Nat → Nat → List Int → List Int → List Int → List Int → Option R) : Option R :=
  c0 1 1 x0 x1 x2 x3
theorem MakeF_s6_eq (fuel k : Nat) (K : Ex → St → Option Out) (x0 x1 x2 x3 : List Int) (n0 : Nat) (x4 : Int) (x5 : List Int) (n : Int) (m : List (Int × List Int)) (x6 : Int) (x7 : Bool) (x8 : Int) (x9 : Bool) (x10 : Int) (n2 n3 : Nat) (x11 : Int) (x12 x13 : Nat) (x14 : List Int) : (kont (qc2 fuel) qc1 qc31 qc5 (rdK qc1 (qc2 fuel) qc13 qc29 k K)) (.exit 1) ⟨[qc18, qc19, (3, vI 0), qc20, qc9, (6, .sl 7 1 0 n0), (7, vI x4), (8, vL x5), qc16, (29, vI n), (30, .sl 7 1 0 n0), qc17, (32, vR m), (33, vI x6), (34, vI x4), (35, vB x7), (36, vI x4), qc21, qc24, (39, vI x4), (40, vL x5), (41, vL x5), (42, vI x8), (43, vB x9), qc32, qc33, qc34, qc35, qc36, qc37, (50, vN), (51, vI x4), (52, .sl 8 1 0 1), (53, .sl 5 1 0 1), qc38, qc39, qc40, qc41, (58, vN), (59, vL x5), (60, .lp [vI x10] 0), (61, vI x10), (62, .sl 9 1 0 1), (63, .sl 6 1 0 1), qc42, qc43, qc44, qc45, qc46, qc47, qc48, qc49, qc50, (73, .sl 3 1 0 n2), (74, vI x4), qc51, qc52, qc53, (78, .sl 4 1 0 n3), (79, vL x5), (80, .lp [vI x11] 0), (81, vI x11), (82, .ptr 3 1 x12 0), (83, .ptr 4 1 x13 0)], [(qc6 n m), qc3, (2, some ⟨100, .agg [vI n, vR m, .sl 3 1 0 n2, .sl 4 1 0 n3, vN, .sl 5 1 0 1, .sl 6 1 0 1, vN], true⟩), (3, bL 3 x0), (4, bL 3 x1), (5, bL 3 x2), (6, bL 3 x3), (7, bL 3 x14), (8, bL 3 x2), (9, bL 3 x3)], 10, none⟩ = MakeF_s6 x0 x1 x2 x3 n0 x4 x5 n m x6 x7 x8 x9 x10 n2 n3 x11 x12 x13 x14 (fun a0 a1 a2 a3 a4 a5 => lpN qc1 (qc2 fuel) qc13 qc29 k ⟨qc15, [(qc6 n m), qc3, (2, some ⟨100, .agg [vI n, vR m, .sl 3 1 0 n2, .sl 4 1 0 n3, vN, .sl 5 1 0 a0, .sl 6 1 0 a1, vN], true⟩), (3, bL 3 a2), (4, bL 3 a3), (5, bL 3 a4), (6, bL 3 a5)], 7, none⟩ K) := by kernel_rfl
noncomputable def MakeF_s22 {R : Type} (w0 w1 : Int) (w2 : List Int) (n0 : Nat) (w3 : List Int) (w5 w6 : Bool) (w7 n : Int) (m : List (Int × List Int)) (w8 : Int) (n2 n3 w9 : Nat) (w4 w10 w11 : List Int) (c0 : List Int → Bool → Int → Bool → Int → List Int → Option R) (c1 : List Int → Bool → Int → Bool → Int → Bool → List Int → Option R) : Option R :=
  br (decide (w0 < w1))
    (bnd (ix w2 w0) fun e0 =>
    bnd (below e0 n0) fun j0 =>
    bnd (w3[(0 + j0)]?) fun e1 =>
    bnd (below e0 n0) fun j1 =>
    bnd (w3[(0 + j1)]?) fun e2 =>
    c0 w2 w5 w1 w6 (IntKind.i64.wrap (w0 + 1)) (w3.set (0 + j1) (IntKind.i64.wrap (e1 + 1))))
    (c1 w2 w5 w1 w6 w0 (decide (w0 < w1)) w3)
theorem MakeF_s22_eq (fuel k : Nat) (K : Ex → St → Option Out) (w0 w1 : Int) (w2 : List Int) (n0 : Nat) (w3 : List Int) (w5 w6 : Bool) (w7 n : Int) (m : List (Int × List Int)) (w8 : Int) (n2 n3 w9 : Nat) (w4 w10 w11 : List Int) : lpN qc23 (qc2 fuel) qc5 qc10 (k + 1) ⟨[qc18, qc19, (3, vI 0), qc20, qc9, (6, .sl 6 1 0 n0), (7, vI w7), (8, vL w2), qc16, (29, vI n), (30, .sl 6 1 0 n0), qc17, (32, vR m), (33, vI w8), (34, vI w7), (35, vB w5), (36, vI w7), qc21, qc24, (39, vI w7), (40, vL w2), (41, vL w2), (42, vI w1), (43, vB w6), (84, vL w2), (85, vI w1), (86, vI w0)], [(qc6 n m), qc3, (2, some ⟨100, .agg [vI n, vR m, .sl 3 1 0 n2, .sl 4 1 0 n3, .sl 5 1 0 w9, vN, vN, vN], true⟩), (3, bL 3 w4), (4, bL 3 w10), (5, bL 3 w11), (6, bL 3 w3)], 7, none⟩ K = MakeF_s22 w0 w1 w2 n0 w3 w5 w6 w7 n m w8 n2 n3 w9 w4 w10 w11 (fun a0 a1 a2 a3 a4 a5 => lpN qc23 (qc2 fuel) qc5 qc10 k ⟨[qc18, qc19, (3, vI 0), qc20, qc9, (6, .sl 6 1 0 n0), (7, vI w7), (8, vL a0), qc16, (29, vI n), (30, .sl 6 1 0 n0), qc17, (32, vR m), (33, vI w8), (34, vI w7), (35, vB a1), (36, vI w7), qc21, qc24, (39, vI w7), (40, vL a0), (41, vL a0), (42, vI a2), (43, vB a3), (84, vL a0), (85, vI a2), (86, vI a4)], [(qc6 n m), qc3, (2, some ⟨100, .agg [vI n, vR m, .sl 3 1 0 n2, .sl 4 1 0 n3, .sl 5 1 0 w9, vN, vN, vN], true⟩), (3, bL 3 w4), (4, bL 3 w10), (5, bL 3 w11), (6, bL 3 a5)], 7, none⟩ K) (fun a6 a7 a8 a9 a10 a11 a12 => K (.exit 4) ⟨[qc18, qc19, (3, vI 0), qc20, qc9, (6, .sl 6 1 0 n0), (7, vI w7), (8, vL a6), qc16, (29, vI n), (30, .sl 6 1 0 n0), qc17, (32, vR m), (33, vI w8), (34, vI w7), (35, vB a7), (36, vI w7), qc21, qc24, (39, vI w7), (40, vL a6), (41, vL a6), (42, vI a8), (43, vB a9), (84, vL a6), (85, vI a8), (86, vI a10), (87, vB a11)], [(qc6 n m), qc3, (2, some ⟨100, .agg [vI n, vR m, .sl 3 1 0 n2, .sl 4 1 0 n3, .sl 5 1 0 w9, vN, vN, vN], true⟩), (3, bL 3 w4), (4, bL 3 w10), (5, bL 3 w11), (6, bL 3 a12)], 7, none⟩) := by kernel_rfl
noncomputable def MakeF_l12 {R : Type} (fuel n0 : Nat) (w0 n : Int) (m : List (Int × List Int)) (w1 : Int) (n2 n3 w2 : Nat) (w4 w3 w5 : List Int) (k0 : List Int → Bool → Int → Bool → Int → Bool → List Int → Option R) : Nat → List Int → Bool → Int → Bool → Int → List Int → Option R
  | 0, _, _, _, _, _, _ => none
  | k + 1, w6, w7, w8, w9, w10, w11 =>
    (MakeF_s22 w10 w8 w6 n0 w11 w7 w9 w0 n m w1 n2 n3 w2 w4 w3 w5 (fun a0 a1 a2 a3 a4 a5 => ( MakeF_l12 fuel n0 w0 n m w1 n2 n3 w2 w4 w3 w5 k0 k a0 a1 a2 a3 a4 a5 )) (fun a6 a7 a8 a9 a10 a11 a12 => k0 a6 a7 a8 a9 a10 a11 a12))
theorem MakeF_l12_eq (fuel n0 : Nat) (w0 n : Int) (m : List (Int × List Int)) (w1 : Int) (n2 n3 w2 : Nat) (w4 w3 w5 : List Int) (K : Ex → St → Option Out) : ∀ (k : Nat) (w6 : List Int) (w7 : Bool) (w8 : Int) (w9 : Bool) (w10 : Int) (w11 : List Int), lpN qc23 (qc2 fuel) qc5 qc10 k ⟨[qc18, qc19, (3, vI 0), qc20, qc9, (6, .sl 6 1 0 n0), (7, vI w0), (8, vL w6), qc16, (29, vI n), (30, .sl 6 1 0 n0), qc17, (32, vR m), (33, vI w1), (34, vI w0), (35, vB w7), (36, vI w0), qc21, qc24, (39, vI w0), (40, vL w6), (41, vL w6), (42, vI w8), (43, vB w9), (84, vL w6), (85, vI w8), (86, vI w10)], [(qc6 n m), qc3, (2, some ⟨100, .agg [vI n, vR m, .sl 3 1 0 n2, .sl 4 1 0 n3, .sl 5 1 0 w2, vN, vN, vN], true⟩), (3, bL 3 w4), (4, bL 3 w3), (5, bL 3 w5), (6, bL 3 w11)], 7, none⟩ K = MakeF_l12 fuel n0 w0 n m w1 n2 n3 w2 w4 w3 w5 (fun y0 y1 y2 y3 y4 y5 y6 => K (.exit 4) ⟨[qc18, qc19, (3, vI 0), qc20, qc9, (6, .sl 6 1 0 n0), (7, vI w0), (8, vL y0), qc16, (29, vI n), (30, .sl 6 1 0 n0), qc17, (32, vR m), (33, vI w1), (34, vI w0), (35, vB y1), (36, vI w0), qc21, qc24, (39, vI w0), (40, vL y0), (41, vL y0), (42, vI y2), (43, vB y3), (84, vL y0), (85, vI y2), (86, vI y4), (87, vB y5)], [(qc6 n m), qc3, (2, some ⟨100, .agg [vI n, vR m, .sl 3 1 0 n2, .sl 4 1 0 n3, .sl 5 1 0 w2, vN, vN, vN], true⟩), (3, bL 3 w4), (4, bL 3 w3), (5, bL 3 w5), (6, bL 3 y6)], 7, none⟩) k w6 w7 w8 w9 w10 w11
  | 0, _, _, _, _, _, _ => rfl
  | k + 1, w6, w7, w8, w9, w10, w11 => by
    unfold MakeF_l12
    exact (MakeF_s22_eq fuel k K w10 w8 w6 n0 w11 w7 w9 w0 n m w1 n2 n3 w2 w4 w3 w5).trans (congr (congr (Eq.refl (MakeF_s22 (R := Out) w10 w8 w6 n0 w11 w7 w9 w0 n m w1 n2 n3 w2 w4 w3 w5)) (funext fun a0 => funext fun a1 => funext fun a2 => funext fun a3 => funext fun a4 => funext fun a5 => MakeF_l12_eq fuel n0 w0 n m w1 n2 n3 w2 w4 w3 w5 K k a0 a1 a2 a3 a4 a5)) (rfl))
noncomputable def MakeF_s23 {R : Type} (w0 w1 : Int) (x0 : List Int) (n0 : Nat) (x1 : List Int) (n : Int) (m : List (Int × List Int)) (x2 : Bool) (x3 : Int) (x4 : Bool) (x5 : Int) (x6 : Bool) (n2 n3 w2 : Nat) (w4 w3 w5 : List Int) (c0 : Int → Int → List Int → Option R) : Option R :=
  c0 w0 (IntKind.i64.wrap (w1 + 1)) x0
theorem MakeF_s23_eq (fuel k : Nat) (K : Ex → St → Option Out) (w0 w1 : Int) (x0 : List Int) (n0 : Nat) (x1 : List Int) (n : Int) (m : List (Int × List Int)) (x2 : Bool) (x3 : Int) (x4 : Bool) (x5 : Int) (x6 : Bool) (n2 n3 w2 : Nat) (w4 w3 w5 : List Int) : (kont (qc2 fuel) qc12 qc30 qc5 (rdK qc12 (qc2 fuel) qc5 qc14 k K)) (.exit 4) ⟨[qc18, qc19, (3, vI 0), qc20, qc9, (6, .sl 6 1 0 n0), (7, vI w1), (8, vL x1), qc16, (29, vI n), (30, .sl 6 1 0 n0), qc17, (32, vR m), (33, vI w0), (34, vI w1), (35, vB x2), (36, vI w1), qc21, qc24, (39, vI w1), (40, vL x1), (41, vL x1), (42, vI x3), (43, vB x4), (84, vL x1), (85, vI x3), (86, vI x5), (87, vB x6)], [(qc6 n m), qc3, (2, some ⟨100, .agg [vI n, vR m, .sl 3 1 0 n2, .sl 4 1 0 n3, .sl 5 1 0 w2, vN, vN, vN], true⟩), (3, bL 3 w4), (4, bL 3 w3), (5, bL 3 w5), (6, bL 3 x0)], 7, none⟩ = MakeF_s23 w0 w1 x0 n0 x1 n m x2 x3 x4 x5 x6 n2 n3 w2 w4 w3 w5 (fun a0 a1 a2 => lpN qc12 (qc2 fuel) qc5 qc14 k ⟨[qc18, qc19, (3, vI 0), qc20, qc9, (6, .sl 6 1 0 n0), qc16, (29, vI n), (30, .sl 6 1 0 n0), qc17, (32, vR m), (33, vI a0), (34, vI a1)], [(qc6 n m), qc3, (2, some ⟨100, .agg [vI n, vR m, .sl 3 1 0 n2, .sl 4 1 0 n3, .sl 5 1 0 w2, vN, vN, vN], true⟩), (3, bL 3 w4), (4, bL 3 w3), (5, bL 3 w5), (6, bL 3 a2)], 7, none⟩ K) := by kernel_rfl
noncomputable def MakeF_s21 {R : Type} (w0 w1 n : Int) (m : List (Int × List Int)) (w4 w2 : List Int) (n2 n3 : Nat) (w3 : List Int) (n0 w5 : Nat) (w6 : List Int) (c0 : Int → List Int → Int → Bool → Int → Bool → Int → Int → Nat → Nat → List Int → List Int → List Int → List Int → List Int → Option R) (c1 : List Int → Bool → Int → Bool → Int → List Int → Option R) (c2 : Int → Int → Bool → List Int → Option R) : Option R :=
  br (decide (w0 < w1))
    (grd (actOk n m w4 w2 w0 && decide (n2 = w4.length) && decide (n3 = w2.length)) <|
    br (((((actS m w4 w2 w0).length : Nat) : Int) : Int) == 1)
      (bnd (ix (actS m w4 w2 w0) 0) fun e0 =>
      bnd (ix (actS m w4 w2 w0) 0) fun e1 =>
      bnd (below w0 n2) fun j0 =>
      bnd (w4[(0 + j0)]?) fun e2 =>
      bnd (below e1 n3) fun j1 =>
      bnd (w2[(0 + j1)]?) fun e3 =>
      c0 w0 (actS m w4 w2 w0) w1 (decide (w0 < w1)) (((actS m w4 w2 w0).length : Nat) : Int) (((((actS m w4 w2 w0).length : Nat) : Int) : Int) == 1) e0 e1 (0 + j0) (0 + j1) (w4.set (0 + j0) 1) (w2.set (0 + j1) 1) ([w0]) ([e0]) w3)
      (c1 (actS m w4 w2 w0) (decide (w0 < w1)) (((actS m w4 w2 w0).length : Nat) : Int) (((((actS m w4 w2 w0).length : Nat) : Int) : Int) == 1) 0 w3))
    (c2 w1 w0 (decide (w0 < w1)) w3)
theorem MakeF_s21_eq (fuel k : Nat) (K : Ex → St → Option Out) (w0 w1 n : Int) (m : List (Int × List Int)) (w4 w2 : List Int) (n2 n3 : Nat) (w3 : List Int) (n0 w5 : Nat) (w6 : List Int) : lpN qc12 (qc2 fuel) qc5 qc14 (k + 1) ⟨[qc18, qc19, (3, vI 0), qc20, qc9, (6, .sl 6 1 0 n0), qc16, (29, vI n), (30, .sl 6 1 0 n0), qc17, (32, vR m), (33, vI w1), (34, vI w0)], [(qc6 n m), qc3, (2, some ⟨100, .agg [vI n, vR m, .sl 3 1 0 n2, .sl 4 1 0 n3, .sl 5 1 0 w5, vN, vN, vN], true⟩), (3, bL 3 w4), (4, bL 3 w2), (5, bL 3 w6), (6, bL 3 w3)], 7, none⟩ K = MakeF_s21 w0 w1 n m w4 w2 n2 n3 w3 n0 w5 w6 (fun a0 a1 a2 a3 a4 a5 a6 a7 a8 a9 a10 a11 a12 a13 a14 => K (.exit 1) ⟨[qc18, qc19, (3, vI 0), qc20, qc9, (6, .sl 8 1 0 n0), (7, vI a0), (8, vL a1), qc16, (29, vI n), (30, .sl 8 1 0 n0), qc17, (32, vR m), (33, vI a2), (34, vI a0), (35, vB a3), (36, vI a0), qc21, qc24, (39, vI a0), (40, vL a1), (41, vL a1), (42, vI a4), (43, vB a5), qc32, qc33, qc34, qc35, qc36, qc37, (50, vN), (51, vI a0), (52, .sl 9 1 0 1), (53, .sl 6 1 0 1), qc38, qc39, qc40, qc41, (58, vN), (59, vL a1), (60, .lp [vI a6] 0), (61, vI a6), (62, .sl 10 1 0 1), (63, .sl 7 1 0 1), qc42, qc43, qc44, qc45, qc46, qc47, qc48, qc49, qc50, (73, .sl 3 1 0 n2), (74, vI a0), qc51, qc52, qc53, (78, .sl 4 1 0 n3), (79, vL a1), (80, .lp [vI a7] 0), (81, vI a7), (82, .ptr 3 1 a8 0), (83, .ptr 4 1 a9 0)], [(qc6 n m), qc3, (2, some ⟨100, .agg [vI n, vR m, .sl 3 1 0 n2, .sl 4 1 0 n3, .sl 5 1 0 w5, .sl 6 1 0 1, .sl 7 1 0 1, vN], true⟩), (3, bL 3 a10), (4, bL 3 a11), (5, bL 3 w6), (6, bL 3 a12), (7, bL 3 a13), (8, bL 3 a14), (9, bL 3 a12), (10, bL 3 a13)], 11, none⟩) (fun a15 a16 a17 a18 a19 a20 => lpN qc23 (qc2 fuel) qc5 qc10 fuel ⟨[qc18, qc19, (3, vI 0), qc20, qc9, (6, .sl 6 1 0 n0), (7, vI w0), (8, vL a15), qc16, (29, vI n), (30, .sl 6 1 0 n0), qc17, (32, vR m), (33, vI w1), (34, vI w0), (35, vB a16), (36, vI w0), qc21, qc24, (39, vI w0), (40, vL a15), (41, vL a15), (42, vI a17), (43, vB a18), (84, vL a15), (85, vI a17), (86, vI a19)], [(qc6 n m), qc3, (2, some ⟨100, .agg [vI n, vR m, .sl 3 1 0 n2, .sl 4 1 0 n3, .sl 5 1 0 w5, vN, vN, vN], true⟩), (3, bL 3 w4), (4, bL 3 w2), (5, bL 3 w6), (6, bL 3 a20)], 7, none⟩ (kont (qc2 fuel) qc12 qc30 qc5 (rdK qc12 (qc2 fuel) qc5 qc14 k K))) (fun a21 a22 a23 a24 => K (.exit 2) ⟨[qc18, qc19, (3, vI 0), qc20, qc9, (6, .sl 6 1 0 n0), qc16, (29, vI n), (30, .sl 6 1 0 n0), qc17, (32, vR m), (33, vI a21), (34, vI a22), (35, vB a23)], [(qc6 n m), qc3, (2, some ⟨100, .agg [vI n, vR m, .sl 3 1 0 n2, .sl 4 1 0 n3, .sl 5 1 0 w5, vN, vN, vN], true⟩), (3, bL 3 w4), (4, bL 3 w2), (5, bL 3 w6), (6, bL 3 a24)], 7, none⟩) := by kernel_rfl
noncomputable def MakeF_l11 {R : Type} (fuel n0 : Nat) (n : Int) (m : List (Int × List Int)) (n2 n3 w0 : Nat) (w4 w1 w2 : List Int) (k0 : Int → List Int → Int → Bool → Int → Bool → Int → Int → Nat → Nat → List Int → List Int → List Int → List Int → List Int → Option R) (k1 : Int → Int → Bool → List Int → Option R) : Nat → Int → Int → List Int → Option R
  | 0, _, _, _ => none
  | k + 1, w3, w5, w6 =>
    (MakeF_s21 w5 w3 n m w4 w1 n2 n3 w6 n0 w0 w2 (fun a0 a1 a2 a3 a4 a5 a6 a7 a8 a9 a10 a11 a12 a13 a14 => k0 a0 a1 a2 a3 a4 a5 a6 a7 a8 a9 a10 a11 a12 a13 a14) (fun a15 a16 a17 a18 a19 a20 => (MakeF_l12 fuel n0 w5 n m w3 n2 n3 w0 w4 w1 w2 (fun x0 x1 x2 x3 x4 x5 x6 => (MakeF_s23 w3 w5 x6 n0 x0 n m x1 x2 x3 x4 x5 n2 n3 w0 w4 w1 w2 (fun a21 a22 a23 => ( MakeF_l11 fuel n0 n m n2 n3 w0 w4 w1 w2 k0 k1 k a21 a22 a23 )))) fuel a15 a16 a17 a18 a19 a20)) (fun a24 a25 a26 a27 => k1 a24 a25 a26 a27))
theorem MakeF_l11_eq (fuel n0 : Nat) (n : Int) (m : List (Int × List Int)) (n2 n3 w0 : Nat) (w4 w1 w2 : List Int) (K : Ex → St → Option Out) : ∀ (k : Nat) (w3 w5 : Int) (w6 : List Int), lpN qc12 (qc2 fuel) qc5 qc14 k ⟨[qc18, qc19, (3, vI 0), qc20, qc9, (6, .sl 6 1 0 n0), qc16, (29, vI n), (30, .sl 6 1 0 n0), qc17, (32, vR m), (33, vI w3), (34, vI w5)], [(qc6 n m), qc3, (2, some ⟨100, .agg [vI n, vR m, .sl 3 1 0 n2, .sl 4 1 0 n3, .sl 5 1 0 w0, vN, vN, vN], true⟩), (3, bL 3 w4), (4, bL 3 w1), (5, bL 3 w2), (6, bL 3 w6)], 7, none⟩ K = MakeF_l11 fuel n0 n m n2 n3 w0 w4 w1 w2 (fun y0 y1 y2 y3 y4 y5 y6 y7 y8 y9 y10 y11 y12 y13 y14 => K (.exit 1) ⟨[qc18, qc19, (3, vI 0), qc20, qc9, (6, .sl 8 1 0 n0), (7, vI y0), (8, vL y1), qc16, (29, vI n), (30, .sl 8 1 0 n0), qc17, (32, vR m), (33, vI y2), (34, vI y0), (35, vB y3), (36, vI y0), qc21, qc24, (39, vI y0), (40, vL y1), (41, vL y1), (42, vI y4), (43, vB y5), qc32, qc33, qc34, qc35, qc36, qc37, (50, vN), (51, vI y0), (52, .sl 9 1 0 1), (53, .sl 6 1 0 1), qc38, qc39, qc40, qc41, (58, vN), (59, vL y1), (60, .lp [vI y6] 0), (61, vI y6), (62, .sl 10 1 0 1), (63, .sl 7 1 0 1), qc42, qc43, qc44, qc45, qc46, qc47, qc48, qc49, qc50, (73, .sl 3 1 0 n2), (74, vI y0), qc51, qc52, qc53, (78, .sl 4 1 0 n3), (79, vL y1), (80, .lp [vI y7] 0), (81, vI y7), (82, .ptr 3 1 y8 0), (83, .ptr 4 1 y9 0)], [(qc6 n m), qc3, (2, some ⟨100, .agg [vI n, vR m, .sl 3 1 0 n2, .sl 4 1 0 n3, .sl 5 1 0 w0, .sl 6 1 0 1, .sl 7 1 0 1, vN], true⟩), (3, bL 3 y10), (4, bL 3 y11), (5, bL 3 w2), (6, bL 3 y12), (7, bL 3 y13), (8, bL 3 y14), (9, bL 3 y12), (10, bL 3 y13)], 11, none⟩) (fun y15 y16 y17 y18 => K (.exit 2) ⟨[qc18, qc19, (3, vI 0), qc20, qc9, (6, .sl 6 1 0 n0), qc16, (29, vI n), (30, .sl 6 1 0 n0), qc17, (32, vR m), (33, vI y15), (34, vI y16), (35, vB y17)], [(qc6 n m), qc3, (2, some ⟨100, .agg [vI n, vR m, .sl 3 1 0 n2, .sl 4 1 0 n3, .sl 5 1 0 w0, vN, vN, vN], true⟩), (3, bL 3 w4), (4, bL 3 w1), (5, bL 3 w2), (6, bL 3 y18)], 7, none⟩) k w3 w5 w6
  | 0, _, _, _ => rfl
  | k + 1, w3, w5, w6 => by
    unfold MakeF_l11
    exact (MakeF_s21_eq fuel k K w5 w3 n m w4 w1 n2 n3 w6 n0 w0 w2).trans (congr (congr (congr (Eq.refl (MakeF_s21 (R := Out) w5 w3 n m w4 w1 n2 n3 w6 n0 w0 w2)) (rfl)) (funext fun a0 => funext fun a1 => funext fun a2 => funext fun a3 => funext fun a4 => funext fun a5 => (MakeF_l12_eq fuel n0 w5 n m w3 n2 n3 w0 w4 w1 w2 (kont (qc2 fuel) qc12 qc30 qc5 (rdK qc12 (qc2 fuel) qc5 qc14 k K)) fuel a0 a1 a2 a3 a4 a5).trans (congrFun (congrFun (congrFun (congrFun (congrFun (congrFun (congrFun (congr (Eq.refl (MakeF_l12 (R := Out) fuel n0 w5 n m w3 n2 n3 w0 w4 w1 w2)) (funext fun x0 => funext fun x1 => funext fun x2 => funext fun x3 => funext fun x4 => funext fun x5 => funext fun x6 => (MakeF_s23_eq fuel k K w3 w5 x6 n0 x0 n m x1 x2 x3 x4 x5 n2 n3 w0 w4 w1 w2).trans (congr (Eq.refl (MakeF_s23 (R := Out) w3 w5 x6 n0 x0 n m x1 x2 x3 x4 x5 n2 n3 w0 w4 w1 w2)) (funext fun a6 => funext fun a7 => funext fun a8 => MakeF_l11_eq fuel n0 n m n2 n3 w0 w4 w1 w2 K k a6 a7 a8)))) fuel) a0) a1) a2) a3) a4) a5))) (rfl))
noncomputable def MakeF_s24 {R : Type} (w0 : Nat) (x0 x1 w1 x2 x3 : List Int) (n0 : Nat) (x4 : Int) (x5 : List Int) (n : Int) (m : List (Int × List Int)) (x6 : Int) (x7 : Bool) (x8 : Int) (x9 : Bool) (x10 : Int) (n2 n3 : Nat) (x11 : Int) (x12 x13 : Nat) (x14 : List Int) (c0 : Nat → Nat → Nat → List Int → List Int → List Int → List Int → List Int → Option R) : Option R :=
  c0 w0 1 1 x0 x1 w1 x2 x3
theorem MakeF_s24_eq (fuel k : Nat) (K : Ex → St → Option Out) (w0 : Nat) (x0 x1 w1 x2 x3 : List Int) (n0 : Nat) (x4 : Int) (x5 : List Int) (n : Int) (m : List (Int × List Int)) (x6 : Int) (x7 : Bool) (x8 : Int) (x9 : Bool) (x10 : Int) (n2 n3 : Nat) (x11 : Int) (x12 x13 : Nat) (x14 : List Int) : (kont (qc2 fuel) qc1 qc31 qc5 (rdK qc1 (qc2 fuel) qc13 qc29 k K)) (.exit 1) ⟨[qc18, qc19, (3, vI 0), qc20, qc9, (6, .sl 8 1 0 n0), (7, vI x4), (8, vL x5), qc16, (29, vI n), (30, .sl 8 1 0 n0), qc17, (32, vR m), (33, vI x6), (34, vI x4), (35, vB x7), (36, vI x4), qc21, qc24, (39, vI x4), (40, vL x5), (41, vL x5), (42, vI x8), (43, vB x9), qc32, qc33, qc34, qc35, qc36, qc37, (50, vN), (51, vI x4), (52, .sl 9 1 0 1), (53, .sl 6 1 0 1), qc38, qc39, qc40, qc41, (58, vN), (59, vL x5), (60, .lp [vI x10] 0), (61, vI x10), (62, .sl 10 1 0 1), (63, .sl 7 1 0 1), qc42, qc43, qc44, qc45, qc46, qc47, qc48, qc49, qc50, (73, .sl 3 1 0 n2), (74, vI x4), qc51, qc52, qc53, (78, .sl 4 1 0 n3), (79, vL x5), (80, .lp [vI x11] 0), (81, vI x11), (82, .ptr 3 1 x12 0), (83, .ptr 4 1 x13 0)], [(qc6 n m), qc3, (2, some ⟨100, .agg [vI n, vR m, .sl 3 1 0 n2, .sl 4 1 0 n3, .sl 5 1 0 w0, .sl 6 1 0 1, .sl 7 1 0 1, vN], true⟩), (3, bL 3 x0), (4, bL 3 x1), (5, bL 3 w1), (6, bL 3 x2), (7, bL 3 x3), (8, bL 3 x14), (9, bL 3 x2), (10, bL 3 x3)], 11, none⟩ = MakeF_s24 w0 x0 x1 w1 x2 x3 n0 x4 x5 n m x6 x7 x8 x9 x10 n2 n3 x11 x12 x13 x14 (fun a0 a1 a2 a3 a4 a5 a6 a7 => lpN qc1 (qc2 fuel) qc13 qc29 k ⟨qc15, [(qc6 n m), qc3, (2, some ⟨100, .agg [vI n, vR m, .sl 3 1 0 n2, .sl 4 1 0 n3, .sl 5 1 0 a0, .sl 6 1 0 a1, .sl 7 1 0 a2, vN], true⟩), (3, bL 3 a3), (4, bL 3 a4), (5, bL 3 a5), (6, bL 3 a6), (7, bL 3 a7)], 8, none⟩ K) := by kernel_rfl
noncomputable def MakeF_s25 {R : Type} (x0 : List Int) (n0 w0 : Nat) (w1 w2 : List Int) (n3 : Nat) (n : Int) (m : List (Int × List Int)) (x1 x2 : Int) (x3 : Bool) (n2 : Nat) (w4 : List Int) (c0 c1 : Nat → List Int → List Int → Option R) : Option R :=
  grd (decide (((x0.drop 0).take n0).length ≤ 1000)) <|
  br (decide (((mostS ((x0.drop 0).take n0)) : Int) < 0))
    (c0 w0 w1 w2)
    (grd (Nat.beq w2.length w0) <|
    grd (okN (w0 + 1) 8) <|
    bnd (below (mostS ((x0.drop 0).take n0)) n3) fun j0 =>
    bnd (w1[(0 + j0)]?) fun e0 =>
    c1 ((w2 ++ [(mostS ((x0.drop 0).take n0))]).length) (w1.set (0 + j0) 1) (w2 ++ [(mostS ((x0.drop 0).take n0))]))
theorem MakeF_s25_eq (fuel k : Nat) (K : Ex → St → Option Out) (x0 : List Int) (n0 w0 : Nat) (w1 w2 : List Int) (n3 : Nat) (n : Int) (m : List (Int × List Int)) (x1 x2 : Int) (x3 : Bool) (n2 : Nat) (w4 : List Int) : (kont (qc2 fuel) qc1 qc31 qc5 (rdK qc1 (qc2 fuel) qc13 qc29 k K)) (.exit 2) ⟨[qc18, qc19, (3, vI 0), qc20, qc9, (6, .sl 6 1 0 n0), qc16, (29, vI n), (30, .sl 6 1 0 n0), qc17, (32, vR m), (33, vI x1), (34, vI x2), (35, vB x3)], [(qc6 n m), qc3, (2, some ⟨100, .agg [vI n, vR m, .sl 3 1 0 n2, .sl 4 1 0 n3, .sl 5 1 0 w0, vN, vN, vN], true⟩), (3, bL 3 w4), (4, bL 3 w1), (5, bL 3 w2), (6, bL 3 x0)], 7, none⟩ = MakeF_s25 x0 n0 w0 w1 w2 n3 n m x1 x2 x3 n2 w4 (fun a0 a1 a2 => K (.exit 0) ⟨qc8, [qc4, (1, some ⟨100, .agg [vI n, vR m, .sl 2 1 0 n2, .sl 3 1 0 n3, .sl 4 1 0 a0, vN, vN, vN], true⟩), (2, bL 3 w4), (3, bL 3 a1), (4, bL 3 a2)], 5, none⟩) (fun a3 a4 a5 => lpN qc1 (qc2 fuel) qc13 qc29 k ⟨qc15, [(qc6 n m), qc3, (2, some ⟨100, .agg [vI n, vR m, .sl 3 1 0 n2, .sl 4 1 0 n3, .sl 5 1 0 a3, vN, vN, vN], true⟩), (3, bL 3 w4), (4, bL 3 a4), (5, bL 3 a5)], 6, none⟩ K) := by kernel_rfl
noncomputable def MakeF_s20 {R : Type} (n : Int) (m : List (Int × List Int)) (n2 n3 w0 : Nat) (w4 w1 w2 : List Int) (c0 : Int → Int → List Int → Nat → Option R) : Option R :=
  bnd (mkN n n 8) fun n0 =>
  c0 ((m.length : Nat) : Int) 0 (List.replicate n0 (0 : Int)) n0
theorem MakeF_s20_eq (fuel k : Nat) (K : Ex → St → Option Out) (n : Int) (m : List (Int × List Int)) (n2 n3 w0 : Nat) (w4 w1 w2 : List Int) : lpN qc1 (qc2 fuel) qc13 qc29 (k + 1) ⟨qc15, [(qc6 n m), qc3, (2, some ⟨100, .agg [vI n, vR m, .sl 3 1 0 n2, .sl 4 1 0 n3, .sl 5 1 0 w0, vN, vN, vN], true⟩), (3, bL 3 w4), (4, bL 3 w1), (5, bL 3 w2)], 6, none⟩ K = MakeF_s20 n m n2 n3 w0 w4 w1 w2 (fun a0 a1 a2 n0 => lpN qc12 (qc2 fuel) qc5 qc14 fuel ⟨[qc18, qc19, (3, vI 0), qc20, qc9, (6, .sl 6 1 0 n0), qc16, (29, vI n), (30, .sl 6 1 0 n0), qc17, (32, vR m), (33, vI a0), (34, vI a1)], [(qc6 n m), qc3, (2, some ⟨100, .agg [vI n, vR m, .sl 3 1 0 n2, .sl 4 1 0 n3, .sl 5 1 0 w0, vN, vN, vN], true⟩), (3, bL 3 w4), (4, bL 3 w1), (5, bL 3 w2), (6, bL 3 a2)], 7, none⟩ (kont (qc2 fuel) qc1 qc31 qc5 (rdK qc1 (qc2 fuel) qc13 qc29 k K))) := by kernel_rfl
noncomputable def MakeF_l10 {R : Type} (fuel : Nat) (n : Int) (m : List (Int × List Int)) (n2 n3 : Nat) (w4 : List Int) (k0 : Nat → Nat → Nat → List Int → List Int → List Int → List Int → List Int → Option R) (k1 : Nat → List Int → List Int → Option R) : Nat → Nat → List Int → List Int → Option R
  | 0, _, _, _ => none
  | k + 1, w0, w1, w2 =>
    (MakeF_s20 n m n2 n3 w0 w4 w1 w2 (fun a0 a1 a2 n0 => (MakeF_l11 fuel n0 n m n2 n3 w0 w4 w1 w2 (fun x0 x1 x2 x3 x4 x5 x6 x7 x8 x9 x10 x11 x12 x13 x14 => (MakeF_s24 w0 x10 x11 w2 x12 x13 n0 x0 x1 n m x2 x3 x4 x5 x6 n2 n3 x7 x8 x9 x14 (fun a3 a4 a5 a6 a7 a8 a9 a10 => (MakeF_l7 fuel n m n2 n3 (fun x15 x16 x17 x18 x19 x20 x21 x22 => k0 x15 x16 x17 x18 x19 x20 x21 x22) k a3 a4 a5 a6 a7 a8 a9 a10)))) (fun x23 x24 x25 x26 => (MakeF_s25 x26 n0 w0 w1 w2 n3 n m x23 x24 x25 n2 w4 (fun a11 a12 a13 => k1 a11 a12 a13) (fun a14 a15 a16 => ( MakeF_l10 fuel n m n2 n3 w4 k0 k1 k a14 a15 a16 )))) fuel a0 a1 a2)))
theorem MakeF_l10_eq (fuel : Nat) (n : Int) (m : List (Int × List Int)) (n2 n3 : Nat) (w4 : List Int) (K : Ex → St → Option Out) : ∀ (k w0 : Nat) (w1 w2 : List Int), lpN qc1 (qc2 fuel) qc13 qc29 k ⟨qc15, [(qc6 n m), qc3, (2, some ⟨100, .agg [vI n, vR m, .sl 3 1 0 n2, .sl 4 1 0 n3, .sl 5 1 0 w0, vN, vN, vN], true⟩), (3, bL 3 w4), (4, bL 3 w1), (5, bL 3 w2)], 6, none⟩ K = MakeF_l10 fuel n m n2 n3 w4 (fun y0 y1 y2 y3 y4 y5 y6 y7 => K (.exit 0) ⟨qc8, [qc4, (1, some ⟨100, .agg [vI n, vR m, .sl 2 1 0 n2, .sl 3 1 0 n3, .sl 4 1 0 y0, .sl 5 1 0 y1, .sl 6 1 0 y2, vN], true⟩), (2, bL 3 y3), (3, bL 3 y4), (4, bL 3 y5), (5, bL 3 y6), (6, bL 3 y7)], 7, none⟩) (fun y8 y9 y10 => K (.exit 0) ⟨qc8, [qc4, (1, some ⟨100, .agg [vI n, vR m, .sl 2 1 0 n2, .sl 3 1 0 n3, .sl 4 1 0 y8, vN, vN, vN], true⟩), (2, bL 3 w4), (3, bL 3 y9), (4, bL 3 y10)], 5, none⟩) k w0 w1 w2
  | 0, _, _, _ => rfl
  | k + 1, w0, w1, w2 => by
    unfold MakeF_l10
    exact (MakeF_s20_eq fuel k K n m n2 n3 w0 w4 w1 w2).trans (congr (Eq.refl (MakeF_s20 (R := Out) n m n2 n3 w0 w4 w1 w2)) (funext fun a0 => funext fun a1 => funext fun a2 => funext fun n0 => (MakeF_l11_eq fuel n0 n m n2 n3 w0 w4 w1 w2 (kont (qc2 fuel) qc1 qc31 qc5 (rdK qc1 (qc2 fuel) qc13 qc29 k K)) fuel a0 a1 a2).trans (congrFun (congrFun (congrFun (congrFun (congr (congr (Eq.refl (MakeF_l11 (R := Out) fuel n0 n m n2 n3 w0 w4 w1 w2)) (funext fun x0 => funext fun x1 => funext fun x2 => funext fun x3 => funext fun x4 => funext fun x5 => funext fun x6 => funext fun x7 => funext fun x8 => funext fun x9 => funext fun x10 => funext fun x11 => funext fun x12 => funext fun x13 => funext fun x14 => (MakeF_s24_eq fuel k K w0 x10 x11 w2 x12 x13 n0 x0 x1 n m x2 x3 x4 x5 x6 n2 n3 x7 x8 x9 x14).trans (congr (Eq.refl (MakeF_s24 (R := Out) w0 x10 x11 w2 x12 x13 n0 x0 x1 n m x2 x3 x4 x5 x6 n2 n3 x7 x8 x9 x14)) (funext fun a3 => funext fun a4 => funext fun a5 => funext fun a6 => funext fun a7 => funext fun a8 => funext fun a9 => funext fun a10 => MakeF_l7_eq fuel n m n2 n3 K k a3 a4 a5 a6 a7 a8 a9 a10)))) (funext fun x15 => funext fun x16 => funext fun x17 => funext fun x18 => (MakeF_s25_eq fuel k K x18 n0 w0 w1 w2 n3 n m x15 x16 x17 n2 w4).trans (congr (congr (Eq.refl (MakeF_s25 (R := Out) x18 n0 w0 w1 w2 n3 n m x15 x16 x17 n2 w4)) (rfl)) (funext fun a11 => funext fun a12 => funext fun a13 => MakeF_l10_eq fuel n m n2 n3 w4 K k a11 a12 a13)))) fuel) a0) a1) a2)))
noncomputable def MakeF_s19 {R : Type} (x0 : List Int) (n0 : Nat) (w4 w5 : List Int) (n3 : Nat) (n : Int) (m : List (Int × List Int)) (x1 x2 : Int) (x3 : Bool) (n2 : Nat) (c0 : List Int → List Int → Option R) (c1 : Nat → List Int → List Int → Option R) : Option R :=
  grd (decide (((x0.drop 0).take n0).length ≤ 1000)) <|
  br (decide (((mostS ((x0.drop 0).take n0)) : Int) < 0))
    (c0 w4 w5)
    (bnd (below (mostS ((x0.drop 0).take n0)) n3) fun j0 =>
    bnd (w5[(0 + j0)]?) fun e0 =>
    c1 1 (w5.set (0 + j0) 1) ([(mostS ((x0.drop 0).take n0))]))
theorem MakeF_s19_eq (fuel k : Nat) (K : Ex → St → Option Out) (x0 : List Int) (n0 : Nat) (w4 w5 : List Int) (n3 : Nat) (n : Int) (m : List (Int × List Int)) (x1 x2 : Int) (x3 : Bool) (n2 : Nat) : (kont (qc2 fuel) qc1 qc31 qc5 (rdK qc1 (qc2 fuel) qc13 qc29 k K)) (.exit 2) ⟨[qc18, qc19, (3, vI 0), qc20, qc9, (6, .sl 5 1 0 n0), qc16, (29, vI n), (30, .sl 5 1 0 n0), qc17, (32, vR m), (33, vI x1), (34, vI x2), (35, vB x3)], [(qc6 n m), qc3, (2, some ⟨100, .agg [vI n, vR m, .sl 3 1 0 n2, .sl 4 1 0 n3, vN, vN, vN, vN], true⟩), (3, bL 3 w4), (4, bL 3 w5), (5, bL 3 x0)], 6, none⟩ = MakeF_s19 x0 n0 w4 w5 n3 n m x1 x2 x3 n2 (fun a0 a1 => K (.exit 0) ⟨qc8, [qc4, (1, some ⟨100, .agg [vI n, vR m, .sl 2 1 0 n2, .sl 3 1 0 n3, vN, vN, vN, vN], true⟩), (2, bL 3 a0), (3, bL 3 a1)], 4, none⟩) (fun a2 a3 a4 => lpN qc1 (qc2 fuel) qc13 qc29 k ⟨qc15, [(qc6 n m), qc3, (2, some ⟨100, .agg [vI n, vR m, .sl 3 1 0 n2, .sl 4 1 0 n3, .sl 5 1 0 a2, vN, vN, vN], true⟩), (3, bL 3 w4), (4, bL 3 a3), (5, bL 3 a4)], 6, none⟩ K) := by kernel_rfl
noncomputable def MakeF_s2 {R : Type} (n : Int) (m : List (Int × List Int)) (n2 n3 : Nat) (w4 w5 : List Int) (c0 : Int → Int → List Int → Nat → Option R) : Option R :=
  bnd (mkN n n 8) fun n0 =>
  c0 ((m.length : Nat) : Int) 0 (List.replicate n0 (0 : Int)) n0
theorem MakeF_s2_eq (fuel k : Nat) (K : Ex → St → Option Out) (n : Int) (m : List (Int × List Int)) (n2 n3 : Nat) (w4 w5 : List Int) : lpN qc1 (qc2 fuel) qc13 qc29 (k + 1) ⟨qc15, [(qc6 n m), qc3, (2, some ⟨100, .agg [vI n, vR m, .sl 3 1 0 n2, .sl 4 1 0 n3, vN, vN, vN, vN], true⟩), (3, bL 3 w4), (4, bL 3 w5)], 5, none⟩ K = MakeF_s2 n m n2 n3 w4 w5 (fun a0 a1 a2 n0 => lpN qc12 (qc2 fuel) qc5 qc14 fuel ⟨[qc18, qc19, (3, vI 0), qc20, qc9, (6, .sl 5 1 0 n0), qc16, (29, vI n), (30, .sl 5 1 0 n0), qc17, (32, vR m), (33, vI a0), (34, vI a1)], [(qc6 n m), qc3, (2, some ⟨100, .agg [vI n, vR m, .sl 3 1 0 n2, .sl 4 1 0 n3, vN, vN, vN, vN], true⟩), (3, bL 3 w4), (4, bL 3 w5), (5, bL 3 a2)], 6, none⟩ (kont (qc2 fuel) qc1 qc31 qc5 (rdK qc1 (qc2 fuel) qc13 qc29 k K))) := by kernel_rfl
noncomputable def MakeF_l1 {R : Type} (fuel : Nat) (n : Int) (m : List (Int × List Int)) (n2 n3 : Nat) (k0 : Nat → Nat → List Int → List Int → List Int → List Int → Option R) (k1 : Nat → Nat → Nat → List Int → List Int → List Int → List Int → List Int → Option R) (k2 : List Int → List Int → Option R) (k3 : Nat → List Int → List Int → List Int → Option R) : Nat → List Int → List Int → Option R
  | 0, _, _ => none
  | k + 1, w4, w5 =>
    (MakeF_s2 n m n2 n3 w4 w5 (fun a0 a1 a2 n0 => (MakeF_l2 fuel n0 n m n2 n3 w4 w5 (fun x0 x1 x2 x3 x4 x5 x6 x7 x8 x9 x10 x11 x12 x13 x14 => (MakeF_s6 x10 x11 x12 x13 n0 x0 x1 n m x2 x3 x4 x5 x6 n2 n3 x7 x8 x9 x14 (fun a3 a4 a5 a6 a7 a8 => (MakeF_l4 fuel n m n2 n3 (fun x15 x16 x17 x18 x19 x20 => k0 x15 x16 x17 x18 x19 x20) (fun x21 x22 x23 x24 x25 x26 x27 x28 => k1 x21 x22 x23 x24 x25 x26 x27 x28) k a3 a4 a5 a6 a7 a8)))) (fun x29 x30 x31 x32 => (MakeF_s19 x32 n0 w4 w5 n3 n m x29 x30 x31 n2 (fun a9 a10 => k2 a9 a10) (fun a11 a12 a13 => (MakeF_l10 fuel n m n2 n3 w4 (fun x33 x34 x35 x36 x37 x38 x39 x40 => k1 x33 x34 x35 x36 x37 x38 x39 x40) (fun x41 x42 x43 => k3 x41 w4 x42 x43) k a11 a12 a13)))) fuel a0 a1 a2)))
theorem MakeF_l1_eq (fuel : Nat) (n : Int) (m : List (Int × List Int)) (n2 n3 : Nat) (K : Ex → St → Option Out) : ∀ (k : Nat) (w4 w5 : List Int), lpN qc1 (qc2 fuel) qc13 qc29 k ⟨qc15, [(qc6 n m), qc3, (2, some ⟨100, .agg [vI n, vR m, .sl 3 1 0 n2, .sl 4 1 0 n3, vN, vN, vN, vN], true⟩), (3, bL 3 w4), (4, bL 3 w5)], 5, none⟩ K = MakeF_l1 fuel n m n2 n3 (fun y0 y1 y2 y3 y4 y5 => K (.exit 0) ⟨qc8, [qc4, (1, some ⟨100, .agg [vI n, vR m, .sl 2 1 0 n2, .sl 3 1 0 n3, vN, .sl 4 1 0 y0, .sl 5 1 0 y1, vN], true⟩), (2, bL 3 y2), (3, bL 3 y3), (4, bL 3 y4), (5, bL 3 y5)], 6, none⟩) (fun y6 y7 y8 y9 y10 y11 y12 y13 => K (.exit 0) ⟨qc8, [qc4, (1, some ⟨100, .agg [vI n, vR m, .sl 2 1 0 n2, .sl 3 1 0 n3, .sl 4 1 0 y6, .sl 5 1 0 y7, .sl 6 1 0 y8, vN], true⟩), (2, bL 3 y9), (3, bL 3 y10), (4, bL 3 y11), (5, bL 3 y12), (6, bL 3 y13)], 7, none⟩) (fun y14 y15 => K (.exit 0) ⟨qc8, [qc4, (1, some ⟨100, .agg [vI n, vR m, .sl 2 1 0 n2, .sl 3 1 0 n3, vN, vN, vN, vN], true⟩), (2, bL 3 y14), (3, bL 3 y15)], 4, none⟩) (fun y16 y17 y18 y19 => K (.exit 0) ⟨qc8, [qc4, (1, some ⟨100, .agg [vI n, vR m, .sl 2 1 0 n2, .sl 3 1 0 n3, .sl 4 1 0 y16, vN, vN, vN], true⟩), (2, bL 3 y17), (3, bL 3 y18), (4, bL 3 y19)], 5, none⟩) k w4 w5
  | 0, _, _ => rfl
  | k + 1, w4, w5 => by
    unfold MakeF_l1
    exact (MakeF_s2_eq fuel k K n m n2 n3 w4 w5).trans (congr (Eq.refl (MakeF_s2 (R := Out) n m n2 n3 w4 w5)) (funext fun a0 => funext fun a1 => funext fun a2 => funext fun n0 => (MakeF_l2_eq fuel n0 n m n2 n3 w4 w5 (kont (qc2 fuel) qc1 qc31 qc5 (rdK qc1 (qc2 fuel) qc13 qc29 k K)) fuel a0 a1 a2).trans (congrFun (congrFun (congrFun (congrFun (congr (congr (Eq.refl (MakeF_l2 (R := Out) fuel n0 n m n2 n3 w4 w5)) (funext fun x0 => funext fun x1 => funext fun x2 => funext fun x3 => funext fun x4 => funext fun x5 => funext fun x6 => funext fun x7 => funext fun x8 => funext fun x9 => funext fun x10 => funext fun x11 => funext fun x12 => funext fun x13 => funext fun x14 => (MakeF_s6_eq fuel k K x10 x11 x12 x13 n0 x0 x1 n m x2 x3 x4 x5 x6 n2 n3 x7 x8 x9 x14).trans (congr (Eq.refl (MakeF_s6 (R := Out) x10 x11 x12 x13 n0 x0 x1 n m x2 x3 x4 x5 x6 n2 n3 x7 x8 x9 x14)) (funext fun a3 => funext fun a4 => funext fun a5 => funext fun a6 => funext fun a7 => funext fun a8 => MakeF_l4_eq fuel n m n2 n3 K k a3 a4 a5 a6 a7 a8)))) (funext fun x15 => funext fun x16 => funext fun x17 => funext fun x18 => (MakeF_s19_eq fuel k K x18 n0 w4 w5 n3 n m x15 x16 x17 n2).trans (congr (congr (Eq.refl (MakeF_s19 (R := Out) x18 n0 w4 w5 n3 n m x15 x16 x17 n2)) (rfl)) (funext fun a9 => funext fun a10 => funext fun a11 => MakeF_l10_eq fuel n m n2 n3 w4 K k a9 a10 a11)))) fuel) a0) a1) a2)))
noncomputable def MakeF_s28 {R : Type} (w0 w1 : Int) (n2 : Nat) (x0 w2 : List Int) (w3 : Nat) (n : Int) (m : List (Int × List Int)) (n3 x1 x2 : Nat) (x3 x4 x5 : List Int) (c0 c1 : Int → Nat → List Int → Option R) (c2 : Nat → List Int → Option R) : Option R :=
  br (decide (w0 < w1))
    (bnd (below w0 n2) fun j0 =>
    bnd (x0[(0 + j0)]?) fun e0 =>
    br (e0 == 0)
      (grd (Nat.beq w2.length w3) <|
      grd (okN (w3 + 1) 8) <|
      c0 (IntKind.i64.wrap (w0 + 1)) ((w2 ++ [w0]).length) (w2 ++ [w0]))
      (c1 (IntKind.i64.wrap (w0 + 1)) w3 w2))
    (c2 w3 w2)
theorem MakeF_s28_eq (fuel k : Nat) (K : Ex → St → Option Out) (w0 w1 : Int) (n2 : Nat) (x0 w2 : List Int) (w3 : Nat) (n : Int) (m : List (Int × List Int)) (n3 x1 x2 : Nat) (x3 x4 x5 : List Int) : lpN qc7 (qc2 fuel) qc11 qc22 (k + 1) ⟨[qc25, (3, vI 0), qc26, (123, .sl 2 1 0 n2), (124, vI w1), (125, vI w0)], [qc4, (1, some ⟨100, .agg [vI n, vR m, .sl 2 1 0 n2, .sl 3 1 0 n3, vN, .sl 4 1 0 x1, .sl 5 1 0 x2, .sl 6 1 0 w3], true⟩), (2, bL 3 x0), (3, bL 3 x3), (4, bL 3 x4), (5, bL 3 x5), (6, bL 3 w2)], 7, none⟩ K = MakeF_s28 w0 w1 n2 x0 w2 w3 n m n3 x1 x2 x3 x4 x5 (fun a0 a1 a2 => lpN qc7 (qc2 fuel) qc11 qc22 k ⟨[qc25, (3, vI 0), qc26, (123, .sl 2 1 0 n2), (124, vI w1), (125, vI a0)], [qc4, (1, some ⟨100, .agg [vI n, vR m, .sl 2 1 0 n2, .sl 3 1 0 n3, vN, .sl 4 1 0 x1, .sl 5 1 0 x2, .sl 6 1 0 a1], true⟩), (2, bL 3 x0), (3, bL 3 x3), (4, bL 3 x4), (5, bL 3 x5), (6, bL 3 a2)], 7, none⟩ K) (fun a3 a4 a5 => lpN qc7 (qc2 fuel) qc11 qc22 k ⟨[qc25, (3, vI 0), qc26, (123, .sl 2 1 0 n2), (124, vI w1), (125, vI a3)], [qc4, (1, some ⟨100, .agg [vI n, vR m, .sl 2 1 0 n2, .sl 3 1 0 n3, vN, .sl 4 1 0 x1, .sl 5 1 0 x2, .sl 6 1 0 a4], true⟩), (2, bL 3 x0), (3, bL 3 x3), (4, bL 3 x4), (5, bL 3 x5), (6, bL 3 a5)], 7, none⟩ K) (fun a6 a7 => K (.exit 6) ⟨qc8, [qc4, (1, some ⟨100, .agg [vI n, vR m, .sl 2 1 0 n2, .sl 3 1 0 n3, vN, .sl 4 1 0 x1, .sl 5 1 0 x2, .sl 6 1 0 a6], true⟩), (2, bL 3 x0), (3, bL 3 x3), (4, bL 3 x4), (5, bL 3 x5), (6, bL 3 a7)], 7, none⟩) := by kernel_rfl
noncomputable def MakeF_l14 {R : Type} (fuel n2 : Nat) (w0 n : Int) (m : List (Int × List Int)) (n3 x0 x1 : Nat) (x2 x3 x4 x5 : List Int) (k0 : Nat → List Int → Option R) : Nat → Int → Nat → List Int → Option R
  | 0, _, _, _ => none
  | k + 1, w1, w2, w3 =>
    (MakeF_s28 w1 w0 n2 x2 w3 w2 n m n3 x0 x1 x3 x4 x5 (fun a0 a1 a2 => ( MakeF_l14 fuel n2 w0 n m n3 x0 x1 x2 x3 x4 x5 k0 k a0 a1 a2 )) (fun a3 a4 a5 => ( MakeF_l14 fuel n2 w0 n m n3 x0 x1 x2 x3 x4 x5 k0 k a3 a4 a5 )) (fun a6 a7 => k0 a6 a7))
theorem MakeF_l14_eq (fuel n2 : Nat) (w0 n : Int) (m : List (Int × List Int)) (n3 x0 x1 : Nat) (x2 x3 x4 x5 : List Int) (K : Ex → St → Option Out) : ∀ (k : Nat) (w1 : Int) (w2 : Nat) (w3 : List Int), lpN qc7 (qc2 fuel) qc11 qc22 k ⟨[qc25, (3, vI 0), qc26, (123, .sl 2 1 0 n2), (124, vI w0), (125, vI w1)], [qc4, (1, some ⟨100, .agg [vI n, vR m, .sl 2 1 0 n2, .sl 3 1 0 n3, vN, .sl 4 1 0 x0, .sl 5 1 0 x1, .sl 6 1 0 w2], true⟩), (2, bL 3 x2), (3, bL 3 x3), (4, bL 3 x4), (5, bL 3 x5), (6, bL 3 w3)], 7, none⟩ K = MakeF_l14 fuel n2 w0 n m n3 x0 x1 x2 x3 x4 x5 (fun y0 y1 => K (.exit 6) ⟨qc8, [qc4, (1, some ⟨100, .agg [vI n, vR m, .sl 2 1 0 n2, .sl 3 1 0 n3, vN, .sl 4 1 0 x0, .sl 5 1 0 x1, .sl 6 1 0 y0], true⟩), (2, bL 3 x2), (3, bL 3 x3), (4, bL 3 x4), (5, bL 3 x5), (6, bL 3 y1)], 7, none⟩) k w1 w2 w3
  | 0, _, _, _ => rfl
  | k + 1, w1, w2, w3 => by
    unfold MakeF_l14
    exact (MakeF_s28_eq fuel k K w1 w0 n2 x2 w3 w2 n m n3 x0 x1 x3 x4 x5).trans (congr (congr (congr (Eq.refl (MakeF_s28 (R := Out) w1 w0 n2 x2 w3 w2 n m n3 x0 x1 x3 x4 x5)) (funext fun a0 => funext fun a1 => funext fun a2 => MakeF_l14_eq fuel n2 w0 n m n3 x0 x1 x2 x3 x4 x5 K k a0 a1 a2)) (funext fun a3 => funext fun a4 => funext fun a5 => MakeF_l14_eq fuel n2 w0 n m n3 x0 x1 x2 x3 x4 x5 K k a3 a4 a5)) (rfl))
noncomputable def MakeF_s27 {R : Type} (w0 w1 : Int) (n2 : Nat) (x0 : List Int) (n : Int) (m : List (Int × List Int)) (n3 x1 x2 : Nat) (x3 x4 x5 : List Int) (c0 : Int → Nat → List Int → Option R) (c1 : Int → Int → Option R) (c2 : Option R) : Option R :=
  br (decide (w0 < w1))
    (bnd (below w0 n2) fun j0 =>
    bnd (x0[(0 + j0)]?) fun e0 =>
    br (e0 == 0)
      (c0 (IntKind.i64.wrap (w0 + 1)) 1 ([w0]))
      (c1 w1 (IntKind.i64.wrap (w0 + 1))))
    (c2)
theorem MakeF_s27_eq (fuel k : Nat) (K : Ex → St → Option Out) (w0 w1 : Int) (n2 : Nat) (x0 : List Int) (n : Int) (m : List (Int × List Int)) (n3 x1 x2 : Nat) (x3 x4 x5 : List Int) : lpN qc7 (qc2 fuel) qc11 qc22 (k + 1) ⟨[qc25, (3, vI 0), qc26, (123, .sl 2 1 0 n2), (124, vI w1), (125, vI w0)], [qc4, (1, some ⟨100, .agg [vI n, vR m, .sl 2 1 0 n2, .sl 3 1 0 n3, vN, .sl 4 1 0 x1, .sl 5 1 0 x2, vN], true⟩), (2, bL 3 x0), (3, bL 3 x3), (4, bL 3 x4), (5, bL 3 x5)], 6, none⟩ K = MakeF_s27 w0 w1 n2 x0 n m n3 x1 x2 x3 x4 x5 (fun a0 a1 a2 => lpN qc7 (qc2 fuel) qc11 qc22 k ⟨[qc25, (3, vI 0), qc26, (123, .sl 2 1 0 n2), (124, vI w1), (125, vI a0)], [qc4, (1, some ⟨100, .agg [vI n, vR m, .sl 2 1 0 n2, .sl 3 1 0 n3, vN, .sl 4 1 0 x1, .sl 5 1 0 x2, .sl 6 1 0 a1], true⟩), (2, bL 3 x0), (3, bL 3 x3), (4, bL 3 x4), (5, bL 3 x5), (6, bL 3 a2)], 7, none⟩ K) (fun a3 a4 => lpN qc7 (qc2 fuel) qc11 qc22 k ⟨[qc25, (3, vI 0), qc26, (123, .sl 2 1 0 n2), (124, vI a3), (125, vI a4)], [qc4, (1, some ⟨100, .agg [vI n, vR m, .sl 2 1 0 n2, .sl 3 1 0 n3, vN, .sl 4 1 0 x1, .sl 5 1 0 x2, vN], true⟩), (2, bL 3 x0), (3, bL 3 x3), (4, bL 3 x4), (5, bL 3 x5)], 6, none⟩ K) (K (.exit 6) ⟨qc8, [qc4, (1, some ⟨100, .agg [vI n, vR m, .sl 2 1 0 n2, .sl 3 1 0 n3, vN, .sl 4 1 0 x1, .sl 5 1 0 x2, vN], true⟩), (2, bL 3 x0), (3, bL 3 x3), (4, bL 3 x4), (5, bL 3 x5)], 6, none⟩) := by kernel_rfl
noncomputable def MakeF_l13 {R : Type} (fuel n2 : Nat) (n : Int) (m : List (Int × List Int)) (n3 x0 x1 : Nat) (x2 x3 x4 x5 : List Int) (k0 : Nat → List Int → Option R) (k1 : Option R) : Nat → Int → Int → Option R
  | 0, _, _ => none
  | k + 1, w0, w1 =>
    (MakeF_s27 w1 w0 n2 x2 n m n3 x0 x1 x3 x4 x5 (fun a0 a1 a2 => (MakeF_l14 fuel n2 w0 n m n3 x0 x1 x2 x3 x4 x5 (fun x6 x7 => k0 x6 x7) k a0 a1 a2)) (fun a3 a4 => ( MakeF_l13 fuel n2 n m n3 x0 x1 x2 x3 x4 x5 k0 k1 k a3 a4 )) (k1))
theorem MakeF_l13_eq (fuel n2 : Nat) (n : Int) (m : List (Int × List Int)) (n3 x0 x1 : Nat) (x2 x3 x4 x5 : List Int) (K : Ex → St → Option Out) : ∀ (k : Nat) (w0 w1 : Int), lpN qc7 (qc2 fuel) qc11 qc22 k ⟨[qc25, (3, vI 0), qc26, (123, .sl 2 1 0 n2), (124, vI w0), (125, vI w1)], [qc4, (1, some ⟨100, .agg [vI n, vR m, .sl 2 1 0 n2, .sl 3 1 0 n3, vN, .sl 4 1 0 x0, .sl 5 1 0 x1, vN], true⟩), (2, bL 3 x2), (3, bL 3 x3), (4, bL 3 x4), (5, bL 3 x5)], 6, none⟩ K = MakeF_l13 fuel n2 n m n3 x0 x1 x2 x3 x4 x5 (fun y0 y1 => K (.exit 6) ⟨qc8, [qc4, (1, some ⟨100, .agg [vI n, vR m, .sl 2 1 0 n2, .sl 3 1 0 n3, vN, .sl 4 1 0 x0, .sl 5 1 0 x1, .sl 6 1 0 y0], true⟩), (2, bL 3 x2), (3, bL 3 x3), (4, bL 3 x4), (5, bL 3 x5), (6, bL 3 y1)], 7, none⟩) (K (.exit 6) ⟨qc8, [qc4, (1, some ⟨100, .agg [vI n, vR m, .sl 2 1 0 n2, .sl 3 1 0 n3, vN, .sl 4 1 0 x0, .sl 5 1 0 x1, vN], true⟩), (2, bL 3 x2), (3, bL 3 x3), (4, bL 3 x4), (5, bL 3 x5)], 6, none⟩) k w0 w1
  | 0, _, _ => rfl
  | k + 1, w0, w1 => by
    unfold MakeF_l13
    exact (MakeF_s27_eq fuel k K w1 w0 n2 x2 n m n3 x0 x1 x3 x4 x5).trans (congr (congr (congr (Eq.refl (MakeF_s27 (R := Out) w1 w0 n2 x2 n m n3 x0 x1 x3 x4 x5)) (funext fun a0 => funext fun a1 => funext fun a2 => MakeF_l14_eq fuel n2 w0 n m n3 x0 x1 x2 x3 x4 x5 K k a0 a1 a2)) (funext fun a3 => funext fun a4 => MakeF_l13_eq fuel n2 n m n3 x0 x1 x2 x3 x4 x5 K k a3 a4)) (rfl))
noncomputable def MakeF_s29 {R : Type} (x0 : List Int) (x1 : Nat) (x2 : List Int) (x3 : Nat) (x4 : List Int) (x5 : Nat) (n : Int) (m : List (Int × List Int)) (n2 n3 : Nat) (x6 x7 : List Int) (c0 : List Int → List Int → List Int → Int → Option R) : Option R :=
  c0 ((x0.drop 0).take x1) ((x2.drop 0).take x3) ((x4.drop 0).take x5) 0
theorem MakeF_s29_eq (fuel : Nat)  (x0 : List Int) (x1 : Nat) (x2 : List Int) (x3 : Nat) (x4 : List Int) (x5 : Nat) (n : Int) (m : List (Int × List Int)) (n2 n3 : Nat) (x6 x7 : List Int) : (kont (qc2 fuel) qc28 qc27 12 (endK Tryd.prog 0 0 14)) (.exit 6) ⟨qc8, [qc4, (1, some ⟨100, .agg [vI n, vR m, .sl 2 1 0 n2, .sl 3 1 0 n3, vN, .sl 4 1 0 x1, .sl 5 1 0 x3, .sl 6 1 0 x5], true⟩), (2, bL 3 x6), (3, bL 3 x7), (4, bL 3 x0), (5, bL 3 x2), (6, bL 3 x4)], 7, none⟩ = MakeF_s29 x0 x1 x2 x3 x4 x5 n m n2 n3 x6 x7 (fun a0 a1 a2 a3 => some (.tup [.agg [vN, vL a0, vL a1, vL a2], vI a3], [])) := by kernel_rfl
noncomputable def MakeF_s30 {R : Type} (x0 : List Int) (x1 : Nat) (x2 : List Int) (x3 : Nat) (n : Int) (m : List (Int × List Int)) (n2 n3 : Nat) (x4 x5 : List Int) (c0 : List Int → List Int → Int → Option R) : Option R :=
  c0 ((x0.drop 0).take x1) ((x2.drop 0).take x3) 0
theorem MakeF_s30_eq (fuel : Nat)  (x0 : List Int) (x1 : Nat) (x2 : List Int) (x3 : Nat) (n : Int) (m : List (Int × List Int)) (n2 n3 : Nat) (x4 x5 : List Int) : (kont (qc2 fuel) qc28 qc27 12 (endK Tryd.prog 0 0 14)) (.exit 6) ⟨qc8, [qc4, (1, some ⟨100, .agg [vI n, vR m, .sl 2 1 0 n2, .sl 3 1 0 n3, vN, .sl 4 1 0 x1, .sl 5 1 0 x3, vN], true⟩), (2, bL 3 x4), (3, bL 3 x5), (4, bL 3 x0), (5, bL 3 x2)], 6, none⟩ = MakeF_s30 x0 x1 x2 x3 n m n2 n3 x4 x5 (fun a0 a1 a2 => some (.tup [.agg [vN, vL a0, vL a1, vN], vI a2], [])) := by kernel_rfl
noncomputable def MakeF_s26 {R : Type} (n2 : Nat) (n : Int) (m : List (Int × List Int)) (n3 x0 x1 : Nat) (x2 x3 x4 x5 : List Int) (c0 : Int → Int → Option R) : Option R :=
  c0 ((n2 : Nat) : Int) 0
theorem MakeF_s26_eq (fuel : Nat)  (n2 : Nat) (n : Int) (m : List (Int × List Int)) (n3 x0 x1 : Nat) (x2 x3 x4 x5 : List Int) : (kont (qc2 fuel) qc28 [1, 0, 1, 1, 1, 1, 0, 0] 12 (endK Tryd.prog 0 0 14)) (.exit 0) ⟨qc8, [qc4, (1, some ⟨100, .agg [vI n, vR m, .sl 2 1 0 n2, .sl 3 1 0 n3, vN, .sl 4 1 0 x0, .sl 5 1 0 x1, vN], true⟩), (2, bL 3 x2), (3, bL 3 x3), (4, bL 3 x4), (5, bL 3 x5)], 6, none⟩ = MakeF_s26 n2 n m n3 x0 x1 x2 x3 x4 x5 (fun a0 a1 => lpN qc7 (qc2 fuel) qc11 qc22 fuel ⟨[qc25, (3, vI 0), qc26, (123, .sl 2 1 0 n2), (124, vI a0), (125, vI a1)], [qc4, (1, some ⟨100, .agg [vI n, vR m, .sl 2 1 0 n2, .sl 3 1 0 n3, vN, .sl 4 1 0 x0, .sl 5 1 0 x1, vN], true⟩), (2, bL 3 x2), (3, bL 3 x3), (4, bL 3 x4), (5, bL 3 x5)], 6, none⟩ (kont (qc2 fuel) qc28 qc27 12 (endK Tryd.prog 0 0 14))) := by kernel_rfl
noncomputable def MakeF_s33 {R : Type} (w0 w1 : Int) (n2 : Nat) (x0 w2 : List Int) (w3 : Nat) (n : Int) (m : List (Int × List Int)) (n3 x1 x2 x3 : Nat) (x4 x5 x6 x7 : List Int) (c0 c1 : Int → Nat → List Int → Option R) (c2 : Nat → List Int → Option R) : Option R :=
  br (decide (w0 < w1))
    (bnd (below w0 n2) fun j0 =>
    bnd (x0[(0 + j0)]?) fun e0 =>
    br (e0 == 0)
      (grd (Nat.beq w2.length w3) <|
      grd (okN (w3 + 1) 8) <|
      c0 (IntKind.i64.wrap (w0 + 1)) ((w2 ++ [w0]).length) (w2 ++ [w0]))
      (c1 (IntKind.i64.wrap (w0 + 1)) w3 w2))
    (c2 w3 w2)
theorem MakeF_s33_eq (fuel k : Nat) (K : Ex → St → Option Out) (w0 w1 : Int) (n2 : Nat) (x0 w2 : List Int) (w3 : Nat) (n : Int) (m : List (Int × List Int)) (n3 x1 x2 x3 : Nat) (x4 x5 x6 x7 : List Int) : lpN qc7 (qc2 fuel) qc11 qc22 (k + 1) ⟨[qc25, (3, vI 0), qc26, (123, .sl 2 1 0 n2), (124, vI w1), (125, vI w0)], [qc4, (1, some ⟨100, .agg [vI n, vR m, .sl 2 1 0 n2, .sl 3 1 0 n3, .sl 4 1 0 x1, .sl 5 1 0 x2, .sl 6 1 0 x3, .sl 7 1 0 w3], true⟩), (2, bL 3 x0), (3, bL 3 x4), (4, bL 3 x5), (5, bL 3 x6), (6, bL 3 x7), (7, bL 3 w2)], 8, none⟩ K = MakeF_s33 w0 w1 n2 x0 w2 w3 n m n3 x1 x2 x3 x4 x5 x6 x7 (fun a0 a1 a2 => lpN qc7 (qc2 fuel) qc11 qc22 k ⟨[qc25, (3, vI 0), qc26, (123, .sl 2 1 0 n2), (124, vI w1), (125, vI a0)], [qc4, (1, some ⟨100, .agg [vI n, vR m, .sl 2 1 0 n2, .sl 3 1 0 n3, .sl 4 1 0 x1, .sl 5 1 0 x2, .sl 6 1 0 x3, .sl 7 1 0 a1], true⟩), (2, bL 3 x0), (3, bL 3 x4), (4, bL 3 x5), (5, bL 3 x6), (6, bL 3 x7), (7, bL 3 a2)], 8, none⟩ K) (fun a3 a4 a5 => lpN qc7 (qc2 fuel) qc11 qc22 k ⟨[qc25, (3, vI 0), qc26, (123, .sl 2 1 0 n2), (124, vI w1), (125, vI a3)], [qc4, (1, some ⟨100, .agg [vI n, vR m, .sl 2 1 0 n2, .sl 3 1 0 n3, .sl 4 1 0 x1, .sl 5 1 0 x2, .sl 6 1 0 x3, .sl 7 1 0 a4], true⟩), (2, bL 3 x0), (3, bL 3 x4), (4, bL 3 x5), (5, bL 3 x6), (6, bL 3 x7), (7, bL 3 a5)], 8, none⟩ K) (fun a6 a7 => K (.exit 6) ⟨qc8, [qc4, (1, some ⟨100, .agg [vI n, vR m, .sl 2 1 0 n2, .sl 3 1 0 n3, .sl 4 1 0 x1, .sl 5 1 0 x2, .sl 6 1 0 x3, .sl 7 1 0 a6], true⟩), (2, bL 3 x0), (3, bL 3 x4), (4, bL 3 x5), (5, bL 3 x6), (6, bL 3 x7), (7, bL 3 a7)], 8, none⟩) := by kernel_rfl
noncomputable def MakeF_l16 {R : Type} (fuel n2 : Nat) (w0 n : Int) (m : List (Int × List Int)) (n3 x0 x1 x2 : Nat) (x3 x4 x5 x6 x7 : List Int) (k0 : Nat → List Int → Option R) : Nat → Int → Nat → List Int → Option R
  | 0, _, _, _ => none
  | k + 1, w1, w2, w3 =>
    (MakeF_s33 w1 w0 n2 x3 w3 w2 n m n3 x0 x1 x2 x4 x5 x6 x7 (fun a0 a1 a2 => ( MakeF_l16 fuel n2 w0 n m n3 x0 x1 x2 x3 x4 x5 x6 x7 k0 k a0 a1 a2 )) (fun a3 a4 a5 => ( MakeF_l16 fuel n2 w0 n m n3 x0 x1 x2 x3 x4 x5 x6 x7 k0 k a3 a4 a5 )) (fun a6 a7 => k0 a6 a7))
theorem MakeF_l16_eq (fuel n2 : Nat) (w0 n : Int) (m : List (Int × List Int)) (n3 x0 x1 x2 : Nat) (x3 x4 x5 x6 x7 : List Int) (K : Ex → St → Option Out) : ∀ (k : Nat) (w1 : Int) (w2 : Nat) (w3 : List Int), lpN qc7 (qc2 fuel) qc11 qc22 k ⟨[qc25, (3, vI 0), qc26, (123, .sl 2 1 0 n2), (124, vI w0), (125, vI w1)], [qc4, (1, some ⟨100, .agg [vI n, vR m, .sl 2 1 0 n2, .sl 3 1 0 n3, .sl 4 1 0 x0, .sl 5 1 0 x1, .sl 6 1 0 x2, .sl 7 1 0 w2], true⟩), (2, bL 3 x3), (3, bL 3 x4), (4, bL 3 x5), (5, bL 3 x6), (6, bL 3 x7), (7, bL 3 w3)], 8, none⟩ K = MakeF_l16 fuel n2 w0 n m n3 x0 x1 x2 x3 x4 x5 x6 x7 (fun y0 y1 => K (.exit 6) ⟨qc8, [qc4, (1, some ⟨100, .agg [vI n, vR m, .sl 2 1 0 n2, .sl 3 1 0 n3, .sl 4 1 0 x0, .sl 5 1 0 x1, .sl 6 1 0 x2, .sl 7 1 0 y0], true⟩), (2, bL 3 x3), (3, bL 3 x4), (4, bL 3 x5), (5, bL 3 x6), (6, bL 3 x7), (7, bL 3 y1)], 8, none⟩) k w1 w2 w3
  | 0, _, _, _ => rfl
  | k + 1, w1, w2, w3 => by
    unfold MakeF_l16
    exact (MakeF_s33_eq fuel k K w1 w0 n2 x3 w3 w2 n m n3 x0 x1 x2 x4 x5 x6 x7).trans (congr (congr (congr (Eq.refl (MakeF_s33 (R := Out) w1 w0 n2 x3 w3 w2 n m n3 x0 x1 x2 x4 x5 x6 x7)) (funext fun a0 => funext fun a1 => funext fun a2 => MakeF_l16_eq fuel n2 w0 n m n3 x0 x1 x2 x3 x4 x5 x6 x7 K k a0 a1 a2)) (funext fun a3 => funext fun a4 => funext fun a5 => MakeF_l16_eq fuel n2 w0 n m n3 x0 x1 x2 x3 x4 x5 x6 x7 K k a3 a4 a5)) (rfl))
noncomputable def MakeF_s32 {R : Type} (w0 w1 : Int) (n2 : Nat) (x0 : List Int) (n : Int) (m : List (Int × List Int)) (n3 x1 x2 x3 : Nat) (x4 x5 x6 x7 : List Int) (c0 : Int → Nat → List Int → Option R) (c1 : Int → Int → Option R) (c2 : Option R) : Option R :=
  br (decide (w0 < w1))
    (bnd (below w0 n2) fun j0 =>
    bnd (x0[(0 + j0)]?) fun e0 =>
    br (e0 == 0)
      (c0 (IntKind.i64.wrap (w0 + 1)) 1 ([w0]))
      (c1 w1 (IntKind.i64.wrap (w0 + 1))))
    (c2)
theorem MakeF_s32_eq (fuel k : Nat) (K : Ex → St → Option Out) (w0 w1 : Int) (n2 : Nat) (x0 : List Int) (n : Int) (m : List (Int × List Int)) (n3 x1 x2 x3 : Nat) (x4 x5 x6 x7 : List Int) : lpN qc7 (qc2 fuel) qc11 qc22 (k + 1) ⟨[qc25, (3, vI 0), qc26, (123, .sl 2 1 0 n2), (124, vI w1), (125, vI w0)], [qc4, (1, some ⟨100, .agg [vI n, vR m, .sl 2 1 0 n2, .sl 3 1 0 n3, .sl 4 1 0 x1, .sl 5 1 0 x2, .sl 6 1 0 x3, vN], true⟩), (2, bL 3 x0), (3, bL 3 x4), (4, bL 3 x5), (5, bL 3 x6), (6, bL 3 x7)], 7, none⟩ K = MakeF_s32 w0 w1 n2 x0 n m n3 x1 x2 x3 x4 x5 x6 x7 (fun a0 a1 a2 => lpN qc7 (qc2 fuel) qc11 qc22 k ⟨[qc25, (3, vI 0), qc26, (123, .sl 2 1 0 n2), (124, vI w1), (125, vI a0)], [qc4, (1, some ⟨100, .agg [vI n, vR m, .sl 2 1 0 n2, .sl 3 1 0 n3, .sl 4 1 0 x1, .sl 5 1 0 x2, .sl 6 1 0 x3, .sl 7 1 0 a1], true⟩), (2, bL 3 x0), (3, bL 3 x4), (4, bL 3 x5), (5, bL 3 x6), (6, bL 3 x7), (7, bL 3 a2)], 8, none⟩ K) (fun a3 a4 => lpN qc7 (qc2 fuel) qc11 qc22 k ⟨[qc25, (3, vI 0), qc26, (123, .sl 2 1 0 n2), (124, vI a3), (125, vI a4)], [qc4, (1, some ⟨100, .agg [vI n, vR m, .sl 2 1 0 n2, .sl 3 1 0 n3, .sl 4 1 0 x1, .sl 5 1 0 x2, .sl 6 1 0 x3, vN], true⟩), (2, bL 3 x0), (3, bL 3 x4), (4, bL 3 x5), (5, bL 3 x6), (6, bL 3 x7)], 7, none⟩ K) (K (.exit 6) ⟨qc8, [qc4, (1, some ⟨100, .agg [vI n, vR m, .sl 2 1 0 n2, .sl 3 1 0 n3, .sl 4 1 0 x1, .sl 5 1 0 x2, .sl 6 1 0 x3, vN], true⟩), (2, bL 3 x0), (3, bL 3 x4), (4, bL 3 x5), (5, bL 3 x6), (6, bL 3 x7)], 7, none⟩) := by kernel_rfl
noncomputable def MakeF_l15 {R : Type} (fuel n2 : Nat) (n : Int) (m : List (Int × List Int)) (n3 x0 x1 x2 : Nat) (x3 x4 x5 x6 x7 : List Int) (k0 : Nat → List Int → Option R) (k1 : Option R) : Nat → Int → Int → Option R
  | 0, _, _ => none
  | k + 1, w0, w1 =>
    (MakeF_s32 w1 w0 n2 x3 n m n3 x0 x1 x2 x4 x5 x6 x7 (fun a0 a1 a2 => (MakeF_l16 fuel n2 w0 n m n3 x0 x1 x2 x3 x4 x5 x6 x7 (fun x8 x9 => k0 x8 x9) k a0 a1 a2)) (fun a3 a4 => ( MakeF_l15 fuel n2 n m n3 x0 x1 x2 x3 x4 x5 x6 x7 k0 k1 k a3 a4 )) (k1))
theorem MakeF_l15_eq (fuel n2 : Nat) (n : Int) (m : List (Int × List Int)) (n3 x0 x1 x2 : Nat) (x3 x4 x5 x6 x7 : List Int) (K : Ex → St → Option Out) : ∀ (k : Nat) (w0 w1 : Int), lpN qc7 (qc2 fuel) qc11 qc22 k ⟨[qc25, (3, vI 0), qc26, (123, .sl 2 1 0 n2), (124, vI w0), (125, vI w1)], [qc4, (1, some ⟨100, .agg [vI n, vR m, .sl 2 1 0 n2, .sl 3 1 0 n3, .sl 4 1 0 x0, .sl 5 1 0 x1, .sl 6 1 0 x2, vN], true⟩), (2, bL 3 x3), (3, bL 3 x4), (4, bL 3 x5), (5, bL 3 x6), (6, bL 3 x7)], 7, none⟩ K = MakeF_l15 fuel n2 n m n3 x0 x1 x2 x3 x4 x5 x6 x7 (fun y0 y1 => K (.exit 6) ⟨qc8, [qc4, (1, some ⟨100, .agg [vI n, vR m, .sl 2 1 0 n2, .sl 3 1 0 n3, .sl 4 1 0 x0, .sl 5 1 0 x1, .sl 6 1 0 x2, .sl 7 1 0 y0], true⟩), (2, bL 3 x3), (3, bL 3 x4), (4, bL 3 x5), (5, bL 3 x6), (6, bL 3 x7), (7, bL 3 y1)], 8, none⟩) (K (.exit 6) ⟨qc8, [qc4, (1, some ⟨100, .agg [vI n, vR m, .sl 2 1 0 n2, .sl 3 1 0 n3, .sl 4 1 0 x0, .sl 5 1 0 x1, .sl 6 1 0 x2, vN], true⟩), (2, bL 3 x3), (3, bL 3 x4), (4, bL 3 x5), (5, bL 3 x6), (6, bL 3 x7)], 7, none⟩) k w0 w1
  | 0, _, _ => rfl
  | k + 1, w0, w1 => by
    unfold MakeF_l15
    exact (MakeF_s32_eq fuel k K w1 w0 n2 x3 n m n3 x0 x1 x2 x4 x5 x6 x7).trans (congr (congr (congr (Eq.refl (MakeF_s32 (R := Out) w1 w0 n2 x3 n m n3 x0 x1 x2 x4 x5 x6 x7)) (funext fun a0 => funext fun a1 => funext fun a2 => MakeF_l16_eq fuel n2 w0 n m n3 x0 x1 x2 x3 x4 x5 x6 x7 K k a0 a1 a2)) (funext fun a3 => funext fun a4 => MakeF_l15_eq fuel n2 n m n3 x0 x1 x2 x3 x4 x5 x6 x7 K k a3 a4)) (rfl))
noncomputable def MakeF_s34 {R : Type} (x0 : List Int) (x1 : Nat) (x2 : List Int) (x3 : Nat) (x4 : List Int) (x5 : Nat) (x6 : List Int) (x7 : Nat) (n : Int) (m : List (Int × List Int)) (n2 n3 : Nat) (x8 x9 : List Int) (c0 : List Int → List Int → List Int → List Int → Int → Option R) : Option R :=
  c0 ((x0.drop 0).take x1) ((x2.drop 0).take x3) ((x4.drop 0).take x5) ((x6.drop 0).take x7) 0
theorem MakeF_s34_eq (fuel : Nat)  (x0 : List Int) (x1 : Nat) (x2 : List Int) (x3 : Nat) (x4 : List Int) (x5 : Nat) (x6 : List Int) (x7 : Nat) (n : Int) (m : List (Int × List Int)) (n2 n3 : Nat) (x8 x9 : List Int) : (kont (qc2 fuel) qc28 qc27 12 (endK Tryd.prog 0 0 14)) (.exit 6) ⟨qc8, [qc4, (1, some ⟨100, .agg [vI n, vR m, .sl 2 1 0 n2, .sl 3 1 0 n3, .sl 4 1 0 x1, .sl 5 1 0 x3, .sl 6 1 0 x5, .sl 7 1 0 x7], true⟩), (2, bL 3 x8), (3, bL 3 x9), (4, bL 3 x0), (5, bL 3 x2), (6, bL 3 x4), (7, bL 3 x6)], 8, none⟩ = MakeF_s34 x0 x1 x2 x3 x4 x5 x6 x7 n m n2 n3 x8 x9 (fun a0 a1 a2 a3 a4 => some (.tup [.agg [vL a0, vL a1, vL a2, vL a3], vI a4], [])) := by kernel_rfl
noncomputable def MakeF_s35 {R : Type} (x0 : List Int) (x1 : Nat) (x2 : List Int) (x3 : Nat) (x4 : List Int) (x5 : Nat) (n : Int) (m : List (Int × List Int)) (n2 n3 : Nat) (x6 x7 : List Int) (c0 : List Int → List Int → List Int → Int → Option R) : Option R :=
  c0 ((x0.drop 0).take x1) ((x2.drop 0).take x3) ((x4.drop 0).take x5) 0
theorem MakeF_s35_eq (fuel : Nat)  (x0 : List Int) (x1 : Nat) (x2 : List Int) (x3 : Nat) (x4 : List Int) (x5 : Nat) (n : Int) (m : List (Int × List Int)) (n2 n3 : Nat) (x6 x7 : List Int) : (kont (qc2 fuel) qc28 qc27 12 (endK Tryd.prog 0 0 14)) (.exit 6) ⟨qc8, [qc4, (1, some ⟨100, .agg [vI n, vR m, .sl 2 1 0 n2, .sl 3 1 0 n3, .sl 4 1 0 x1, .sl 5 1 0 x3, .sl 6 1 0 x5, vN], true⟩), (2, bL 3 x6), (3, bL 3 x7), (4, bL 3 x0), (5, bL 3 x2), (6, bL 3 x4)], 7, none⟩ = MakeF_s35 x0 x1 x2 x3 x4 x5 n m n2 n3 x6 x7 (fun a0 a1 a2 a3 => some (.tup [.agg [vL a0, vL a1, vL a2, vN], vI a3], [])) := by kernel_rfl
noncomputable def MakeF_s31 {R : Type} (n2 : Nat) (n : Int) (m : List (Int × List Int)) (n3 x0 x1 x2 : Nat) (x3 x4 x5 x6 x7 : List Int) (c0 : Int → Int → Option R) : Option R :=
  c0 ((n2 : Nat) : Int) 0
theorem MakeF_s31_eq (fuel : Nat)  (n2 : Nat) (n : Int) (m : List (Int × List Int)) (n3 x0 x1 x2 : Nat) (x3 x4 x5 x6 x7 : List Int) : (kont (qc2 fuel) qc28 [1, 0, 1, 1, 1, 1, 0, 0] 12 (endK Tryd.prog 0 0 14)) (.exit 0) ⟨qc8, [qc4, (1, some ⟨100, .agg [vI n, vR m, .sl 2 1 0 n2, .sl 3 1 0 n3, .sl 4 1 0 x0, .sl 5 1 0 x1, .sl 6 1 0 x2, vN], true⟩), (2, bL 3 x3), (3, bL 3 x4), (4, bL 3 x5), (5, bL 3 x6), (6, bL 3 x7)], 7, none⟩ = MakeF_s31 n2 n m n3 x0 x1 x2 x3 x4 x5 x6 x7 (fun a0 a1 => lpN qc7 (qc2 fuel) qc11 qc22 fuel ⟨[qc25, (3, vI 0), qc26, (123, .sl 2 1 0 n2), (124, vI a0), (125, vI a1)], [qc4, (1, some ⟨100, .agg [vI n, vR m, .sl 2 1 0 n2, .sl 3 1 0 n3, .sl 4 1 0 x0, .sl 5 1 0 x1, .sl 6 1 0 x2, vN], true⟩), (2, bL 3 x3), (3, bL 3 x4), (4, bL 3 x5), (5, bL 3 x6), (6, bL 3 x7)], 7, none⟩ (kont (qc2 fuel) qc28 qc27 12 (endK Tryd.prog 0 0 14))) := by kernel_rfl
noncomputable def MakeF_s38 {R : Type} (w0 w1 : Int) (n2 : Nat) (x0 w2 : List Int) (w3 : Nat) (n : Int) (m : List (Int × List Int)) (n3 : Nat) (x1 : List Int) (c0 c1 : Int → Nat → List Int → Option R) (c2 : Nat → List Int → Option R) : Option R :=
  br (decide (w0 < w1))
    (bnd (below w0 n2) fun j0 =>
    bnd (x0[(0 + j0)]?) fun e0 =>
    br (e0 == 0)
      (grd (Nat.beq w2.length w3) <|
      grd (okN (w3 + 1) 8) <|
      c0 (IntKind.i64.wrap (w0 + 1)) ((w2 ++ [w0]).length) (w2 ++ [w0]))
      (c1 (IntKind.i64.wrap (w0 + 1)) w3 w2))
    (c2 w3 w2)
theorem MakeF_s38_eq (fuel k : Nat) (K : Ex → St → Option Out) (w0 w1 : Int) (n2 : Nat) (x0 w2 : List Int) (w3 : Nat) (n : Int) (m : List (Int × List Int)) (n3 : Nat) (x1 : List Int) : lpN qc7 (qc2 fuel) qc11 qc22 (k + 1) ⟨[qc25, (3, vI 0), qc26, (123, .sl 2 1 0 n2), (124, vI w1), (125, vI w0)], [qc4, (1, some ⟨100, .agg [vI n, vR m, .sl 2 1 0 n2, .sl 3 1 0 n3, vN, vN, vN, .sl 4 1 0 w3], true⟩), (2, bL 3 x0), (3, bL 3 x1), (4, bL 3 w2)], 5, none⟩ K = MakeF_s38 w0 w1 n2 x0 w2 w3 n m n3 x1 (fun a0 a1 a2 => lpN qc7 (qc2 fuel) qc11 qc22 k ⟨[qc25, (3, vI 0), qc26, (123, .sl 2 1 0 n2), (124, vI w1), (125, vI a0)], [qc4, (1, some ⟨100, .agg [vI n, vR m, .sl 2 1 0 n2, .sl 3 1 0 n3, vN, vN, vN, .sl 4 1 0 a1], true⟩), (2, bL 3 x0), (3, bL 3 x1), (4, bL 3 a2)], 5, none⟩ K) (fun a3 a4 a5 => lpN qc7 (qc2 fuel) qc11 qc22 k ⟨[qc25, (3, vI 0), qc26, (123, .sl 2 1 0 n2), (124, vI w1), (125, vI a3)], [qc4, (1, some ⟨100, .agg [vI n, vR m, .sl 2 1 0 n2, .sl 3 1 0 n3, vN, vN, vN, .sl 4 1 0 a4], true⟩), (2, bL 3 x0), (3, bL 3 x1), (4, bL 3 a5)], 5, none⟩ K) (fun a6 a7 => K (.exit 6) ⟨qc8, [qc4, (1, some ⟨100, .agg [vI n, vR m, .sl 2 1 0 n2, .sl 3 1 0 n3, vN, vN, vN, .sl 4 1 0 a6], true⟩), (2, bL 3 x0), (3, bL 3 x1), (4, bL 3 a7)], 5, none⟩) := by kernel_rfl
noncomputable def MakeF_l18 {R : Type} (fuel n2 : Nat) (w0 n : Int) (m : List (Int × List Int)) (n3 : Nat) (x0 x1 : List Int) (k0 : Nat → List Int → Option R) : Nat → Int → Nat → List Int → Option R
  | 0, _, _, _ => none
  | k + 1, w1, w2, w3 =>
    (MakeF_s38 w1 w0 n2 x0 w3 w2 n m n3 x1 (fun a0 a1 a2 => ( MakeF_l18 fuel n2 w0 n m n3 x0 x1 k0 k a0 a1 a2 )) (fun a3 a4 a5 => ( MakeF_l18 fuel n2 w0 n m n3 x0 x1 k0 k a3 a4 a5 )) (fun a6 a7 => k0 a6 a7))
theorem MakeF_l18_eq (fuel n2 : Nat) (w0 n : Int) (m : List (Int × List Int)) (n3 : Nat) (x0 x1 : List Int) (K : Ex → St → Option Out) : ∀ (k : Nat) (w1 : Int) (w2 : Nat) (w3 : List Int), lpN qc7 (qc2 fuel) qc11 qc22 k ⟨[qc25, (3, vI 0), qc26, (123, .sl 2 1 0 n2), (124, vI w0), (125, vI w1)], [qc4, (1, some ⟨100, .agg [vI n, vR m, .sl 2 1 0 n2, .sl 3 1 0 n3, vN, vN, vN, .sl 4 1 0 w2], true⟩), (2, bL 3 x0), (3, bL 3 x1), (4, bL 3 w3)], 5, none⟩ K = MakeF_l18 fuel n2 w0 n m n3 x0 x1 (fun y0 y1 => K (.exit 6) ⟨qc8, [qc4, (1, some ⟨100, .agg [vI n, vR m, .sl 2 1 0 n2, .sl 3 1 0 n3, vN, vN, vN, .sl 4 1 0 y0], true⟩), (2, bL 3 x0), (3, bL 3 x1), (4, bL 3 y1)], 5, none⟩) k w1 w2 w3
  | 0, _, _, _ => rfl
  | k + 1, w1, w2, w3 => by
    unfold MakeF_l18
    exact (MakeF_s38_eq fuel k K w1 w0 n2 x0 w3 w2 n m n3 x1).trans (congr (congr (congr (Eq.refl (MakeF_s38 (R := Out) w1 w0 n2 x0 w3 w2 n m n3 x1)) (funext fun a0 => funext fun a1 => funext fun a2 => MakeF_l18_eq fuel n2 w0 n m n3 x0 x1 K k a0 a1 a2)) (funext fun a3 => funext fun a4 => funext fun a5 => MakeF_l18_eq fuel n2 w0 n m n3 x0 x1 K k a3 a4 a5)) (rfl))
noncomputable def MakeF_s37 {R : Type} (w0 w1 : Int) (n2 : Nat) (x0 : List Int) (n : Int) (m : List (Int × List Int)) (n3 : Nat) (x1 : List Int) (c0 : Int → Nat → List Int → Option R) (c1 : Int → Int → Option R) (c2 : Option R) : Option R :=
  br (decide (w0 < w1))
    (bnd (below w0 n2) fun j0 =>
    bnd (x0[(0 + j0)]?) fun e0 =>
    br (e0 == 0)
      (c0 (IntKind.i64.wrap (w0 + 1)) 1 ([w0]))
      (c1 w1 (IntKind.i64.wrap (w0 + 1))))
    (c2)
theorem MakeF_s37_eq (fuel k : Nat) (K : Ex → St → Option Out) (w0 w1 : Int) (n2 : Nat) (x0 : List Int) (n : Int) (m : List (Int × List Int)) (n3 : Nat) (x1 : List Int) : lpN qc7 (qc2 fuel) qc11 qc22 (k + 1) ⟨[qc25, (3, vI 0), qc26, (123, .sl 2 1 0 n2), (124, vI w1), (125, vI w0)], [qc4, (1, some ⟨100, .agg [vI n, vR m, .sl 2 1 0 n2, .sl 3 1 0 n3, vN, vN, vN, vN], true⟩), (2, bL 3 x0), (3, bL 3 x1)], 4, none⟩ K = MakeF_s37 w0 w1 n2 x0 n m n3 x1 (fun a0 a1 a2 => lpN qc7 (qc2 fuel) qc11 qc22 k ⟨[qc25, (3, vI 0), qc26, (123, .sl 2 1 0 n2), (124, vI w1), (125, vI a0)], [qc4, (1, some ⟨100, .agg [vI n, vR m, .sl 2 1 0 n2, .sl 3 1 0 n3, vN, vN, vN, .sl 4 1 0 a1], true⟩), (2, bL 3 x0), (3, bL 3 x1), (4, bL 3 a2)], 5, none⟩ K) (fun a3 a4 => lpN qc7 (qc2 fuel) qc11 qc22 k ⟨[qc25, (3, vI 0), qc26, (123, .sl 2 1 0 n2), (124, vI a3), (125, vI a4)], [qc4, (1, some ⟨100, .agg [vI n, vR m, .sl 2 1 0 n2, .sl 3 1 0 n3, vN, vN, vN, vN], true⟩), (2, bL 3 x0), (3, bL 3 x1)], 4, none⟩ K) (K (.exit 6) ⟨qc8, [qc4, (1, some ⟨100, .agg [vI n, vR m, .sl 2 1 0 n2, .sl 3 1 0 n3, vN, vN, vN, vN], true⟩), (2, bL 3 x0), (3, bL 3 x1)], 4, none⟩) := by kernel_rfl
noncomputable def MakeF_l17 {R : Type} (fuel n2 : Nat) (n : Int) (m : List (Int × List Int)) (n3 : Nat) (x0 x1 : List Int) (k0 : Nat → List Int → Option R) (k1 : Option R) : Nat → Int → Int → Option R
  | 0, _, _ => none
  | k + 1, w0, w1 =>
    (MakeF_s37 w1 w0 n2 x0 n m n3 x1 (fun a0 a1 a2 => (MakeF_l18 fuel n2 w0 n m n3 x0 x1 (fun x2 x3 => k0 x2 x3) k a0 a1 a2)) (fun a3 a4 => ( MakeF_l17 fuel n2 n m n3 x0 x1 k0 k1 k a3 a4 )) (k1))
theorem MakeF_l17_eq (fuel n2 : Nat) (n : Int) (m : List (Int × List Int)) (n3 : Nat) (x0 x1 : List Int) (K : Ex → St → Option Out) : ∀ (k : Nat) (w0 w1 : Int), lpN qc7 (qc2 fuel) qc11 qc22 k ⟨[qc25, (3, vI 0), qc26, (123, .sl 2 1 0 n2), (124, vI w0), (125, vI w1)], [qc4, (1, some ⟨100, .agg [vI n, vR m, .sl 2 1 0 n2, .sl 3 1 0 n3, vN, vN, vN, vN], true⟩), (2, bL 3 x0), (3, bL 3 x1)], 4, none⟩ K = MakeF_l17 fuel n2 n m n3 x0 x1 (fun y0 y1 => K (.exit 6) ⟨qc8, [qc4, (1, some ⟨100, .agg [vI n, vR m, .sl 2 1 0 n2, .sl 3 1 0 n3, vN, vN, vN, .sl 4 1 0 y0], true⟩), (2, bL 3 x0), (3, bL 3 x1), (4, bL 3 y1)], 5, none⟩) (K (.exit 6) ⟨qc8, [qc4, (1, some ⟨100, .agg [vI n, vR m, .sl 2 1 0 n2, .sl 3 1 0 n3, vN, vN, vN, vN], true⟩), (2, bL 3 x0), (3, bL 3 x1)], 4, none⟩) k w0 w1
  | 0, _, _ => rfl
  | k + 1, w0, w1 => by
    unfold MakeF_l17
    exact (MakeF_s37_eq fuel k K w1 w0 n2 x0 n m n3 x1).trans (congr (congr (congr (Eq.refl (MakeF_s37 (R := Out) w1 w0 n2 x0 n m n3 x1)) (funext fun a0 => funext fun a1 => funext fun a2 => MakeF_l18_eq fuel n2 w0 n m n3 x0 x1 K k a0 a1 a2)) (funext fun a3 => funext fun a4 => MakeF_l17_eq fuel n2 n m n3 x0 x1 K k a3 a4)) (rfl))
noncomputable def MakeF_s39 {R : Type} (x0 : List Int) (x1 : Nat) (n : Int) (m : List (Int × List Int)) (n2 n3 : Nat) (x2 x3 : List Int) (c0 : List Int → Int → Option R) : Option R :=
  c0 ((x0.drop 0).take x1) 0
theorem MakeF_s39_eq (fuel : Nat)  (x0 : List Int) (x1 : Nat) (n : Int) (m : List (Int × List Int)) (n2 n3 : Nat) (x2 x3 : List Int) : (kont (qc2 fuel) qc28 qc27 12 (endK Tryd.prog 0 0 14)) (.exit 6) ⟨qc8, [qc4, (1, some ⟨100, .agg [vI n, vR m, .sl 2 1 0 n2, .sl 3 1 0 n3, vN, vN, vN, .sl 4 1 0 x1], true⟩), (2, bL 3 x2), (3, bL 3 x3), (4, bL 3 x0)], 5, none⟩ = MakeF_s39 x0 x1 n m n2 n3 x2 x3 (fun a0 a1 => some (.tup [.agg [vN, vN, vN, vL a0], vI a1], [])) := by kernel_rfl
noncomputable def MakeF_s40 {R : Type} (n : Int) (m : List (Int × List Int)) (n2 n3 : Nat) (x0 x1 : List Int) (c0 : Int → Option R) : Option R :=
  c0 0
theorem MakeF_s40_eq (fuel : Nat)  (n : Int) (m : List (Int × List Int)) (n2 n3 : Nat) (x0 x1 : List Int) : (kont (qc2 fuel) qc28 qc27 12 (endK Tryd.prog 0 0 14)) (.exit 6) ⟨qc8, [qc4, (1, some ⟨100, .agg [vI n, vR m, .sl 2 1 0 n2, .sl 3 1 0 n3, vN, vN, vN, vN], true⟩), (2, bL 3 x0), (3, bL 3 x1)], 4, none⟩ = MakeF_s40 n m n2 n3 x0 x1 (fun a0 => some (.tup [.agg [vN, vN, vN, vN], vI a0], [])) := by kernel_rfl
noncomputable def MakeF_s36 {R : Type} (n2 : Nat) (n : Int) (m : List (Int × List Int)) (n3 : Nat) (x0 x1 : List Int) (c0 : Int → Int → Option R) : Option R :=
  c0 ((n2 : Nat) : Int) 0
theorem MakeF_s36_eq (fuel : Nat)  (n2 : Nat) (n : Int) (m : List (Int × List Int)) (n3 : Nat) (x0 x1 : List Int) : (kont (qc2 fuel) qc28 [1, 0, 1, 1, 1, 1, 0, 0] 12 (endK Tryd.prog 0 0 14)) (.exit 0) ⟨qc8, [qc4, (1, some ⟨100, .agg [vI n, vR m, .sl 2 1 0 n2, .sl 3 1 0 n3, vN, vN, vN, vN], true⟩), (2, bL 3 x0), (3, bL 3 x1)], 4, none⟩ = MakeF_s36 n2 n m n3 x0 x1 (fun a0 a1 => lpN qc7 (qc2 fuel) qc11 qc22 fuel ⟨[qc25, (3, vI 0), qc26, (123, .sl 2 1 0 n2), (124, vI a0), (125, vI a1)], [qc4, (1, some ⟨100, .agg [vI n, vR m, .sl 2 1 0 n2, .sl 3 1 0 n3, vN, vN, vN, vN], true⟩), (2, bL 3 x0), (3, bL 3 x1)], 4, none⟩ (kont (qc2 fuel) qc28 qc27 12 (endK Tryd.prog 0 0 14))) := by kernel_rfl
noncomputable def MakeF_s43 {R : Type} (w0 w1 : Int) (n2 : Nat) (x0 w2 : List Int) (w3 : Nat) (n : Int) (m : List (Int × List Int)) (n3 x1 : Nat) (x2 x3 : List Int) (c0 c1 : Int → Nat → List Int → Option R) (c2 : Nat → List Int → Option R) : Option R :=
  br (decide (w0 < w1))
    (bnd (below w0 n2) fun j0 =>
    bnd (x0[(0 + j0)]?) fun e0 =>
    br (e0 == 0)
      (grd (Nat.beq w2.length w3) <|
      grd (okN (w3 + 1) 8) <|
      c0 (IntKind.i64.wrap (w0 + 1)) ((w2 ++ [w0]).length) (w2 ++ [w0]))
      (c1 (IntKind.i64.wrap (w0 + 1)) w3 w2))
    (c2 w3 w2)
theorem MakeF_s43_eq (fuel k : Nat) (K : Ex → St → Option Out) (w0 w1 : Int) (n2 : Nat) (x0 w2 : List Int) (w3 : Nat) (n : Int) (m : List (Int × List Int)) (n3 x1 : Nat) (x2 x3 : List Int) : lpN qc7 (qc2 fuel) qc11 qc22 (k + 1) ⟨[qc25, (3, vI 0), qc26, (123, .sl 2 1 0 n2), (124, vI w1), (125, vI w0)], [qc4, (1, some ⟨100, .agg [vI n, vR m, .sl 2 1 0 n2, .sl 3 1 0 n3, .sl 4 1 0 x1, vN, vN, .sl 5 1 0 w3], true⟩), (2, bL 3 x0), (3, bL 3 x2), (4, bL 3 x3), (5, bL 3 w2)], 6, none⟩ K = MakeF_s43 w0 w1 n2 x0 w2 w3 n m n3 x1 x2 x3 (fun a0 a1 a2 => lpN qc7 (qc2 fuel) qc11 qc22 k ⟨[qc25, (3, vI 0), qc26, (123, .sl 2 1 0 n2), (124, vI w1), (125, vI a0)], [qc4, (1, some ⟨100, .agg [vI n, vR m, .sl 2 1 0 n2, .sl 3 1 0 n3, .sl 4 1 0 x1, vN, vN, .sl 5 1 0 a1], true⟩), (2, bL 3 x0), (3, bL 3 x2), (4, bL 3 x3), (5, bL 3 a2)], 6, none⟩ K) (fun a3 a4 a5 => lpN qc7 (qc2 fuel) qc11 qc22 k ⟨[qc25, (3, vI 0), qc26, (123, .sl 2 1 0 n2), (124, vI w1), (125, vI a3)], [qc4, (1, some ⟨100, .agg [vI n, vR m, .sl 2 1 0 n2, .sl 3 1 0 n3, .sl 4 1 0 x1, vN, vN, .sl 5 1 0 a4], true⟩), (2, bL 3 x0), (3, bL 3 x2), (4, bL 3 x3), (5, bL 3 a5)], 6, none⟩ K) (fun a6 a7 => K (.exit 6) ⟨qc8, [qc4, (1, some ⟨100, .agg [vI n, vR m, .sl 2 1 0 n2, .sl 3 1 0 n3, .sl 4 1 0 x1, vN, vN, .sl 5 1 0 a6], true⟩), (2, bL 3 x0), (3, bL 3 x2), (4, bL 3 x3), (5, bL 3 a7)], 6, none⟩) := by kernel_rfl
noncomputable def MakeF_l20 {R : Type} (fuel n2 : Nat) (w0 n : Int) (m : List (Int × List Int)) (n3 x0 : Nat) (x1 x2 x3 : List Int) (k0 : Nat → List Int → Option R) : Nat → Int → Nat → List Int → Option R
  | 0, _, _, _ => none
  | k + 1, w1, w2, w3 =>
    (MakeF_s43 w1 w0 n2 x1 w3 w2 n m n3 x0 x2 x3 (fun a0 a1 a2 => ( MakeF_l20 fuel n2 w0 n m n3 x0 x1 x2 x3 k0 k a0 a1 a2 )) (fun a3 a4 a5 => ( MakeF_l20 fuel n2 w0 n m n3 x0 x1 x2 x3 k0 k a3 a4 a5 )) (fun a6 a7 => k0 a6 a7))
theorem MakeF_l20_eq (fuel n2 : Nat) (w0 n : Int) (m : List (Int × List Int)) (n3 x0 : Nat) (x1 x2 x3 : List Int) (K : Ex → St → Option Out) : ∀ (k : Nat) (w1 : Int) (w2 : Nat) (w3 : List Int), lpN qc7 (qc2 fuel) qc11 qc22 k ⟨[qc25, (3, vI 0), qc26, (123, .sl 2 1 0 n2), (124, vI w0), (125, vI w1)], [qc4, (1, some ⟨100, .agg [vI n, vR m, .sl 2 1 0 n2, .sl 3 1 0 n3, .sl 4 1 0 x0, vN, vN, .sl 5 1 0 w2], true⟩), (2, bL 3 x1), (3, bL 3 x2), (4, bL 3 x3), (5, bL 3 w3)], 6, none⟩ K = MakeF_l20 fuel n2 w0 n m n3 x0 x1 x2 x3 (fun y0 y1 => K (.exit 6) ⟨qc8, [qc4, (1, some ⟨100, .agg [vI n, vR m, .sl 2 1 0 n2, .sl 3 1 0 n3, .sl 4 1 0 x0, vN, vN, .sl 5 1 0 y0], true⟩), (2, bL 3 x1), (3, bL 3 x2), (4, bL 3 x3), (5, bL 3 y1)], 6, none⟩) k w1 w2 w3
  | 0, _, _, _ => rfl
  | k + 1, w1, w2, w3 => by
    unfold MakeF_l20
    exact (MakeF_s43_eq fuel k K w1 w0 n2 x1 w3 w2 n m n3 x0 x2 x3).trans (congr (congr (congr (Eq.refl (MakeF_s43 (R := Out) w1 w0 n2 x1 w3 w2 n m n3 x0 x2 x3)) (funext fun a0 => funext fun a1 => funext fun a2 => MakeF_l20_eq fuel n2 w0 n m n3 x0 x1 x2 x3 K k a0 a1 a2)) (funext fun a3 => funext fun a4 => funext fun a5 => MakeF_l20_eq fuel n2 w0 n m n3 x0 x1 x2 x3 K k a3 a4 a5)) (rfl))
noncomputable def MakeF_s42 {R : Type} (w0 w1 : Int) (n2 : Nat) (x0 : List Int) (n : Int) (m : List (Int × List Int)) (n3 x1 : Nat) (x2 x3 : List Int) (c0 : Int → Nat → List Int → Option R) (c1 : Int → Int → Option R) (c2 : Option R) : Option R :=
  br (decide (w0 < w1))
    (bnd (below w0 n2) fun j0 =>
    bnd (x0[(0 + j0)]?) fun e0 =>
    br (e0 == 0)
      (c0 (IntKind.i64.wrap (w0 + 1)) 1 ([w0]))
      (c1 w1 (IntKind.i64.wrap (w0 + 1))))
    (c2)
theorem MakeF_s42_eq (fuel k : Nat) (K : Ex → St → Option Out) (w0 w1 : Int) (n2 : Nat) (x0 : List Int) (n : Int) (m : List (Int × List Int)) (n3 x1 : Nat) (x2 x3 : List Int) : lpN qc7 (qc2 fuel) qc11 qc22 (k + 1) ⟨[qc25, (3, vI 0), qc26, (123, .sl 2 1 0 n2), (124, vI w1), (125, vI w0)], [qc4, (1, some ⟨100, .agg [vI n, vR m, .sl 2 1 0 n2, .sl 3 1 0 n3, .sl 4 1 0 x1, vN, vN, vN], true⟩), (2, bL 3 x0), (3, bL 3 x2), (4, bL 3 x3)], 5, none⟩ K = MakeF_s42 w0 w1 n2 x0 n m n3 x1 x2 x3 (fun a0 a1 a2 => lpN qc7 (qc2 fuel) qc11 qc22 k ⟨[qc25, (3, vI 0), qc26, (123, .sl 2 1 0 n2), (124, vI w1), (125, vI a0)], [qc4, (1, some ⟨100, .agg [vI n, vR m, .sl 2 1 0 n2, .sl 3 1 0 n3, .sl 4 1 0 x1, vN, vN, .sl 5 1 0 a1], true⟩), (2, bL 3 x0), (3, bL 3 x2), (4, bL 3 x3), (5, bL 3 a2)], 6, none⟩ K) (fun a3 a4 => lpN qc7 (qc2 fuel) qc11 qc22 k ⟨[qc25, (3, vI 0), qc26, (123, .sl 2 1 0 n2), (124, vI a3), (125, vI a4)], [qc4, (1, some ⟨100, .agg [vI n, vR m, .sl 2 1 0 n2, .sl 3 1 0 n3, .sl 4 1 0 x1, vN, vN, vN], true⟩), (2, bL 3 x0), (3, bL 3 x2), (4, bL 3 x3)], 5, none⟩ K) (K (.exit 6) ⟨qc8, [qc4, (1, some ⟨100, .agg [vI n, vR m, .sl 2 1 0 n2, .sl 3 1 0 n3, .sl 4 1 0 x1, vN, vN, vN], true⟩), (2, bL 3 x0), (3, bL 3 x2), (4, bL 3 x3)], 5, none⟩) := by kernel_rfl
noncomputable def MakeF_l19 {R : Type} (fuel n2 : Nat) (n : Int) (m : List (Int × List Int)) (n3 x0 : Nat) (x1 x2 x3 : List Int) (k0 : Nat → List Int → Option R) (k1 : Option R) : Nat → Int → Int → Option R
  | 0, _, _ => none
  | k + 1, w0, w1 =>
    (MakeF_s42 w1 w0 n2 x1 n m n3 x0 x2 x3 (fun a0 a1 a2 => (MakeF_l20 fuel n2 w0 n m n3 x0 x1 x2 x3 (fun x4 x5 => k0 x4 x5) k a0 a1 a2)) (fun a3 a4 => ( MakeF_l19 fuel n2 n m n3 x0 x1 x2 x3 k0 k1 k a3 a4 )) (k1))
theorem MakeF_l19_eq (fuel n2 : Nat) (n : Int) (m : List (Int × List Int)) (n3 x0 : Nat) (x1 x2 x3 : List Int) (K : Ex → St → Option Out) : ∀ (k : Nat) (w0 w1 : Int), lpN qc7 (qc2 fuel) qc11 qc22 k ⟨[qc25, (3, vI 0), qc26, (123, .sl 2 1 0 n2), (124, vI w0), (125, vI w1)], [qc4, (1, some ⟨100, .agg [vI n, vR m, .sl 2 1 0 n2, .sl 3 1 0 n3, .sl 4 1 0 x0, vN, vN, vN], true⟩), (2, bL 3 x1), (3, bL 3 x2), (4, bL 3 x3)], 5, none⟩ K = MakeF_l19 fuel n2 n m n3 x0 x1 x2 x3 (fun y0 y1 => K (.exit 6) ⟨qc8, [qc4, (1, some ⟨100, .agg [vI n, vR m, .sl 2 1 0 n2, .sl 3 1 0 n3, .sl 4 1 0 x0, vN, vN, .sl 5 1 0 y0], true⟩), (2, bL 3 x1), (3, bL 3 x2), (4, bL 3 x3), (5, bL 3 y1)], 6, none⟩) (K (.exit 6) ⟨qc8, [qc4, (1, some ⟨100, .agg [vI n, vR m, .sl 2 1 0 n2, .sl 3 1 0 n3, .sl 4 1 0 x0, vN, vN, vN], true⟩), (2, bL 3 x1), (3, bL 3 x2), (4, bL 3 x3)], 5, none⟩) k w0 w1
  | 0, _, _ => rfl
  | k + 1, w0, w1 => by
    unfold MakeF_l19
    exact (MakeF_s42_eq fuel k K w1 w0 n2 x1 n m n3 x0 x2 x3).trans (congr (congr (congr (Eq.refl (MakeF_s42 (R := Out) w1 w0 n2 x1 n m n3 x0 x2 x3)) (funext fun a0 => funext fun a1 => funext fun a2 => MakeF_l20_eq fuel n2 w0 n m n3 x0 x1 x2 x3 K k a0 a1 a2)) (funext fun a3 => funext fun a4 => MakeF_l19_eq fuel n2 n m n3 x0 x1 x2 x3 K k a3 a4)) (rfl))
noncomputable def MakeF_s44 {R : Type} (x0 : List Int) (x1 : Nat) (x2 : List Int) (x3 : Nat) (n : Int) (m : List (Int × List Int)) (n2 n3 : Nat) (x4 x5 : List Int) (c0 : List Int → List Int → Int → Option R) : Option R :=
  c0 ((x0.drop 0).take x1) ((x2.drop 0).take x3) 0
theorem MakeF_s44_eq (fuel : Nat)  (x0 : List Int) (x1 : Nat) (x2 : List Int) (x3 : Nat) (n : Int) (m : List (Int × List Int)) (n2 n3 : Nat) (x4 x5 : List Int) : (kont (qc2 fuel) qc28 qc27 12 (endK Tryd.prog 0 0 14)) (.exit 6) ⟨qc8, [qc4, (1, some ⟨100, .agg [vI n, vR m, .sl 2 1 0 n2, .sl 3 1 0 n3, .sl 4 1 0 x1, vN, vN, .sl 5 1 0 x3], true⟩), (2, bL 3 x4), (3, bL 3 x5), (4, bL 3 x0), (5, bL 3 x2)], 6, none⟩ = MakeF_s44 x0 x1 x2 x3 n m n2 n3 x4 x5 (fun a0 a1 a2 => some (.tup [.agg [vL a0, vN, vN, vL a1], vI a2], [])) := by kernel_rfl
noncomputable def MakeF_s45 {R : Type} (x0 : List Int) (x1 : Nat) (n : Int) (m : List (Int × List Int)) (n2 n3 : Nat) (x2 x3 : List Int) (c0 : List Int → Int → Option R) : Option R :=
  c0 ((x0.drop 0).take x1) 0
theorem MakeF_s45_eq (fuel : Nat)  (x0 : List Int) (x1 : Nat) (n : Int) (m : List (Int × List Int)) (n2 n3 : Nat) (x2 x3 : List Int) : (kont (qc2 fuel) qc28 qc27 12 (endK Tryd.prog 0 0 14)) (.exit 6) ⟨qc8, [qc4, (1, some ⟨100, .agg [vI n, vR m, .sl 2 1 0 n2, .sl 3 1 0 n3, .sl 4 1 0 x1, vN, vN, vN], true⟩), (2, bL 3 x2), (3, bL 3 x3), (4, bL 3 x0)], 5, none⟩ = MakeF_s45 x0 x1 n m n2 n3 x2 x3 (fun a0 a1 => some (.tup [.agg [vL a0, vN, vN, vN], vI a1], [])) := by kernel_rfl
noncomputable def MakeF_s41 {R : Type} (n2 : Nat) (n : Int) (m : List (Int × List Int)) (n3 x0 : Nat) (x1 x2 x3 : List Int) (c0 : Int → Int → Option R) : Option R :=
  c0 ((n2 : Nat) : Int) 0
theorem MakeF_s41_eq (fuel : Nat)  (n2 : Nat) (n : Int) (m : List (Int × List Int)) (n3 x0 : Nat) (x1 x2 x3 : List Int) : (kont (qc2 fuel) qc28 [1, 0, 1, 1, 1, 1, 0, 0] 12 (endK Tryd.prog 0 0 14)) (.exit 0) ⟨qc8, [qc4, (1, some ⟨100, .agg [vI n, vR m, .sl 2 1 0 n2, .sl 3 1 0 n3, .sl 4 1 0 x0, vN, vN, vN], true⟩), (2, bL 3 x1), (3, bL 3 x2), (4, bL 3 x3)], 5, none⟩ = MakeF_s41 n2 n m n3 x0 x1 x2 x3 (fun a0 a1 => lpN qc7 (qc2 fuel) qc11 qc22 fuel ⟨[qc25, (3, vI 0), qc26, (123, .sl 2 1 0 n2), (124, vI a0), (125, vI a1)], [qc4, (1, some ⟨100, .agg [vI n, vR m, .sl 2 1 0 n2, .sl 3 1 0 n3, .sl 4 1 0 x0, vN, vN, vN], true⟩), (2, bL 3 x1), (3, bL 3 x2), (4, bL 3 x3)], 5, none⟩ (kont (qc2 fuel) qc28 qc27 12 (endK Tryd.prog 0 0 14))) := by kernel_rfl
noncomputable def MakeF_s1 {R : Type} (m : List (Int × List Int)) (n : Int) (c0 : Int → Option R) (c1 : List Int → List Int → Nat → Nat → Option R) : Option R :=
  grd (okM m) <|
  br (!(mrt n m))
    (c0 1)
    (bnd (mkN ((m.length : Nat) : Int) ((m.length : Nat) : Int) 8) fun n2 =>
    bnd (mkN n n 8) fun n3 =>
    c1 (List.replicate n2 (0 : Int)) (List.replicate n3 (0 : Int)) n2 n3)
theorem MakeF_s1_eq (fuel : Nat)  (m : List (Int × List Int)) (n : Int) : callN Tryd.prog mode12 T_most fuel 14 [.agg [vI n, vR m]] [] = MakeF_s1 m n (fun a1 => some (.tup [.agg [vN, vN, vN, vN], vI a1], [])) (fun a0 a2 n2 n3 => lpN qc1 (qc2 fuel) qc13 qc29 fuel ⟨qc15, [(qc6 n m), qc3, (2, some ⟨100, .agg [vI n, vR m, .sl 3 1 0 n2, .sl 4 1 0 n3, vN, vN, vN, vN], true⟩), (3, bL 3 a0), (4, bL 3 a2)], 5, none⟩ (kont (qc2 fuel) qc28 [1, 0, 1, 1, 1, 1, 0, 0] 12 (endK Tryd.prog 0 0 14))) := by kernel_rfl
noncomputable def MakeF {R : Type} (fuel : Nat) (n : Int) (m : List (Int × List Int)) (r0 : Int → Option R) (r1 : List Int → List Int → List Int → Int → Option R) (r2 : List Int → List Int → Int → Option R) (r3 : List Int → List Int → List Int → List Int → Int → Option R) (r4 : List Int → List Int → List Int → Int → Option R) (r5 : List Int → Int → Option R) (r6 : List Int → List Int → Int → Option R) (r7 : List Int → Int → Option R) : Option R :=
  (MakeF_s1 m n (fun a1 => r0 a1) (fun a0 a2 n2 n3 => (MakeF_l1 fuel n m n2 n3 (fun x0 x1 x2 x3 x4 x5 => (MakeF_s26 n2 n m n3 x0 x1 x2 x3 x4 x5 (fun a3 a4 => (MakeF_l13 fuel n2 n m n3 x0 x1 x2 x3 x4 x5 (fun x6 x7 => (MakeF_s29 x4 x0 x5 x1 x7 x6 n m n2 n3 x2 x3 (fun a5 a6 a7 a8 => r1 a5 a6 a7 a8))) ((MakeF_s30 x4 x0 x5 x1 n m n2 n3 x2 x3 (fun a9 a10 a11 => r2 a9 a10 a11))) fuel a3 a4)))) (fun x8 x9 x10 x11 x12 x13 x14 x15 => (MakeF_s31 n2 n m n3 x8 x9 x10 x11 x12 x13 x14 x15 (fun a12 a13 => (MakeF_l15 fuel n2 n m n3 x8 x9 x10 x11 x12 x13 x14 x15 (fun x16 x17 => (MakeF_s34 x13 x8 x14 x9 x15 x10 x17 x16 n m n2 n3 x11 x12 (fun a14 a15 a16 a17 a18 => r3 a14 a15 a16 a17 a18))) ((MakeF_s35 x13 x8 x14 x9 x15 x10 n m n2 n3 x11 x12 (fun a19 a20 a21 a22 => r4 a19 a20 a21 a22))) fuel a12 a13)))) (fun x18 x19 => (MakeF_s36 n2 n m n3 x18 x19 (fun a23 a24 => (MakeF_l17 fuel n2 n m n3 x18 x19 (fun x20 x21 => (MakeF_s39 x21 x20 n m n2 n3 x18 x19 (fun a25 a26 => r5 a25 a26))) ((MakeF_s40 n m n2 n3 x18 x19 (fun a27 => r0 a27))) fuel a23 a24)))) (fun x22 x23 x24 x25 => (MakeF_s41 n2 n m n3 x22 x23 x24 x25 (fun a28 a29 => (MakeF_l19 fuel n2 n m n3 x22 x23 x24 x25 (fun x26 x27 => (MakeF_s44 x25 x22 x27 x26 n m n2 n3 x23 x24 (fun a30 a31 a32 => r6 a30 a31 a32))) ((MakeF_s45 x25 x22 n m n2 n3 x23 x24 (fun a33 a34 => r7 a33 a34))) fuel a28 a29)))) fuel a0 a2)))
theorem MakeF_eq (fuel : Nat) (n : Int) (m : List (Int × List Int)) : callN Tryd.prog mode12 T_most fuel 14 [.agg [.s (.int .i64 n), .lt (.pair (.int .i64) (.sl (.int .u64))) m]] [] = MakeF fuel n m (fun z0 => some (.tup [.agg [.s (.slice none 0 0), .s (.slice none 0 0), .s (.slice none 0 0), .s (.slice none 0 0)], .s (.int .i64 z0)], [])) (fun z0 z1 z2 z3 => some (.tup [.agg [.s (.slice none 0 0), .li .i64 z0, .li .i64 z1, .li .i64 z2], .s (.int .i64 z3)], [])) (fun z0 z1 z2 => some (.tup [.agg [.s (.slice none 0 0), .li .i64 z0, .li .i64 z1, .s (.slice none 0 0)], .s (.int .i64 z2)], [])) (fun z0 z1 z2 z3 z4 => some (.tup [.agg [.li .i64 z0, .li .i64 z1, .li .i64 z2, .li .i64 z3], .s (.int .i64 z4)], [])) (fun z0 z1 z2 z3 => some (.tup [.agg [.li .i64 z0, .li .i64 z1, .li .i64 z2, .s (.slice none 0 0)], .s (.int .i64 z3)], [])) (fun z0 z1 => some (.tup [.agg [.s (.slice none 0 0), .s (.slice none 0 0), .s (.slice none 0 0), .li .i64 z0], .s (.int .i64 z1)], [])) (fun z0 z1 z2 => some (.tup [.agg [.li .i64 z0, .s (.slice none 0 0), .s (.slice none 0 0), .li .i64 z1], .s (.int .i64 z2)], [])) (fun z0 z1 => some (.tup [.agg [.li .i64 z0, .s (.slice none 0 0), .s (.slice none 0 0), .s (.slice none 0 0)], .s (.int .i64 z1)], [])) := by
  unfold MakeF
  exact (MakeF_s1_eq fuel  m n).trans (congr (congr (Eq.refl (MakeF_s1 (R := Out) m n)) (rfl)) (funext fun a0 => funext fun a1 => funext fun n2 => funext fun n3 => (MakeF_l1_eq fuel n m n2 n3 (kont (qc2 fuel) qc28 [1, 0, 1, 1, 1, 1, 0, 0] 12 (endK Tryd.prog 0 0 14)) fuel a0 a1).trans (congrFun (congrFun (congrFun (congr (congr (congr (congr (Eq.refl (MakeF_l1 (R := Out) fuel n m n2 n3)) (funext fun x0 => funext fun x1 => funext fun x2 => funext fun x3 => funext fun x4 => funext fun x5 => (MakeF_s26_eq fuel  n2 n m n3 x0 x1 x2 x3 x4 x5).trans (congr (Eq.refl (MakeF_s26 (R := Out) n2 n m n3 x0 x1 x2 x3 x4 x5)) (funext fun a2 => funext fun a3 => (MakeF_l13_eq fuel n2 n m n3 x0 x1 x2 x3 x4 x5 (kont (qc2 fuel) qc28 qc27 12 (endK Tryd.prog 0 0 14)) fuel a2 a3).trans (congrFun (congrFun (congrFun (congr (congr (Eq.refl (MakeF_l13 (R := Out) fuel n2 n m n3 x0 x1 x2 x3 x4 x5)) (funext fun x6 => funext fun x7 => (MakeF_s29_eq fuel  x4 x0 x5 x1 x7 x6 n m n2 n3 x2 x3))) ((MakeF_s30_eq fuel  x4 x0 x5 x1 n m n2 n3 x2 x3))) fuel) a2) a3))))) (funext fun x8 => funext fun x9 => funext fun x10 => funext fun x11 => funext fun x12 => funext fun x13 => funext fun x14 => funext fun x15 => (MakeF_s31_eq fuel  n2 n m n3 x8 x9 x10 x11 x12 x13 x14 x15).trans (congr (Eq.refl (MakeF_s31 (R := Out) n2 n m n3 x8 x9 x10 x11 x12 x13 x14 x15)) (funext fun a4 => funext fun a5 => (MakeF_l15_eq fuel n2 n m n3 x8 x9 x10 x11 x12 x13 x14 x15 (kont (qc2 fuel) qc28 qc27 12 (endK Tryd.prog 0 0 14)) fuel a4 a5).trans (congrFun (congrFun (congrFun (congr (congr (Eq.refl (MakeF_l15 (R := Out) fuel n2 n m n3 x8 x9 x10 x11 x12 x13 x14 x15)) (funext fun x16 => funext fun x17 => (MakeF_s34_eq fuel  x13 x8 x14 x9 x15 x10 x17 x16 n m n2 n3 x11 x12))) ((MakeF_s35_eq fuel  x13 x8 x14 x9 x15 x10 n m n2 n3 x11 x12))) fuel) a4) a5))))) (funext fun x18 => funext fun x19 => (MakeF_s36_eq fuel  n2 n m n3 x18 x19).trans (congr (Eq.refl (MakeF_s36 (R := Out) n2 n m n3 x18 x19)) (funext fun a6 => funext fun a7 => (MakeF_l17_eq fuel n2 n m n3 x18 x19 (kont (qc2 fuel) qc28 qc27 12 (endK Tryd.prog 0 0 14)) fuel a6 a7).trans (congrFun (congrFun (congrFun (congr (congr (Eq.refl (MakeF_l17 (R := Out) fuel n2 n m n3 x18 x19)) (funext fun x20 => funext fun x21 => (MakeF_s39_eq fuel  x21 x20 n m n2 n3 x18 x19))) ((MakeF_s40_eq fuel  n m n2 n3 x18 x19))) fuel) a6) a7))))) (funext fun x22 => funext fun x23 => funext fun x24 => funext fun x25 => (MakeF_s41_eq fuel  n2 n m n3 x22 x23 x24 x25).trans (congr (Eq.refl (MakeF_s41 (R := Out) n2 n m n3 x22 x23 x24 x25)) (funext fun a8 => funext fun a9 => (MakeF_l19_eq fuel n2 n m n3 x22 x23 x24 x25 (kont (qc2 fuel) qc28 qc27 12 (endK Tryd.prog 0 0 14)) fuel a8 a9).trans (congrFun (congrFun (congrFun (congr (congr (Eq.refl (MakeF_l19 (R := Out) fuel n2 n m n3 x22 x23 x24 x25)) (funext fun x26 => funext fun x27 => (MakeF_s44_eq fuel  x25 x22 x27 x26 n m n2 n3 x23 x24))) ((MakeF_s45_eq fuel  x25 x22 n m n2 n3 x23 x24))) fuel) a8) a9))))) fuel) a0) a1)))
theorem Make_i00 {R : Type} (fuel N : Nat) (p n len : Int) (m : List Rw) (n2 n3 : Nat) (r c : List Int) (k0 : List Int → Bool → Int → Bool → Int → Bool → List Int → Option R) (b1 b2 : Bool) (l : List Int) (hl : l.length ≤ 64) (hr : ∀ i, i ∈ l → 0 ≤ i ∧ i < (N : Int)) : ∀ (k j : Nat) (cs : List Int) (M : Int), j ≤ l.length → l.length < j + k → cs.length = N → 0 ≤ M → M + (l.length : Int) ≤ 100000 + (j : Int) → (∀ x, x ∈ cs → 0 ≤ x ∧ x ≤ M) →
    MakeF_l3 fuel N p n m len n2 n3 r c k0 k l b1 (l.length : Int) b2 (j : Int) cs = k0 l b1 (l.length : Int) b2 (l.length : Int) (decide ((l.length : Int) < (l.length : Int))) (addL cs (l.drop j))
  | 0, j, cs, M, h1, h2, _, _, _, _ => by omega
  | k + 1, j, cs, M, h1, h2, h3, h4, h5, h6 => by
    unfold MakeF_l3 MakeF_s4
    rw [br_if]
    by_cases hc : j < l.length
    · have hj := hr _ (List.getElem_mem hc)
      obtain ⟨i, hi⟩ : ∃ i : Nat, l[j] = (i : Int) := ⟨(l[j]).toNat, by omega⟩
      have hiN : i < cs.length := by omega
      have ei : ix l (j : Int) = some (i : Int) := by rw [ix_nat, List.getElem?_eq_getElem hc, hi]
      have eb : below (i : Int) N = some i := by rw [below_of (by omega) (by omega)]; rfl
      have ec : cs[0 + i]? = some cs[i] := by rw [Nat.zero_add]; exact List.getElem?_eq_getElem hiN
      have hv := h6 _ (List.getElem_mem hiN)
      rw [if_pos (by simpa using hc), bnd_of ei, bnd_of eb, bnd_of ec, bnd_of eb, bnd_of ec, Nat.zero_add, wrap_i64 (by omega) (by omega), wrap_i64 (by omega) (by omega), show (j : Int) + 1 = ((j + 1 : Nat) : Int) by omega, List.drop_eq_getElem_cons hc, hi]
      have e1 : addL cs ((i : Int) :: l.drop (j + 1)) = addL (cs.set i (cs[i] + 1)) (l.drop (j + 1)) := by
        show addL (cs.set ((i : Int).toNat) (cs.getD ((i : Int).toNat) 0 + 1)) (l.drop (j + 1)) = _
        rw [Int.toNat_natCast, List.getD_eq_getElem?_getD, List.getElem?_eq_getElem hiN]; rfl
      rw [e1]
      exact Make_i00 fuel N p n len m n2 n3 r c k0 b1 b2 l hl hr k (j + 1) (cs.set i (cs[i] + 1)) (M + 1) (by omega) (by omega) (by rw [List.length_set]; exact h3) (by omega) (by omega) (set_bound h6 (by omega))
    · have e : j = l.length := by omega
      subst e
      rw [if_neg (by simp), List.drop_length]
      rfl
theorem Make_at00 {R : Type} (fuel N : Nat) (hf : 64 < fuel) (m : List Rw) (n2 n3 : Nat) (r c : List Int) (k0 : Int → List Int → Int → Bool → Int → Bool → Int → Int → Nat → Nat → List Int → List Int → List Int → List Int → List Int → Option R) (k1 : Int → Int → Bool → List Int → Option R) (hok : ∀ p : Nat, p < m.length → actOk (N : Int) m r c (p : Int) = true) (hn2 : n2 = r.length) (hn3 : n3 = c.length) (hm : m.length ≤ 64) : ∀ (k p : Nat) (cs : List Int), p ≤ m.length → m.length < p + k → cs.length = N → (∀ x, x ∈ cs → 0 ≤ x ∧ x ≤ 64 * (p : Int)) →
    (∃ q i : Nat, oneFrom m r c (m.length - p) p = some q ∧ actS m r c (q : Int) = [(i : Int)] ∧ ∃ y1 y2 y3 y4 y5 y6 y7 y8 y9 y10 y15, MakeF_l2 fuel N (N : Int) m n2 n3 r c k0 k1 k (m.length : Int) (p : Int) cs = k0 y1 y2 y3 y4 y5 y6 y7 y8 y9 y10 (r.set q 1) (c.set i 1) [(q : Int)] [(i : Int)] y15) ∨ (oneFrom m r c (m.length - p) p = none ∧ ∃ z1 z2 z3, MakeF_l2 fuel N (N : Int) m n2 n3 r c k0 k1 k (m.length : Int) (p : Int) cs = k1 z1 z2 z3 (cntFrom m r c (m.length - p) p cs))
  | 0, p, cs, h1, h2, _, _ => by omega
  | k + 1, p, cs, h1, h2, h3, h4 => by
    unfold MakeF_l2 MakeF_s3
    rw [br_if]
    by_cases hc : p < m.length
    · have ho := hok p hc
      obtain ⟨g1, g2⟩ := act_range ho
      obtain ⟨_, _, o1, o2, _, _⟩ := actOk_iff.1 ho
      rw [if_pos (by simpa using hc), grd_of (by rw [ho, hn2, hn3]; simp), br_if, show m.length - p = (m.length - (p + 1)) + 1 by omega, oneFrom, cntFrom]
      by_cases h : (actS m r c (p : Int)).length = 1
      · rw [if_pos h]
        refine .inl ?_
        obtain ⟨x, hx⟩ : ∃ x, actS m r c (p : Int) = [x] := List.length_eq_one_iff.1 h
        obtain ⟨g3, g4⟩ := g2 x (by rw [hx]; exact List.mem_cons_self)
        obtain ⟨i, rfl⟩ : ∃ i : Nat, x = (i : Int) := ⟨x.toNat, by omega⟩
        have hi : i < c.length := by omega
        have ei : ix [(i : Int)] 0 = some (i : Int) := rfl
        have eb : below (p : Int) n2 = some p := by rw [below_of (by omega) (by omega)]; rfl
        have er : r[0 + p]? = some (r[p]'(by omega)) := by rw [Nat.zero_add]; exact List.getElem?_eq_getElem (by omega)
        have eb2 : below (i : Int) n3 = some i := by rw [below_of (by omega) (by omega)]; rfl
        have ec : c[0 + i]? = some c[i] := by rw [Nat.zero_add]; exact List.getElem?_eq_getElem hi
        refine ⟨p, i, rfl, hx, ?_⟩
        rw [if_pos (by rw [h]; rfl), hx, bnd_of ei, bnd_of ei, bnd_of eb, bnd_of er, bnd_of eb2, bnd_of ec, Nat.zero_add, Nat.zero_add]
        exact ⟨_, _, _, _, _, _, _, _, _, _, _, rfl⟩
      · rw [if_neg h, if_neg (by simp; omega)]
        dsimp only
        have hit := Make_i00 (R := R) fuel N (p : Int) (N : Int) (m.length : Int) m n2 n3 r c
        have hab := addL_bound (actS m r c (p : Int)) cs (64 * (p : Int)) (by omega) h4
        have hin := fun k0 => hit k0 (decide ((p : Int) < (m.length : Int))) (((((actS m r c (p : Int)).length : Nat) : Int) : Int) == 1) (actS m r c (p : Int)) g1 (fun i hi => (g2 i hi).1) fuel 0 cs (64 * (p : Int)) (by omega) (by omega) h3 (by omega) (by omega) h4
        rw [show ((0 : Nat) : Int) = 0 from rfl, List.drop_zero] at hin
        rw [hin]
        unfold MakeF_s5
        dsimp only
        rw [wrap_i64 (by omega) (by omega), show (p : Int) + 1 = ((p + 1 : Nat) : Int) by omega]
        exact Make_at00 fuel N hf m n2 n3 r c k0 k1 hok hn2 hn3 hm k (p + 1) (addL cs (actS m r c (p : Int))) (by omega) (by omega) (by rw [addL_len]; exact h3) (fun x hx => by have := hab x hx; omega)
    · have e : p = m.length := by omega
      subst e
      rw [if_neg (by simp), Nat.sub_self]
      exact .inr ⟨rfl, _, _, _, rfl⟩
theorem Make_e00 {R : Type} (fuel N : Nat) (hf : 64 < fuel) (m : List Rw) (n2 n3 : Nat) (r c : List Int) (k0 : Int → List Int → Int → Bool → Int → Bool → Int → Int → Nat → Nat → List Int → List Int → List Int → List Int → List Int → Option R) (k1 : Int → Int → Bool → List Int → Option R) (hI : MInv (N : Int) m [] [] [] r c) (hn2 : n2 = r.length) (hn3 : n3 = c.length) (X : Option R)
    (hF : ∀ (q i : Nat) y1 y2 y3 y4 y5 y6 y7 y8 y9 y10 y15, oneFrom m r c m.length 0 = some q → actS m r c (q : Int) = [(i : Int)] → opens (c.set i 1) + 1 = opens c → MInv (N : Int) m [] ([] ++ [(q : Int)]) ([] ++ [(i : Int)]) (r.set q 1) (c.set i 1) → k0 y1 y2 y3 y4 y5 y6 y7 y8 y9 y10 (r.set q 1) (c.set i 1) [(q : Int)] [(i : Int)] y15 = X)
    (hS : oneFrom m r c m.length 0 = none → mostS (cntS (N : Int) m r c) < 0 → ∀ z1 z2 z3, k1 z1 z2 z3 (cntS (N : Int) m r c) = X)
    (hM : ∀ i : Nat, oneFrom m r c m.length 0 = none → mostS (cntS (N : Int) m r c) = (i : Int) → i < c.length → opens (c.set i 1) + 1 = opens c → MInv (N : Int) m ([] ++ [(i : Int)]) [] [] r (c.set i 1) → ∀ z1 z2 z3, k1 z1 z2 z3 (cntS (N : Int) m r c) = X) :
    MakeF_l2 fuel N (N : Int) m n2 n3 r c k0 k1 fuel (m.length : Int) 0 (List.replicate N 0) = X := by
  obtain ⟨_, hml, _⟩ := mrt_iff.1 hI.may
  have hal := hI.al
  have hbl := hI.bl
  have hbd := hI.bd
  have hat := Make_at00 (R := R) fuel N hf m n2 n3 r c k0 k1 (fun p hp => hI.act hp) hn2 hn3 hml fuel 0 (List.replicate N 0) (by omega) (by omega) (by simp) (fun x hx => by rw [List.eq_of_mem_replicate hx]; decide)
  have hc : cntFrom m r c (m.length - 0) 0 (List.replicate N 0) = cntS (N : Int) m r c := by unfold cntS; rw [Int.toNat_natCast]; rfl
  rw [hc, Nat.sub_zero] at hat
  rcases hat with ⟨q, i, h1, h2, y1, y2, y3, y4, y5, y6, y7, y8, y9, y10, y15, h3⟩ | ⟨h1, z1, z2, z3, h3⟩
  · refine h3.trans ?_
    obtain ⟨_, i', g1, _, g3, g4⟩ := hI.one h1
    rw [h2] at g1
    have e : i' = i := by have := (List.cons.inj g1).1; omega
    subst e
    exact hF q i' y1 y2 y3 y4 y5 y6 y7 y8 y9 y10 y15 h1 h2 g3 g4
  · refine h3.trans ?_
    by_cases hm : mostS (cntS (N : Int) m r c) < 0
    · exact hS h1 hm z1 z2 z3
    · obtain ⟨i, g1, g2, g3, g4⟩ := hI.most hm
      exact hM i h1 g1 g2 g3 g4 z1 z2 z3
theorem Make_core00 {R : Type} (fuel : Nat) (m : List Rw) (n : Int) (n3 : Nat) (r c : List Int) (hx : r.length ≤ 64) (k0 : Nat → List Int → Option R) : ∀ (k j : Nat) (a' : List Int), j ≤ r.length → r.length < j + k → a'.length ≤ j →
    MakeF_l18 fuel r.length (r.length : Int) n m n3 r c k0 k (j : Int) a'.length a' = k0 (a' ++ openFrom (r.drop j) (j : Int)).length (a' ++ openFrom (r.drop j) (j : Int))
  | 0, j, a', h1, h2, _ => by omega
  | k + 1, j, a', h1, h2, h3 => by
    unfold MakeF_l18 MakeF_s38
    rw [br_if]
    by_cases hc : j < r.length
    · have eb : below (j : Int) r.length = some j := by rw [below_of (by omega) (by omega)]; rfl
      have el : r[0 + j]? = some r[j] := by rw [Nat.zero_add]; exact List.getElem?_eq_getElem hc
      rw [if_pos (by simpa using hc), bnd_of eb, bnd_of el, br_if, List.drop_eq_getElem_cons hc, openFrom, wrap_i64 (by omega) (by omega), show (j : Int) + 1 = ((j + 1 : Nat) : Int) by omega]
      by_cases h : r[j] = 0
      · rw [if_pos (by simpa using h), if_pos h, grd_of (beq_self _), grd_of (okN_of (by omega) (by omega))]
        have := Make_core00 fuel m n n3 r c hx k0 k (j + 1) (a' ++ [(j : Int)]) (by omega) (by omega) (by simp; omega)
        rw [List.append_assoc] at this
        exact this
      · rw [if_neg (by simpa using h), if_neg h]
        exact Make_core00 fuel m n n3 r c hx k0 k (j + 1) a' (by omega) (by omega) (by omega)
    · rw [if_neg (by simpa using hc), List.drop_eq_nil_of_le (by omega), openFrom, List.append_nil]
theorem Make_fst00 {R : Type} (fuel : Nat) (m : List Rw) (n : Int) (n3 : Nat) (r c : List Int) (hx : r.length ≤ 64) (k0 : Nat → List Int → Option R) (k1 : Option R) : ∀ (k j : Nat), j ≤ r.length → r.length < j + k →
    MakeF_l17 fuel r.length n m n3 r c k0 k1 k (r.length : Int) (j : Int) = if (openFrom (r.drop j) (j : Int)).length = 0 then k1 else k0 (openFrom (r.drop j) (j : Int)).length (openFrom (r.drop j) (j : Int))
  | 0, j, h1, h2 => by omega
  | k + 1, j, h1, h2 => by
    unfold MakeF_l17 MakeF_s37
    rw [br_if]
    by_cases hc : j < r.length
    · have eb : below (j : Int) r.length = some j := by rw [below_of (by omega) (by omega)]; rfl
      have el : r[0 + j]? = some r[j] := by rw [Nat.zero_add]; exact List.getElem?_eq_getElem hc
      rw [if_pos (by simpa using hc), bnd_of eb, bnd_of el, br_if, List.drop_eq_getElem_cons hc, openFrom, wrap_i64 (by omega) (by omega), show (j : Int) + 1 = ((j + 1 : Nat) : Int) by omega]
      by_cases h : r[j] = 0
      · rw [if_pos (by simpa using h), if_pos h, if_neg (by simp)]
        cases k with
        | zero => omega
        | succ k => exact Make_core00 fuel m n n3 r c hx _ (k + 1) (j + 1) [(j : Int)] (by omega) (by omega) (by simp)
      · rw [if_neg (by simpa using h), if_neg h]
        exact Make_fst00 fuel m n n3 r c hx k0 k1 k (j + 1) (by omega) (by omega)
    · rw [if_neg (by simpa using hc), List.drop_eq_nil_of_le (by omega), if_pos (by rfl)]
theorem Make_i01 {R : Type} (fuel N : Nat) (p n len : Int) (m : List Rw) (n2 n3 : Nat) (r c b d : List Int) (k0 : List Int → Bool → Int → Bool → Int → Bool → List Int → Option R) (b1 b2 : Bool) (l : List Int) (hl : l.length ≤ 64) (hr : ∀ i, i ∈ l → 0 ≤ i ∧ i < (N : Int)) : ∀ (k j : Nat) (cs : List Int) (M : Int), j ≤ l.length → l.length < j + k → cs.length = N → 0 ≤ M → M + (l.length : Int) ≤ 100000 + (j : Int) → (∀ x, x ∈ cs → 0 ≤ x ∧ x ≤ M) →
    MakeF_l6 fuel N p n m len n2 n3 b.length d.length r c b d k0 k l b1 (l.length : Int) b2 (j : Int) cs = k0 l b1 (l.length : Int) b2 (l.length : Int) (decide ((l.length : Int) < (l.length : Int))) (addL cs (l.drop j))
  | 0, j, cs, M, h1, h2, _, _, _, _ => by omega
  | k + 1, j, cs, M, h1, h2, h3, h4, h5, h6 => by
    unfold MakeF_l6 MakeF_s9
    rw [br_if]
    by_cases hc : j < l.length
    · have hj := hr _ (List.getElem_mem hc)
      obtain ⟨i, hi⟩ : ∃ i : Nat, l[j] = (i : Int) := ⟨(l[j]).toNat, by omega⟩
      have hiN : i < cs.length := by omega
      have ei : ix l (j : Int) = some (i : Int) := by rw [ix_nat, List.getElem?_eq_getElem hc, hi]
      have eb : below (i : Int) N = some i := by rw [below_of (by omega) (by omega)]; rfl
      have ec : cs[0 + i]? = some cs[i] := by rw [Nat.zero_add]; exact List.getElem?_eq_getElem hiN
      have hv := h6 _ (List.getElem_mem hiN)
      rw [if_pos (by simpa using hc), bnd_of ei, bnd_of eb, bnd_of ec, bnd_of eb, bnd_of ec, Nat.zero_add, wrap_i64 (by omega) (by omega), wrap_i64 (by omega) (by omega), show (j : Int) + 1 = ((j + 1 : Nat) : Int) by omega, List.drop_eq_getElem_cons hc, hi]
      have e1 : addL cs ((i : Int) :: l.drop (j + 1)) = addL (cs.set i (cs[i] + 1)) (l.drop (j + 1)) := by
        show addL (cs.set ((i : Int).toNat) (cs.getD ((i : Int).toNat) 0 + 1)) (l.drop (j + 1)) = _
        rw [Int.toNat_natCast, List.getD_eq_getElem?_getD, List.getElem?_eq_getElem hiN]; rfl
      rw [e1]
      exact Make_i01 fuel N p n len m n2 n3 r c b d k0 b1 b2 l hl hr k (j + 1) (cs.set i (cs[i] + 1)) (M + 1) (by omega) (by omega) (by rw [List.length_set]; exact h3) (by omega) (by omega) (set_bound h6 (by omega))
    · have e : j = l.length := by omega
      subst e
      rw [if_neg (by simp), List.drop_length]
      rfl
theorem Make_at01 {R : Type} (fuel N : Nat) (hf : 64 < fuel) (m : List Rw) (n2 n3 : Nat) (r c b d : List Int) (k0 : Int → List Int → Int → Bool → Int → Bool → Nat → Int → Nat → Int → Nat → Nat → List Int → List Int → List Int → List Int → List Int → List Int → List Int → Option R) (k1 : Int → Int → Bool → List Int → Option R) (hok : ∀ p : Nat, p < m.length → actOk (N : Int) m r c (p : Int) = true) (hn2 : n2 = r.length) (hn3 : n3 = c.length) (hm : m.length ≤ 64) (hb : b.length ≤ 64) (hd : d.length ≤ 64) : ∀ (k p : Nat) (cs : List Int), p ≤ m.length → m.length < p + k → cs.length = N → (∀ x, x ∈ cs → 0 ≤ x ∧ x ≤ 64 * (p : Int)) →
    (∃ q i : Nat, oneFrom m r c (m.length - p) p = some q ∧ actS m r c (q : Int) = [(i : Int)] ∧ ∃ y1 y2 y3 y4 y5 y6 y8 y10 y11 y12 y17 y18 y19, MakeF_l5 fuel N (N : Int) m n2 n3 b.length d.length r c b d k0 k1 k (m.length : Int) (p : Int) cs = k0 y1 y2 y3 y4 y5 y6 (b ++ [(q : Int)]).length y8 (d ++ [(i : Int)]).length y10 y11 y12 (r.set q 1) (c.set i 1) (b ++ [(q : Int)]) (d ++ [(i : Int)]) y17 y18 y19) ∨ (oneFrom m r c (m.length - p) p = none ∧ ∃ z1 z2 z3, MakeF_l5 fuel N (N : Int) m n2 n3 b.length d.length r c b d k0 k1 k (m.length : Int) (p : Int) cs = k1 z1 z2 z3 (cntFrom m r c (m.length - p) p cs))
  | 0, p, cs, h1, h2, _, _ => by omega
  | k + 1, p, cs, h1, h2, h3, h4 => by
    unfold MakeF_l5 MakeF_s8
    rw [br_if]
    by_cases hc : p < m.length
    · have ho := hok p hc
      obtain ⟨g1, g2⟩ := act_range ho
      obtain ⟨_, _, o1, o2, _, _⟩ := actOk_iff.1 ho
      rw [if_pos (by simpa using hc), grd_of (by rw [ho, hn2, hn3]; simp), br_if, show m.length - p = (m.length - (p + 1)) + 1 by omega, oneFrom, cntFrom]
      by_cases h : (actS m r c (p : Int)).length = 1
      · rw [if_pos h]
        refine .inl ?_
        obtain ⟨x, hx⟩ : ∃ x, actS m r c (p : Int) = [x] := List.length_eq_one_iff.1 h
        obtain ⟨g3, g4⟩ := g2 x (by rw [hx]; exact List.mem_cons_self)
        obtain ⟨i, rfl⟩ : ∃ i : Nat, x = (i : Int) := ⟨x.toNat, by omega⟩
        have hi : i < c.length := by omega
        have ei : ix [(i : Int)] 0 = some (i : Int) := rfl
        have eb : below (p : Int) n2 = some p := by rw [below_of (by omega) (by omega)]; rfl
        have er : r[0 + p]? = some (r[p]'(by omega)) := by rw [Nat.zero_add]; exact List.getElem?_eq_getElem (by omega)
        have eb2 : below (i : Int) n3 = some i := by rw [below_of (by omega) (by omega)]; rfl
        have ec : c[0 + i]? = some c[i] := by rw [Nat.zero_add]; exact List.getElem?_eq_getElem hi
        refine ⟨p, i, rfl, hx, ?_⟩
        rw [if_pos (by rw [h]; rfl), hx, grd_of (beq_self _), grd_of (okN_of (by omega) (by omega)), bnd_of ei, grd_of (beq_self _), grd_of (okN_of (by omega) (by omega)), bnd_of ei, bnd_of eb, bnd_of er, bnd_of eb2, bnd_of ec, Nat.zero_add, Nat.zero_add]
        exact ⟨_, _, _, _, _, _, _, _, _, _, _, _, _, rfl⟩
      · rw [if_neg h, if_neg (by simp; omega)]
        dsimp only
        have hit := Make_i01 (R := R) fuel N (p : Int) (N : Int) (m.length : Int) m n2 n3 r c b d
        have hab := addL_bound (actS m r c (p : Int)) cs (64 * (p : Int)) (by omega) h4
        have hin := fun k0 => hit k0 (decide ((p : Int) < (m.length : Int))) (((((actS m r c (p : Int)).length : Nat) : Int) : Int) == 1) (actS m r c (p : Int)) g1 (fun i hi => (g2 i hi).1) fuel 0 cs (64 * (p : Int)) (by omega) (by omega) h3 (by omega) (by omega) h4
        rw [show ((0 : Nat) : Int) = 0 from rfl, List.drop_zero] at hin
        rw [hin]
        unfold MakeF_s10
        dsimp only
        rw [wrap_i64 (by omega) (by omega), show (p : Int) + 1 = ((p + 1 : Nat) : Int) by omega]
        exact Make_at01 fuel N hf m n2 n3 r c b d k0 k1 hok hn2 hn3 hm hb hd k (p + 1) (addL cs (actS m r c (p : Int))) (by omega) (by omega) (by rw [addL_len]; exact h3) (fun x hx => by have := hab x hx; omega)
    · have e : p = m.length := by omega
      subst e
      rw [if_neg (by simp), Nat.sub_self]
      exact .inr ⟨rfl, _, _, _, rfl⟩
theorem Make_e01 {R : Type} (fuel N : Nat) (hf : 64 < fuel) (m : List Rw) (n2 n3 : Nat) (r c b d : List Int) (k0 : Int → List Int → Int → Bool → Int → Bool → Nat → Int → Nat → Int → Nat → Nat → List Int → List Int → List Int → List Int → List Int → List Int → List Int → Option R) (k1 : Int → Int → Bool → List Int → Option R) (hI : MInv (N : Int) m [] b d r c) (hn2 : n2 = r.length) (hn3 : n3 = c.length) (X : Option R)
    (hF : ∀ (q i : Nat) y1 y2 y3 y4 y5 y6 y8 y10 y11 y12 y17 y18 y19, oneFrom m r c m.length 0 = some q → actS m r c (q : Int) = [(i : Int)] → opens (c.set i 1) + 1 = opens c → MInv (N : Int) m [] (b ++ [(q : Int)]) (d ++ [(i : Int)]) (r.set q 1) (c.set i 1) → k0 y1 y2 y3 y4 y5 y6 (b ++ [(q : Int)]).length y8 (d ++ [(i : Int)]).length y10 y11 y12 (r.set q 1) (c.set i 1) (b ++ [(q : Int)]) (d ++ [(i : Int)]) y17 y18 y19 = X)
    (hS : oneFrom m r c m.length 0 = none → mostS (cntS (N : Int) m r c) < 0 → ∀ z1 z2 z3, k1 z1 z2 z3 (cntS (N : Int) m r c) = X)
    (hM : ∀ i : Nat, oneFrom m r c m.length 0 = none → mostS (cntS (N : Int) m r c) = (i : Int) → i < c.length → opens (c.set i 1) + 1 = opens c → MInv (N : Int) m ([] ++ [(i : Int)]) b d r (c.set i 1) → ∀ z1 z2 z3, k1 z1 z2 z3 (cntS (N : Int) m r c) = X) :
    MakeF_l5 fuel N (N : Int) m n2 n3 b.length d.length r c b d k0 k1 fuel (m.length : Int) 0 (List.replicate N 0) = X := by
  obtain ⟨_, hml, _⟩ := mrt_iff.1 hI.may
  have hal := hI.al
  have hbl := hI.bl
  have hbd := hI.bd
  have hat := Make_at01 (R := R) fuel N hf m n2 n3 r c b d k0 k1 (fun p hp => hI.act hp) hn2 hn3 hml (by omega) (by omega) fuel 0 (List.replicate N 0) (by omega) (by omega) (by simp) (fun x hx => by rw [List.eq_of_mem_replicate hx]; decide)
  have hc : cntFrom m r c (m.length - 0) 0 (List.replicate N 0) = cntS (N : Int) m r c := by unfold cntS; rw [Int.toNat_natCast]; rfl
  rw [hc, Nat.sub_zero] at hat
  rcases hat with ⟨q, i, h1, h2, y1, y2, y3, y4, y5, y6, y8, y10, y11, y12, y17, y18, y19, h3⟩ | ⟨h1, z1, z2, z3, h3⟩
  · refine h3.trans ?_
    obtain ⟨_, i', g1, _, g3, g4⟩ := hI.one h1
    rw [h2] at g1
    have e : i' = i := by have := (List.cons.inj g1).1; omega
    subst e
    exact hF q i' y1 y2 y3 y4 y5 y6 y8 y10 y11 y12 y17 y18 y19 h1 h2 g3 g4
  · refine h3.trans ?_
    by_cases hm : mostS (cntS (N : Int) m r c) < 0
    · exact hS h1 hm z1 z2 z3
    · obtain ⟨i, g1, g2, g3, g4⟩ := hI.most hm
      exact hM i h1 g1 g2 g3 g4 z1 z2 z3
theorem Make_core01 {R : Type} (fuel : Nat) (m : List Rw) (n : Int) (n3 : Nat) (xb xd : Nat) (r c b d : List Int) (hx : r.length ≤ 64) (k0 : Nat → List Int → Option R) : ∀ (k j : Nat) (a' : List Int), j ≤ r.length → r.length < j + k → a'.length ≤ j →
    MakeF_l14 fuel r.length (r.length : Int) n m n3 xb xd r c b d k0 k (j : Int) a'.length a' = k0 (a' ++ openFrom (r.drop j) (j : Int)).length (a' ++ openFrom (r.drop j) (j : Int))
  | 0, j, a', h1, h2, _ => by omega
  | k + 1, j, a', h1, h2, h3 => by
    unfold MakeF_l14 MakeF_s28
    rw [br_if]
    by_cases hc : j < r.length
    · have eb : below (j : Int) r.length = some j := by rw [below_of (by omega) (by omega)]; rfl
      have el : r[0 + j]? = some r[j] := by rw [Nat.zero_add]; exact List.getElem?_eq_getElem hc
      rw [if_pos (by simpa using hc), bnd_of eb, bnd_of el, br_if, List.drop_eq_getElem_cons hc, openFrom, wrap_i64 (by omega) (by omega), show (j : Int) + 1 = ((j + 1 : Nat) : Int) by omega]
      by_cases h : r[j] = 0
      · rw [if_pos (by simpa using h), if_pos h, grd_of (beq_self _), grd_of (okN_of (by omega) (by omega))]
        have := Make_core01 fuel m n n3 xb xd r c b d hx k0 k (j + 1) (a' ++ [(j : Int)]) (by omega) (by omega) (by simp; omega)
        rw [List.append_assoc] at this
        exact this
      · rw [if_neg (by simpa using h), if_neg h]
        exact Make_core01 fuel m n n3 xb xd r c b d hx k0 k (j + 1) a' (by omega) (by omega) (by omega)
    · rw [if_neg (by simpa using hc), List.drop_eq_nil_of_le (by omega), openFrom, List.append_nil]
theorem Make_fst01 {R : Type} (fuel : Nat) (m : List Rw) (n : Int) (n3 : Nat) (xb xd : Nat) (r c b d : List Int) (hx : r.length ≤ 64) (k0 : Nat → List Int → Option R) (k1 : Option R) : ∀ (k j : Nat), j ≤ r.length → r.length < j + k →
    MakeF_l13 fuel r.length n m n3 xb xd r c b d k0 k1 k (r.length : Int) (j : Int) = if (openFrom (r.drop j) (j : Int)).length = 0 then k1 else k0 (openFrom (r.drop j) (j : Int)).length (openFrom (r.drop j) (j : Int))
  | 0, j, h1, h2 => by omega
  | k + 1, j, h1, h2 => by
    unfold MakeF_l13 MakeF_s27
    rw [br_if]
    by_cases hc : j < r.length
    · have eb : below (j : Int) r.length = some j := by rw [below_of (by omega) (by omega)]; rfl
      have el : r[0 + j]? = some r[j] := by rw [Nat.zero_add]; exact List.getElem?_eq_getElem hc
      rw [if_pos (by simpa using hc), bnd_of eb, bnd_of el, br_if, List.drop_eq_getElem_cons hc, openFrom, wrap_i64 (by omega) (by omega), show (j : Int) + 1 = ((j + 1 : Nat) : Int) by omega]
      by_cases h : r[j] = 0
      · rw [if_pos (by simpa using h), if_pos h, if_neg (by simp)]
        cases k with
        | zero => omega
        | succ k => exact Make_core01 fuel m n n3 xb xd r c b d hx _ (k + 1) (j + 1) [(j : Int)] (by omega) (by omega) (by simp)
      · rw [if_neg (by simpa using h), if_neg h]
        exact Make_fst01 fuel m n n3 xb xd r c b d hx k0 k1 k (j + 1) (by omega) (by omega)
    · rw [if_neg (by simpa using hc), List.drop_eq_nil_of_le (by omega), if_pos (by rfl)]
theorem Make_i11 {R : Type} (fuel N : Nat) (p n len : Int) (m : List Rw) (n2 n3 : Nat) (r c a b d : List Int) (k0 : List Int → Bool → Int → Bool → Int → Bool → List Int → Option R) (b1 b2 : Bool) (l : List Int) (hl : l.length ≤ 64) (hr : ∀ i, i ∈ l → 0 ≤ i ∧ i < (N : Int)) : ∀ (k j : Nat) (cs : List Int) (M : Int), j ≤ l.length → l.length < j + k → cs.length = N → 0 ≤ M → M + (l.length : Int) ≤ 100000 + (j : Int) → (∀ x, x ∈ cs → 0 ≤ x ∧ x ≤ M) →
    MakeF_l9 fuel N p n m len n2 n3 a.length b.length d.length r c a b d k0 k l b1 (l.length : Int) b2 (j : Int) cs = k0 l b1 (l.length : Int) b2 (l.length : Int) (decide ((l.length : Int) < (l.length : Int))) (addL cs (l.drop j))
  | 0, j, cs, M, h1, h2, _, _, _, _ => by omega
  | k + 1, j, cs, M, h1, h2, h3, h4, h5, h6 => by
    unfold MakeF_l9 MakeF_s15
    rw [br_if]
    by_cases hc : j < l.length
    · have hj := hr _ (List.getElem_mem hc)
      obtain ⟨i, hi⟩ : ∃ i : Nat, l[j] = (i : Int) := ⟨(l[j]).toNat, by omega⟩
      have hiN : i < cs.length := by omega
      have ei : ix l (j : Int) = some (i : Int) := by rw [ix_nat, List.getElem?_eq_getElem hc, hi]
      have eb : below (i : Int) N = some i := by rw [below_of (by omega) (by omega)]; rfl
      have ec : cs[0 + i]? = some cs[i] := by rw [Nat.zero_add]; exact List.getElem?_eq_getElem hiN
      have hv := h6 _ (List.getElem_mem hiN)
      rw [if_pos (by simpa using hc), bnd_of ei, bnd_of eb, bnd_of ec, bnd_of eb, bnd_of ec, Nat.zero_add, wrap_i64 (by omega) (by omega), wrap_i64 (by omega) (by omega), show (j : Int) + 1 = ((j + 1 : Nat) : Int) by omega, List.drop_eq_getElem_cons hc, hi]
      have e1 : addL cs ((i : Int) :: l.drop (j + 1)) = addL (cs.set i (cs[i] + 1)) (l.drop (j + 1)) := by
        show addL (cs.set ((i : Int).toNat) (cs.getD ((i : Int).toNat) 0 + 1)) (l.drop (j + 1)) = _
        rw [Int.toNat_natCast, List.getD_eq_getElem?_getD, List.getElem?_eq_getElem hiN]; rfl
      rw [e1]
      exact Make_i11 fuel N p n len m n2 n3 r c a b d k0 b1 b2 l hl hr k (j + 1) (cs.set i (cs[i] + 1)) (M + 1) (by omega) (by omega) (by rw [List.length_set]; exact h3) (by omega) (by omega) (set_bound h6 (by omega))
    · have e : j = l.length := by omega
      subst e
      rw [if_neg (by simp), List.drop_length]
      rfl
theorem Make_at11 {R : Type} (fuel N : Nat) (hf : 64 < fuel) (m : List Rw) (n2 n3 : Nat) (r c a b d : List Int) (k0 : Int → List Int → Int → Bool → Int → Bool → Nat → Int → Nat → Int → Nat → Nat → List Int → List Int → List Int → List Int → List Int → List Int → List Int → Option R) (k1 : Int → Int → Bool → List Int → Option R) (hok : ∀ p : Nat, p < m.length → actOk (N : Int) m r c (p : Int) = true) (hn2 : n2 = r.length) (hn3 : n3 = c.length) (hm : m.length ≤ 64) (hb : b.length ≤ 64) (hd : d.length ≤ 64) : ∀ (k p : Nat) (cs : List Int), p ≤ m.length → m.length < p + k → cs.length = N → (∀ x, x ∈ cs → 0 ≤ x ∧ x ≤ 64 * (p : Int)) →
    (∃ q i : Nat, oneFrom m r c (m.length - p) p = some q ∧ actS m r c (q : Int) = [(i : Int)] ∧ ∃ y1 y2 y3 y4 y5 y6 y8 y10 y11 y12 y17 y18 y19, MakeF_l8 fuel N (N : Int) m n2 n3 a.length b.length d.length r c a b d k0 k1 k (m.length : Int) (p : Int) cs = k0 y1 y2 y3 y4 y5 y6 (b ++ [(q : Int)]).length y8 (d ++ [(i : Int)]).length y10 y11 y12 (r.set q 1) (c.set i 1) (b ++ [(q : Int)]) (d ++ [(i : Int)]) y17 y18 y19) ∨ (oneFrom m r c (m.length - p) p = none ∧ ∃ z1 z2 z3, MakeF_l8 fuel N (N : Int) m n2 n3 a.length b.length d.length r c a b d k0 k1 k (m.length : Int) (p : Int) cs = k1 z1 z2 z3 (cntFrom m r c (m.length - p) p cs))
  | 0, p, cs, h1, h2, _, _ => by omega
  | k + 1, p, cs, h1, h2, h3, h4 => by
    unfold MakeF_l8 MakeF_s14
    rw [br_if]
    by_cases hc : p < m.length
    · have ho := hok p hc
      obtain ⟨g1, g2⟩ := act_range ho
      obtain ⟨_, _, o1, o2, _, _⟩ := actOk_iff.1 ho
      rw [if_pos (by simpa using hc), grd_of (by rw [ho, hn2, hn3]; simp), br_if, show m.length - p = (m.length - (p + 1)) + 1 by omega, oneFrom, cntFrom]
      by_cases h : (actS m r c (p : Int)).length = 1
      · rw [if_pos h]
        refine .inl ?_
        obtain ⟨x, hx⟩ : ∃ x, actS m r c (p : Int) = [x] := List.length_eq_one_iff.1 h
        obtain ⟨g3, g4⟩ := g2 x (by rw [hx]; exact List.mem_cons_self)
        obtain ⟨i, rfl⟩ : ∃ i : Nat, x = (i : Int) := ⟨x.toNat, by omega⟩
        have hi : i < c.length := by omega
        have ei : ix [(i : Int)] 0 = some (i : Int) := rfl
        have eb : below (p : Int) n2 = some p := by rw [below_of (by omega) (by omega)]; rfl
        have er : r[0 + p]? = some (r[p]'(by omega)) := by rw [Nat.zero_add]; exact List.getElem?_eq_getElem (by omega)
        have eb2 : below (i : Int) n3 = some i := by rw [below_of (by omega) (by omega)]; rfl
        have ec : c[0 + i]? = some c[i] := by rw [Nat.zero_add]; exact List.getElem?_eq_getElem hi
        refine ⟨p, i, rfl, hx, ?_⟩
        rw [if_pos (by rw [h]; rfl), hx, grd_of (beq_self _), grd_of (okN_of (by omega) (by omega)), bnd_of ei, grd_of (beq_self _), grd_of (okN_of (by omega) (by omega)), bnd_of ei, bnd_of eb, bnd_of er, bnd_of eb2, bnd_of ec, Nat.zero_add, Nat.zero_add]
        exact ⟨_, _, _, _, _, _, _, _, _, _, _, _, _, rfl⟩
      · rw [if_neg h, if_neg (by simp; omega)]
        dsimp only
        have hit := Make_i11 (R := R) fuel N (p : Int) (N : Int) (m.length : Int) m n2 n3 r c a b d
        have hab := addL_bound (actS m r c (p : Int)) cs (64 * (p : Int)) (by omega) h4
        have hin := fun k0 => hit k0 (decide ((p : Int) < (m.length : Int))) (((((actS m r c (p : Int)).length : Nat) : Int) : Int) == 1) (actS m r c (p : Int)) g1 (fun i hi => (g2 i hi).1) fuel 0 cs (64 * (p : Int)) (by omega) (by omega) h3 (by omega) (by omega) h4
        rw [show ((0 : Nat) : Int) = 0 from rfl, List.drop_zero] at hin
        rw [hin]
        unfold MakeF_s16
        dsimp only
        rw [wrap_i64 (by omega) (by omega), show (p : Int) + 1 = ((p + 1 : Nat) : Int) by omega]
        exact Make_at11 fuel N hf m n2 n3 r c a b d k0 k1 hok hn2 hn3 hm hb hd k (p + 1) (addL cs (actS m r c (p : Int))) (by omega) (by omega) (by rw [addL_len]; exact h3) (fun x hx => by have := hab x hx; omega)
    · have e : p = m.length := by omega
      subst e
      rw [if_neg (by simp), Nat.sub_self]
      exact .inr ⟨rfl, _, _, _, rfl⟩
theorem Make_e11 {R : Type} (fuel N : Nat) (hf : 64 < fuel) (m : List Rw) (n2 n3 : Nat) (r c a b d : List Int) (k0 : Int → List Int → Int → Bool → Int → Bool → Nat → Int → Nat → Int → Nat → Nat → List Int → List Int → List Int → List Int → List Int → List Int → List Int → Option R) (k1 : Int → Int → Bool → List Int → Option R) (hI : MInv (N : Int) m a b d r c) (hn2 : n2 = r.length) (hn3 : n3 = c.length) (X : Option R)
    (hF : ∀ (q i : Nat) y1 y2 y3 y4 y5 y6 y8 y10 y11 y12 y17 y18 y19, oneFrom m r c m.length 0 = some q → actS m r c (q : Int) = [(i : Int)] → opens (c.set i 1) + 1 = opens c → MInv (N : Int) m a (b ++ [(q : Int)]) (d ++ [(i : Int)]) (r.set q 1) (c.set i 1) → k0 y1 y2 y3 y4 y5 y6 (b ++ [(q : Int)]).length y8 (d ++ [(i : Int)]).length y10 y11 y12 (r.set q 1) (c.set i 1) (b ++ [(q : Int)]) (d ++ [(i : Int)]) y17 y18 y19 = X)
    (hS : oneFrom m r c m.length 0 = none → mostS (cntS (N : Int) m r c) < 0 → ∀ z1 z2 z3, k1 z1 z2 z3 (cntS (N : Int) m r c) = X)
    (hM : ∀ i : Nat, oneFrom m r c m.length 0 = none → mostS (cntS (N : Int) m r c) = (i : Int) → i < c.length → opens (c.set i 1) + 1 = opens c → MInv (N : Int) m (a ++ [(i : Int)]) b d r (c.set i 1) → ∀ z1 z2 z3, k1 z1 z2 z3 (cntS (N : Int) m r c) = X) :
    MakeF_l8 fuel N (N : Int) m n2 n3 a.length b.length d.length r c a b d k0 k1 fuel (m.length : Int) 0 (List.replicate N 0) = X := by
  obtain ⟨_, hml, _⟩ := mrt_iff.1 hI.may
  have hal := hI.al
  have hbl := hI.bl
  have hbd := hI.bd
  have hat := Make_at11 (R := R) fuel N hf m n2 n3 r c a b d k0 k1 (fun p hp => hI.act hp) hn2 hn3 hml (by omega) (by omega) fuel 0 (List.replicate N 0) (by omega) (by omega) (by simp) (fun x hx => by rw [List.eq_of_mem_replicate hx]; decide)
  have hc : cntFrom m r c (m.length - 0) 0 (List.replicate N 0) = cntS (N : Int) m r c := by unfold cntS; rw [Int.toNat_natCast]; rfl
  rw [hc, Nat.sub_zero] at hat
  rcases hat with ⟨q, i, h1, h2, y1, y2, y3, y4, y5, y6, y8, y10, y11, y12, y17, y18, y19, h3⟩ | ⟨h1, z1, z2, z3, h3⟩
  · refine h3.trans ?_
    obtain ⟨_, i', g1, _, g3, g4⟩ := hI.one h1
    rw [h2] at g1
    have e : i' = i := by have := (List.cons.inj g1).1; omega
    subst e
    exact hF q i' y1 y2 y3 y4 y5 y6 y8 y10 y11 y12 y17 y18 y19 h1 h2 g3 g4
  · refine h3.trans ?_
    by_cases hm : mostS (cntS (N : Int) m r c) < 0
    · exact hS h1 hm z1 z2 z3
    · obtain ⟨i, g1, g2, g3, g4⟩ := hI.most hm
      exact hM i h1 g1 g2 g3 g4 z1 z2 z3
theorem Make_core11 {R : Type} (fuel : Nat) (m : List Rw) (n : Int) (n3 : Nat) (xa xb xd : Nat) (r c a b d : List Int) (hx : r.length ≤ 64) (k0 : Nat → List Int → Option R) : ∀ (k j : Nat) (a' : List Int), j ≤ r.length → r.length < j + k → a'.length ≤ j →
    MakeF_l16 fuel r.length (r.length : Int) n m n3 xa xb xd r c a b d k0 k (j : Int) a'.length a' = k0 (a' ++ openFrom (r.drop j) (j : Int)).length (a' ++ openFrom (r.drop j) (j : Int))
  | 0, j, a', h1, h2, _ => by omega
  | k + 1, j, a', h1, h2, h3 => by
    unfold MakeF_l16 MakeF_s33
    rw [br_if]
    by_cases hc : j < r.length
    · have eb : below (j : Int) r.length = some j := by rw [below_of (by omega) (by omega)]; rfl
      have el : r[0 + j]? = some r[j] := by rw [Nat.zero_add]; exact List.getElem?_eq_getElem hc
      rw [if_pos (by simpa using hc), bnd_of eb, bnd_of el, br_if, List.drop_eq_getElem_cons hc, openFrom, wrap_i64 (by omega) (by omega), show (j : Int) + 1 = ((j + 1 : Nat) : Int) by omega]
      by_cases h : r[j] = 0
      · rw [if_pos (by simpa using h), if_pos h, grd_of (beq_self _), grd_of (okN_of (by omega) (by omega))]
        have := Make_core11 fuel m n n3 xa xb xd r c a b d hx k0 k (j + 1) (a' ++ [(j : Int)]) (by omega) (by omega) (by simp; omega)
        rw [List.append_assoc] at this
        exact this
      · rw [if_neg (by simpa using h), if_neg h]
        exact Make_core11 fuel m n n3 xa xb xd r c a b d hx k0 k (j + 1) a' (by omega) (by omega) (by omega)
    · rw [if_neg (by simpa using hc), List.drop_eq_nil_of_le (by omega), openFrom, List.append_nil]
theorem Make_fst11 {R : Type} (fuel : Nat) (m : List Rw) (n : Int) (n3 : Nat) (xa xb xd : Nat) (r c a b d : List Int) (hx : r.length ≤ 64) (k0 : Nat → List Int → Option R) (k1 : Option R) : ∀ (k j : Nat), j ≤ r.length → r.length < j + k →
    MakeF_l15 fuel r.length n m n3 xa xb xd r c a b d k0 k1 k (r.length : Int) (j : Int) = if (openFrom (r.drop j) (j : Int)).length = 0 then k1 else k0 (openFrom (r.drop j) (j : Int)).length (openFrom (r.drop j) (j : Int))
  | 0, j, h1, h2 => by omega
  | k + 1, j, h1, h2 => by
    unfold MakeF_l15 MakeF_s32
    rw [br_if]
    by_cases hc : j < r.length
    · have eb : below (j : Int) r.length = some j := by rw [below_of (by omega) (by omega)]; rfl
      have el : r[0 + j]? = some r[j] := by rw [Nat.zero_add]; exact List.getElem?_eq_getElem hc
      rw [if_pos (by simpa using hc), bnd_of eb, bnd_of el, br_if, List.drop_eq_getElem_cons hc, openFrom, wrap_i64 (by omega) (by omega), show (j : Int) + 1 = ((j + 1 : Nat) : Int) by omega]
      by_cases h : r[j] = 0
      · rw [if_pos (by simpa using h), if_pos h, if_neg (by simp)]
        cases k with
        | zero => omega
        | succ k => exact Make_core11 fuel m n n3 xa xb xd r c a b d hx _ (k + 1) (j + 1) [(j : Int)] (by omega) (by omega) (by simp)
      · rw [if_neg (by simpa using h), if_neg h]
        exact Make_fst11 fuel m n n3 xa xb xd r c a b d hx k0 k1 k (j + 1) (by omega) (by omega)
    · rw [if_neg (by simpa using hc), List.drop_eq_nil_of_le (by omega), if_pos (by rfl)]
theorem Make_i10 {R : Type} (fuel N : Nat) (p n len : Int) (m : List Rw) (n2 n3 : Nat) (r c a : List Int) (k0 : List Int → Bool → Int → Bool → Int → Bool → List Int → Option R) (b1 b2 : Bool) (l : List Int) (hl : l.length ≤ 64) (hr : ∀ i, i ∈ l → 0 ≤ i ∧ i < (N : Int)) : ∀ (k j : Nat) (cs : List Int) (M : Int), j ≤ l.length → l.length < j + k → cs.length = N → 0 ≤ M → M + (l.length : Int) ≤ 100000 + (j : Int) → (∀ x, x ∈ cs → 0 ≤ x ∧ x ≤ M) →
    MakeF_l12 fuel N p n m len n2 n3 a.length r c a k0 k l b1 (l.length : Int) b2 (j : Int) cs = k0 l b1 (l.length : Int) b2 (l.length : Int) (decide ((l.length : Int) < (l.length : Int))) (addL cs (l.drop j))
  | 0, j, cs, M, h1, h2, _, _, _, _ => by omega
  | k + 1, j, cs, M, h1, h2, h3, h4, h5, h6 => by
    unfold MakeF_l12 MakeF_s22
    rw [br_if]
    by_cases hc : j < l.length
    · have hj := hr _ (List.getElem_mem hc)
      obtain ⟨i, hi⟩ : ∃ i : Nat, l[j] = (i : Int) := ⟨(l[j]).toNat, by omega⟩
      have hiN : i < cs.length := by omega
      have ei : ix l (j : Int) = some (i : Int) := by rw [ix_nat, List.getElem?_eq_getElem hc, hi]
      have eb : below (i : Int) N = some i := by rw [below_of (by omega) (by omega)]; rfl
      have ec : cs[0 + i]? = some cs[i] := by rw [Nat.zero_add]; exact List.getElem?_eq_getElem hiN
      have hv := h6 _ (List.getElem_mem hiN)
      rw [if_pos (by simpa using hc), bnd_of ei, bnd_of eb, bnd_of ec, bnd_of eb, bnd_of ec, Nat.zero_add, wrap_i64 (by omega) (by omega), wrap_i64 (by omega) (by omega), show (j : Int) + 1 = ((j + 1 : Nat) : Int) by omega, List.drop_eq_getElem_cons hc, hi]
      have e1 : addL cs ((i : Int) :: l.drop (j + 1)) = addL (cs.set i (cs[i] + 1)) (l.drop (j + 1)) := by
        show addL (cs.set ((i : Int).toNat) (cs.getD ((i : Int).toNat) 0 + 1)) (l.drop (j + 1)) = _
        rw [Int.toNat_natCast, List.getD_eq_getElem?_getD, List.getElem?_eq_getElem hiN]; rfl
      rw [e1]
      exact Make_i10 fuel N p n len m n2 n3 r c a k0 b1 b2 l hl hr k (j + 1) (cs.set i (cs[i] + 1)) (M + 1) (by omega) (by omega) (by rw [List.length_set]; exact h3) (by omega) (by omega) (set_bound h6 (by omega))
    · have e : j = l.length := by omega
      subst e
      rw [if_neg (by simp), List.drop_length]
      rfl
theorem Make_at10 {R : Type} (fuel N : Nat) (hf : 64 < fuel) (m : List Rw) (n2 n3 : Nat) (r c a : List Int) (k0 : Int → List Int → Int → Bool → Int → Bool → Int → Int → Nat → Nat → List Int → List Int → List Int → List Int → List Int → Option R) (k1 : Int → Int → Bool → List Int → Option R) (hok : ∀ p : Nat, p < m.length → actOk (N : Int) m r c (p : Int) = true) (hn2 : n2 = r.length) (hn3 : n3 = c.length) (hm : m.length ≤ 64) : ∀ (k p : Nat) (cs : List Int), p ≤ m.length → m.length < p + k → cs.length = N → (∀ x, x ∈ cs → 0 ≤ x ∧ x ≤ 64 * (p : Int)) →
    (∃ q i : Nat, oneFrom m r c (m.length - p) p = some q ∧ actS m r c (q : Int) = [(i : Int)] ∧ ∃ y1 y2 y3 y4 y5 y6 y7 y8 y9 y10 y15, MakeF_l11 fuel N (N : Int) m n2 n3 a.length r c a k0 k1 k (m.length : Int) (p : Int) cs = k0 y1 y2 y3 y4 y5 y6 y7 y8 y9 y10 (r.set q 1) (c.set i 1) [(q : Int)] [(i : Int)] y15) ∨ (oneFrom m r c (m.length - p) p = none ∧ ∃ z1 z2 z3, MakeF_l11 fuel N (N : Int) m n2 n3 a.length r c a k0 k1 k (m.length : Int) (p : Int) cs = k1 z1 z2 z3 (cntFrom m r c (m.length - p) p cs))
  | 0, p, cs, h1, h2, _, _ => by omega
  | k + 1, p, cs, h1, h2, h3, h4 => by
    unfold MakeF_l11 MakeF_s21
    rw [br_if]
    by_cases hc : p < m.length
    · have ho := hok p hc
      obtain ⟨g1, g2⟩ := act_range ho
      obtain ⟨_, _, o1, o2, _, _⟩ := actOk_iff.1 ho
      rw [if_pos (by simpa using hc), grd_of (by rw [ho, hn2, hn3]; simp), br_if, show m.length - p = (m.length - (p + 1)) + 1 by omega, oneFrom, cntFrom]
      by_cases h : (actS m r c (p : Int)).length = 1
      · rw [if_pos h]
        refine .inl ?_
        obtain ⟨x, hx⟩ : ∃ x, actS m r c (p : Int) = [x] := List.length_eq_one_iff.1 h
        obtain ⟨g3, g4⟩ := g2 x (by rw [hx]; exact List.mem_cons_self)
        obtain ⟨i, rfl⟩ : ∃ i : Nat, x = (i : Int) := ⟨x.toNat, by omega⟩
        have hi : i < c.length := by omega
        have ei : ix [(i : Int)] 0 = some (i : Int) := rfl
        have eb : below (p : Int) n2 = some p := by rw [below_of (by omega) (by omega)]; rfl
        have er : r[0 + p]? = some (r[p]'(by omega)) := by rw [Nat.zero_add]; exact List.getElem?_eq_getElem (by omega)
        have eb2 : below (i : Int) n3 = some i := by rw [below_of (by omega) (by omega)]; rfl
        have ec : c[0 + i]? = some c[i] := by rw [Nat.zero_add]; exact List.getElem?_eq_getElem hi
        refine ⟨p, i, rfl, hx, ?_⟩
        rw [if_pos (by rw [h]; rfl), hx, bnd_of ei, bnd_of ei, bnd_of eb, bnd_of er, bnd_of eb2, bnd_of ec, Nat.zero_add, Nat.zero_add]
        exact ⟨_, _, _, _, _, _, _, _, _, _, _, rfl⟩
      · rw [if_neg h, if_neg (by simp; omega)]
        dsimp only
        have hit := Make_i10 (R := R) fuel N (p : Int) (N : Int) (m.length : Int) m n2 n3 r c a
        have hab := addL_bound (actS m r c (p : Int)) cs (64 * (p : Int)) (by omega) h4
        have hin := fun k0 => hit k0 (decide ((p : Int) < (m.length : Int))) (((((actS m r c (p : Int)).length : Nat) : Int) : Int) == 1) (actS m r c (p : Int)) g1 (fun i hi => (g2 i hi).1) fuel 0 cs (64 * (p : Int)) (by omega) (by omega) h3 (by omega) (by omega) h4
        rw [show ((0 : Nat) : Int) = 0 from rfl, List.drop_zero] at hin
        rw [hin]
        unfold MakeF_s23
        dsimp only
        rw [wrap_i64 (by omega) (by omega), show (p : Int) + 1 = ((p + 1 : Nat) : Int) by omega]
        exact Make_at10 fuel N hf m n2 n3 r c a k0 k1 hok hn2 hn3 hm k (p + 1) (addL cs (actS m r c (p : Int))) (by omega) (by omega) (by rw [addL_len]; exact h3) (fun x hx => by have := hab x hx; omega)
    · have e : p = m.length := by omega
      subst e
      rw [if_neg (by simp), Nat.sub_self]
      exact .inr ⟨rfl, _, _, _, rfl⟩
theorem Make_e10 {R : Type} (fuel N : Nat) (hf : 64 < fuel) (m : List Rw) (n2 n3 : Nat) (r c a : List Int) (k0 : Int → List Int → Int → Bool → Int → Bool → Int → Int → Nat → Nat → List Int → List Int → List Int → List Int → List Int → Option R) (k1 : Int → Int → Bool → List Int → Option R) (hI : MInv (N : Int) m a [] [] r c) (hn2 : n2 = r.length) (hn3 : n3 = c.length) (X : Option R)
    (hF : ∀ (q i : Nat) y1 y2 y3 y4 y5 y6 y7 y8 y9 y10 y15, oneFrom m r c m.length 0 = some q → actS m r c (q : Int) = [(i : Int)] → opens (c.set i 1) + 1 = opens c → MInv (N : Int) m a ([] ++ [(q : Int)]) ([] ++ [(i : Int)]) (r.set q 1) (c.set i 1) → k0 y1 y2 y3 y4 y5 y6 y7 y8 y9 y10 (r.set q 1) (c.set i 1) [(q : Int)] [(i : Int)] y15 = X)
    (hS : oneFrom m r c m.length 0 = none → mostS (cntS (N : Int) m r c) < 0 → ∀ z1 z2 z3, k1 z1 z2 z3 (cntS (N : Int) m r c) = X)
    (hM : ∀ i : Nat, oneFrom m r c m.length 0 = none → mostS (cntS (N : Int) m r c) = (i : Int) → i < c.length → opens (c.set i 1) + 1 = opens c → MInv (N : Int) m (a ++ [(i : Int)]) [] [] r (c.set i 1) → ∀ z1 z2 z3, k1 z1 z2 z3 (cntS (N : Int) m r c) = X) :
    MakeF_l11 fuel N (N : Int) m n2 n3 a.length r c a k0 k1 fuel (m.length : Int) 0 (List.replicate N 0) = X := by
  obtain ⟨_, hml, _⟩ := mrt_iff.1 hI.may
  have hal := hI.al
  have hbl := hI.bl
  have hbd := hI.bd
  have hat := Make_at10 (R := R) fuel N hf m n2 n3 r c a k0 k1 (fun p hp => hI.act hp) hn2 hn3 hml fuel 0 (List.replicate N 0) (by omega) (by omega) (by simp) (fun x hx => by rw [List.eq_of_mem_replicate hx]; decide)
  have hc : cntFrom m r c (m.length - 0) 0 (List.replicate N 0) = cntS (N : Int) m r c := by unfold cntS; rw [Int.toNat_natCast]; rfl
  rw [hc, Nat.sub_zero] at hat
  rcases hat with ⟨q, i, h1, h2, y1, y2, y3, y4, y5, y6, y7, y8, y9, y10, y15, h3⟩ | ⟨h1, z1, z2, z3, h3⟩
  · refine h3.trans ?_
    obtain ⟨_, i', g1, _, g3, g4⟩ := hI.one h1
    rw [h2] at g1
    have e : i' = i := by have := (List.cons.inj g1).1; omega
    subst e
    exact hF q i' y1 y2 y3 y4 y5 y6 y7 y8 y9 y10 y15 h1 h2 g3 g4
  · refine h3.trans ?_
    by_cases hm : mostS (cntS (N : Int) m r c) < 0
    · exact hS h1 hm z1 z2 z3
    · obtain ⟨i, g1, g2, g3, g4⟩ := hI.most hm
      exact hM i h1 g1 g2 g3 g4 z1 z2 z3
theorem Make_core10 {R : Type} (fuel : Nat) (m : List Rw) (n : Int) (n3 : Nat) (xa : Nat) (r c a : List Int) (hx : r.length ≤ 64) (k0 : Nat → List Int → Option R) : ∀ (k j : Nat) (a' : List Int), j ≤ r.length → r.length < j + k → a'.length ≤ j →
    MakeF_l20 fuel r.length (r.length : Int) n m n3 xa r c a k0 k (j : Int) a'.length a' = k0 (a' ++ openFrom (r.drop j) (j : Int)).length (a' ++ openFrom (r.drop j) (j : Int))
  | 0, j, a', h1, h2, _ => by omega
  | k + 1, j, a', h1, h2, h3 => by
    unfold MakeF_l20 MakeF_s43
    rw [br_if]
    by_cases hc : j < r.length
    · have eb : below (j : Int) r.length = some j := by rw [below_of (by omega) (by omega)]; rfl
      have el : r[0 + j]? = some r[j] := by rw [Nat.zero_add]; exact List.getElem?_eq_getElem hc
      rw [if_pos (by simpa using hc), bnd_of eb, bnd_of el, br_if, List.drop_eq_getElem_cons hc, openFrom, wrap_i64 (by omega) (by omega), show (j : Int) + 1 = ((j + 1 : Nat) : Int) by omega]
      by_cases h : r[j] = 0
      · rw [if_pos (by simpa using h), if_pos h, grd_of (beq_self _), grd_of (okN_of (by omega) (by omega))]
        have := Make_core10 fuel m n n3 xa r c a hx k0 k (j + 1) (a' ++ [(j : Int)]) (by omega) (by omega) (by simp; omega)
        rw [List.append_assoc] at this
        exact this
      · rw [if_neg (by simpa using h), if_neg h]
        exact Make_core10 fuel m n n3 xa r c a hx k0 k (j + 1) a' (by omega) (by omega) (by omega)
    · rw [if_neg (by simpa using hc), List.drop_eq_nil_of_le (by omega), openFrom, List.append_nil]
theorem Make_fst10 {R : Type} (fuel : Nat) (m : List Rw) (n : Int) (n3 : Nat) (xa : Nat) (r c a : List Int) (hx : r.length ≤ 64) (k0 : Nat → List Int → Option R) (k1 : Option R) : ∀ (k j : Nat), j ≤ r.length → r.length < j + k →
    MakeF_l19 fuel r.length n m n3 xa r c a k0 k1 k (r.length : Int) (j : Int) = if (openFrom (r.drop j) (j : Int)).length = 0 then k1 else k0 (openFrom (r.drop j) (j : Int)).length (openFrom (r.drop j) (j : Int))
  | 0, j, h1, h2 => by omega
  | k + 1, j, h1, h2 => by
    unfold MakeF_l19 MakeF_s42
    rw [br_if]
    by_cases hc : j < r.length
    · have eb : below (j : Int) r.length = some j := by rw [below_of (by omega) (by omega)]; rfl
      have el : r[0 + j]? = some r[j] := by rw [Nat.zero_add]; exact List.getElem?_eq_getElem hc
      rw [if_pos (by simpa using hc), bnd_of eb, bnd_of el, br_if, List.drop_eq_getElem_cons hc, openFrom, wrap_i64 (by omega) (by omega), show (j : Int) + 1 = ((j + 1 : Nat) : Int) by omega]
      by_cases h : r[j] = 0
      · rw [if_pos (by simpa using h), if_pos h, if_neg (by simp)]
        cases k with
        | zero => omega
        | succ k => exact Make_core10 fuel m n n3 xa r c a hx _ (k + 1) (j + 1) [(j : Int)] (by omega) (by omega) (by simp)
      · rw [if_neg (by simpa using h), if_neg h]
        exact Make_fst10 fuel m n n3 xa r c a hx k0 k1 k (j + 1) (by omega) (by omega)
    · rw [if_neg (by simpa using hc), List.drop_eq_nil_of_le (by omega), if_pos (by rfl)]
theorem Make_cl {n : Int} {m : List Rw} {a b d r c : List Int} (hI : MInv n m a b d r c) {N : Nat} (hN : n = (N : Int)) : ((cntS n m r c).drop 0).take N = cntS n m r c ∧ (cntS n m r c).length ≤ 1000 := by
  obtain ⟨⟨g1, g2⟩, _, _⟩ := mrt_iff.1 hI.may
  have hlen : (cntS n m r c).length = n.toNat := by unfold cntS; rw [cnt_len]; simp
  exact ⟨by rw [List.drop_zero]; exact List.take_of_length_le (by omega), by omega⟩
theorem Make_o11 {R : Type} (fuel N : Nat) (hf : 64 < fuel) (m : List Rw) (n2 n3 : Nat) (k0 : Nat → Nat → Nat → List Int → List Int → List Int → List Int → List Int → Option R) : ∀ (f k : Nat) (a b d r c : List Int), MInv (N : Int) m a b d r c → n2 = r.length → n3 = c.length → opens c ≤ f → f < k →
    MakeF_l7 fuel (N : Int) m n2 n3 k0 k a.length b.length d.length r c a b d = k0 (plnN (N : Int) m f a b d r c).1.length (plnN (N : Int) m f a b d r c).2.1.length (plnN (N : Int) m f a b d r c).2.2.1.length (plnN (N : Int) m f a b d r c).2.2.2.1 (plnN (N : Int) m f a b d r c).2.2.2.2 (plnN (N : Int) m f a b d r c).1 (plnN (N : Int) m f a b d r c).2.1 (plnN (N : Int) m f a b d r c).2.2.1
  | f, 0, a, b, d, r, c, _, _, _, _, h => by omega
  | f, k + 1, a, b, d, r, c, hI, hn2, hn3, ho, hfk => by
    obtain ⟨⟨g1, g2⟩, _, _⟩ := mrt_iff.1 hI.may
    have hal := hI.al
    obtain ⟨c1, c2⟩ := Make_cl hI rfl
    unfold MakeF_l7 MakeF_s13
    rw [bnd_of (mkN_of (by omega) (by omega) (by omega)), Int.toNat_natCast]
    dsimp only
    refine Make_e11 fuel N hf m n2 n3 r c a b d _ _ hI hn2 hn3 _ ?_ ?_ ?_
    · intro q i y1 y2 y3 y4 y5 y6 y8 y10 y11 y12 y17 y18 y19 h1 h2 h3 hJ
      unfold MakeF_s17
      obtain ⟨f', rfl⟩ : ∃ f', f = f' + 1 := ⟨f - 1, by omega⟩
      rw [plnN_one f' h1 h2]
      exact Make_o11 fuel N hf m n2 n3 k0 f' k a _ _ _ _ hJ (by rw [List.length_set]; exact hn2) (by rw [List.length_set]; exact hn3) (by omega) (by omega)
    · intro h1 h2 z1 z2 z3
      unfold MakeF_s18
      rw [c1, grd_of (by simpa using c2), br_if, if_pos (by simpa using h2), plnN_stop h1 h2]
    · intro i h1 h2 h3 h4 hJ z1 z2 z3
      have eb : below (i : Int) n3 = some i := by rw [below_of (by omega) (by omega)]; rfl
      have ec : c[0 + i]? = some c[i] := by rw [Nat.zero_add]; exact List.getElem?_eq_getElem h3
      unfold MakeF_s18
      rw [c1, grd_of (by simpa using c2), h2, br_if, if_neg (by simp), grd_of (beq_self _), grd_of (okN_of (by omega) (by omega)), bnd_of eb, bnd_of ec, Nat.zero_add]
      obtain ⟨f', rfl⟩ : ∃ f', f = f' + 1 := ⟨f - 1, by omega⟩
      rw [plnN_most f' h1 h2]
      exact Make_o11 fuel N hf m n2 n3 k0 f' k _ b d r _ hJ hn2 (by rw [List.length_set]; exact hn3) (by omega) (by omega)
theorem Make_o10 {R : Type} (fuel N : Nat) (hf : 64 < fuel) (m : List Rw) (n2 n3 : Nat) (r : List Int) (k0 : Nat → Nat → Nat → List Int → List Int → List Int → List Int → List Int → Option R) (k1 : Nat → List Int → List Int → Option R) : ∀ (f k : Nat) (a c : List Int), MInv (N : Int) m a [] [] r c → n2 = r.length → n3 = c.length → opens c ≤ f → f < k →
    MakeF_l10 fuel (N : Int) m n2 n3 r k0 k1 k a.length c a = if (plnN (N : Int) m f a [] [] r c).2.1.length = 0 then k1 (plnN (N : Int) m f a [] [] r c).1.length (plnN (N : Int) m f a [] [] r c).2.2.2.2 (plnN (N : Int) m f a [] [] r c).1 else k0 (plnN (N : Int) m f a [] [] r c).1.length (plnN (N : Int) m f a [] [] r c).2.1.length (plnN (N : Int) m f a [] [] r c).2.2.1.length (plnN (N : Int) m f a [] [] r c).2.2.2.1 (plnN (N : Int) m f a [] [] r c).2.2.2.2 (plnN (N : Int) m f a [] [] r c).1 (plnN (N : Int) m f a [] [] r c).2.1 (plnN (N : Int) m f a [] [] r c).2.2.1
  | f, 0, a, c, _, _, _, _, h => by omega
  | f, k + 1, a, c, hI, hn2, hn3, ho, hfk => by
    obtain ⟨⟨g1, g2⟩, _, _⟩ := mrt_iff.1 hI.may
    have hal := hI.al
    obtain ⟨c1, c2⟩ := Make_cl hI rfl
    unfold MakeF_l10 MakeF_s20
    rw [bnd_of (mkN_of (by omega) (by omega) (by omega)), Int.toNat_natCast]
    dsimp only
    refine Make_e10 fuel N hf m n2 n3 r c a _ _ hI hn2 hn3 _ ?_ ?_ ?_
    · intro q i y1 y2 y3 y4 y5 y6 y7 y8 y9 y10 y15 h1 h2 h3 hJ
      unfold MakeF_s24
      obtain ⟨f', rfl⟩ : ∃ f', f = f' + 1 := ⟨f - 1, by omega⟩
      rw [plnN_one f' h1 h2]
      obtain ⟨x, y, z, _, e2, _⟩ := mk_ext (N : Int) m f' a ([] ++ [(q : Int)]) ([] ++ [(i : Int)]) (r.set q 1) (c.set i 1)
      rw [if_neg (by rw [e2]; simp)]
      exact Make_o11 fuel N hf m n2 n3 k0 f' k a _ _ _ _ hJ (by rw [List.length_set]; exact hn2) (by rw [List.length_set]; exact hn3) (by omega) (by omega)
    · intro h1 h2 z1 z2 z3
      unfold MakeF_s25
      rw [c1, grd_of (by simpa using c2), br_if, if_pos (by simpa using h2), plnN_stop h1 h2]
      rfl
    · intro i h1 h2 h3 h4 hJ z1 z2 z3
      have eb : below (i : Int) n3 = some i := by rw [below_of (by omega) (by omega)]; rfl
      have ec : c[0 + i]? = some c[i] := by rw [Nat.zero_add]; exact List.getElem?_eq_getElem h3
      unfold MakeF_s25
      rw [c1, grd_of (by simpa using c2), h2, br_if, if_neg (by simp), grd_of (beq_self _), grd_of (okN_of (by omega) (by omega)), bnd_of eb, bnd_of ec, Nat.zero_add]
      obtain ⟨f', rfl⟩ : ∃ f', f = f' + 1 := ⟨f - 1, by omega⟩
      rw [plnN_most f' h1 h2]
      exact Make_o10 fuel N hf m n2 n3 r k0 k1 f' k _ _ hJ hn2 (by rw [List.length_set]; exact hn3) (by omega) (by omega)
theorem Make_o01 {R : Type} (fuel N : Nat) (hf : 64 < fuel) (m : List Rw) (n2 n3 : Nat) (k0 : Nat → Nat → List Int → List Int → List Int → List Int → Option R) (k1 : Nat → Nat → Nat → List Int → List Int → List Int → List Int → List Int → Option R) : ∀ (f k : Nat) (b d r c : List Int), MInv (N : Int) m [] b d r c → n2 = r.length → n3 = c.length → opens c ≤ f → f < k →
    MakeF_l4 fuel (N : Int) m n2 n3 k0 k1 k b.length d.length r c b d = if (plnN (N : Int) m f [] b d r c).1.length = 0 then k0 (plnN (N : Int) m f [] b d r c).2.1.length (plnN (N : Int) m f [] b d r c).2.2.1.length (plnN (N : Int) m f [] b d r c).2.2.2.1 (plnN (N : Int) m f [] b d r c).2.2.2.2 (plnN (N : Int) m f [] b d r c).2.1 (plnN (N : Int) m f [] b d r c).2.2.1 else k1 (plnN (N : Int) m f [] b d r c).1.length (plnN (N : Int) m f [] b d r c).2.1.length (plnN (N : Int) m f [] b d r c).2.2.1.length (plnN (N : Int) m f [] b d r c).2.2.2.1 (plnN (N : Int) m f [] b d r c).2.2.2.2 (plnN (N : Int) m f [] b d r c).1 (plnN (N : Int) m f [] b d r c).2.1 (plnN (N : Int) m f [] b d r c).2.2.1
  | f, 0, b, d, r, c, _, _, _, _, h => by omega
  | f, k + 1, b, d, r, c, hI, hn2, hn3, ho, hfk => by
    obtain ⟨⟨g1, g2⟩, _, _⟩ := mrt_iff.1 hI.may
    have hal := hI.al
    obtain ⟨c1, c2⟩ := Make_cl hI rfl
    unfold MakeF_l4 MakeF_s7
    rw [bnd_of (mkN_of (by omega) (by omega) (by omega)), Int.toNat_natCast]
    dsimp only
    refine Make_e01 fuel N hf m n2 n3 r c b d _ _ hI hn2 hn3 _ ?_ ?_ ?_
    · intro q i y1 y2 y3 y4 y5 y6 y8 y10 y11 y12 y17 y18 y19 h1 h2 h3 hJ
      unfold MakeF_s11
      obtain ⟨f', rfl⟩ : ∃ f', f = f' + 1 := ⟨f - 1, by omega⟩
      rw [plnN_one f' h1 h2]
      exact Make_o01 fuel N hf m n2 n3 k0 k1 f' k _ _ _ _ hJ (by rw [List.length_set]; exact hn2) (by rw [List.length_set]; exact hn3) (by omega) (by omega)
    · intro h1 h2 z1 z2 z3
      unfold MakeF_s12
      rw [c1, grd_of (by simpa using c2), br_if, if_pos (by simpa using h2), plnN_stop h1 h2]
      rfl
    · intro i h1 h2 h3 h4 hJ z1 z2 z3
      have eb : below (i : Int) n3 = some i := by rw [below_of (by omega) (by omega)]; rfl
      have ec : c[0 + i]? = some c[i] := by rw [Nat.zero_add]; exact List.getElem?_eq_getElem h3
      unfold MakeF_s12
      rw [c1, grd_of (by simpa using c2), h2, br_if, if_neg (by simp), bnd_of eb, bnd_of ec, Nat.zero_add]
      obtain ⟨f', rfl⟩ : ∃ f', f = f' + 1 := ⟨f - 1, by omega⟩
      rw [plnN_most f' h1 h2]
      obtain ⟨x, y, z, e2, _, _⟩ := mk_ext (N : Int) m f' ([] ++ [(i : Int)]) b d r (c.set i 1)
      rw [if_neg (by rw [e2]; simp)]
      exact Make_o11 fuel N hf m n2 n3 k1 f' k _ b d r _ hJ hn2 (by rw [List.length_set]; exact hn3) (by omega) (by omega)
theorem Make_o00 {R : Type} (fuel N : Nat) (hf : 64 < fuel) (m : List Rw) (n2 n3 : Nat) (k0 : Nat → Nat → List Int → List Int → List Int → List Int → Option R) (k1 : Nat → Nat → Nat → List Int → List Int → List Int → List Int → List Int → Option R) (k2 : List Int → List Int → Option R) (k3 : Nat → List Int → List Int → List Int → Option R) (f k : Nat) (r c : List Int) (hI : MInv (N : Int) m [] [] [] r c) (hn2 : n2 = r.length) (hn3 : n3 = c.length) (ho : opens c ≤ f) (hfk : f < k) (a' b' d' r' c' : List Int) (he : plnN (N : Int) m f [] [] [] r c = (a', b', d', r', c')) :
    MakeF_l1 fuel (N : Int) m n2 n3 k0 k1 k2 k3 k r c = if a'.length = 0 then (if b'.length = 0 then k2 r' c' else k0 b'.length d'.length r' c' b' d') else (if b'.length = 0 then k3 a'.length r' c' a' else k1 a'.length b'.length d'.length r' c' a' b' d') := by
  obtain ⟨k, rfl⟩ : ∃ k', k = k' + 1 := ⟨k - 1, by omega⟩
  obtain ⟨⟨g1, g2⟩, _, _⟩ := mrt_iff.1 hI.may
  have hal := hI.al
  obtain ⟨c1, c2⟩ := Make_cl hI rfl
  unfold MakeF_l1 MakeF_s2
  dsimp only
  rw [bnd_of (mkN_of (by omega) (by omega) (by omega)), Int.toNat_natCast]
  refine Make_e00 fuel N hf m n2 n3 r c _ _ hI hn2 hn3 _ ?_ ?_ ?_
  · intro q i y1 y2 y3 y4 y5 y6 y7 y8 y9 y10 y15 h1 h2 h3 hJ
    unfold MakeF_s6
    obtain ⟨f', rfl⟩ : ∃ f', f = f' + 1 := ⟨f - 1, by omega⟩
    rw [plnN_one f' h1 h2] at he
    obtain ⟨x, y, z, _, e2, _⟩ := mk_ext (N : Int) m f' [] ([] ++ [(q : Int)]) ([] ++ [(i : Int)]) (r.set q 1) (c.set i 1)
    have hl := Make_o01 fuel N hf m n2 n3 k0 k1 f' k _ _ _ _ hJ (by rw [List.length_set]; exact hn2) (by rw [List.length_set]; exact hn3) (by omega) (by omega)
    rw [he] at hl e2
    have e2 : b' = [] ++ [(q : Int)] ++ y := e2
    have hb : ¬ b'.length = 0 := by rw [e2]; simp
    rw [if_neg hb, if_neg hb]
    exact hl
  · intro h1 h2 z1 z2 z3
    unfold MakeF_s19
    rw [plnN_stop h1 h2] at he
    cases he
    rw [c1, grd_of (by simpa using c2), br_if, if_pos (by simpa using h2)]
    rfl
  · intro i h1 h2 h3 h4 hJ z1 z2 z3
    have eb : below (i : Int) n3 = some i := by rw [below_of (by omega) (by omega)]; rfl
    have ec : c[0 + i]? = some c[i] := by rw [Nat.zero_add]; exact List.getElem?_eq_getElem h3
    unfold MakeF_s19
    rw [c1, grd_of (by simpa using c2), h2, br_if, if_neg (by simp), bnd_of eb, bnd_of ec, Nat.zero_add]
    obtain ⟨f', rfl⟩ : ∃ f', f = f' + 1 := ⟨f - 1, by omega⟩
    rw [plnN_most f' h1 h2] at he
    obtain ⟨x, y, z, e2, _, _⟩ := mk_ext (N : Int) m f' ([] ++ [(i : Int)]) [] [] r (c.set i 1)
    have hr := plnN_rows (N : Int) m f' ([] ++ [(i : Int)]) [] [] r (c.set i 1)
    have hl := Make_o10 fuel N hf m n2 n3 r k1 (fun x y z => k3 x r y z) f' k _ _ hJ hn2 (by rw [List.length_set]; exact hn3) (by omega) (by omega)
    rw [he] at hl e2 hr
    have e2 : a' = [] ++ [(i : Int)] ++ x := e2
    have ha : ¬ a'.length = 0 := by rw [e2]; simp
    rw [if_neg ha]
    by_cases hb : b'.length = 0
    · have hr : r' = r := hr hb
      rw [if_pos hb] at hl ⊢
      rw [hr]
      exact hl
    · rw [if_neg hb] at hl ⊢
      exact hl

theorem Make_fact (n : Int) (m : List (Int × List Int)) (hg : (okM m) = true) : Fact Tryd.prog gTab 14 [.agg [.s (.int .i64 n), .lt (.pair (.int .i64) (.sl (.int .u64))) m]] [] (.tup [.agg [.li .i64 (mkI n m), .li .i64 (mkR n m), .li .i64 (mkC n m), .li .i64 (mkO n m)], .s (.int .i64 (if mrt n m = true then 0 else 1))], []) := by
  by_cases hm : mrt n m = true
  · obtain ⟨⟨z1, z2⟩, hml, _⟩ := mrt_iff.1 hm
    have hI := minv_start hg hm
    obtain ⟨N, rfl⟩ : ∃ N : Nat, n = (N : Int) := ⟨n.toNat, by omega⟩
    rw [Int.toNat_natCast] at hI
    have ho := opens_le (List.replicate N 0)
    rw [List.length_replicate] at ho
    have hJ := plnN_inv 64 hI
    have hE : mkEnd (N : Int) m = plnN (N : Int) m 64 [] [] [] (List.replicate m.length 0) (List.replicate N 0) := by rw [mkEnd_eq]; unfold mkEndI; rw [Int.toNat_natCast]
    have hloop := fun k0 k1 k2 k3 => Make_o00 (R := Out) 70 N (by decide) m m.length N k0 k1 k2 k3 64 70 (List.replicate m.length 0) (List.replicate N 0) hI (by simp) (by simp) (by omega) (by decide)
    rw [mkI_eq, mkR_eq, mkC_eq, mkO_eq]
    unfold mkII mkRI mkCI mkOI
    rw [if_pos hm, if_pos hm, if_pos hm, if_pos hm, if_pos hm, hE]
    clear hE
    generalize plnN (N : Int) m 64 [] [] [] (List.replicate m.length 0) (List.replicate N 0) = q at *
    obtain ⟨a, b, d, r, c⟩ := q
    dsimp only at hJ ⊢
    have hloop := fun k0 k1 k2 k3 => hloop k0 k1 k2 k3 a b d r c rfl
    have hrl : r.length = m.length := hJ.rl
    have hbd := hJ.bd
    have hx : r.length ≤ 64 := by omega
    refine Fact.out (v := .tup [.agg [vOf a, vOf b, vOf d, vOf (openFrom r 0)], .s (.int .i64 0)]) (bs' := []) ?_ (fun _ _ _ x h => RV_tup_two (fun _ h => RVs_two (fun _ h => RV_agg_two (fun _ h => RVs_two (fun _ h => RV_vOf _ _ h) (fun _ h => RVs_two (fun _ h => RV_vOf _ _ h) (fun _ h => RVs_two (fun _ h => RV_vOf _ _ h) (fun _ h => RVs_two (fun _ h => RV_vOf _ _ h) (fun _ h => h) h) h) h) h) h) (fun _ h => h) h) h)
    refine callN_fact hN hM T_most_ok (n := 70) (mode := mode12) ?_
    rw [MakeF_eq]
    unfold MakeF MakeF_s1
    rw [grd_of hg, hm, br_if, if_neg (by decide), bnd_of (mkN_of (by omega) (by omega) (by omega)), bnd_of (mkN_of (by omega) (by omega) (by omega)), Int.toNat_natCast, Int.toNat_natCast]
    dsimp only
    rw [hloop]
    by_cases ha : a.length = 0
    · rw [if_pos ha, vOf_nil ha]
      by_cases hb : b.length = 0
      · rw [if_pos hb, vOf_nil hb, vOf_nil (show d.length = 0 by omega)]
        unfold MakeF_s36
        have hf := fun k0 k1 => Make_fst00 (R := Out) 70 m (N : Int) N r c hx k0 k1 70 0 (by omega) (by omega)
        rw [List.drop_zero, show ((0 : Nat) : Int) = 0 from rfl, hrl] at hf
        dsimp only
        rw [hf]
        by_cases h : (openFrom r 0).length = 0
        · rw [if_pos h, vOf_nil h]; rfl
        · rw [if_neg h, vOf_li h]
          unfold MakeF_s39
          rw [List.drop_zero, List.take_length]
      · rw [if_neg hb, vOf_li hb, vOf_li (show ¬ d.length = 0 by omega)]
        unfold MakeF_s26
        have hf := fun k0 k1 => Make_fst01 (R := Out) 70 m (N : Int) N b.length d.length r c b d hx k0 k1 70 0 (by omega) (by omega)
        rw [List.drop_zero, show ((0 : Nat) : Int) = 0 from rfl, hrl] at hf
        dsimp only
        rw [hf]
        by_cases h : (openFrom r 0).length = 0
        · rw [if_pos h, vOf_nil h]
          unfold MakeF_s30
          rw [List.drop_zero, List.take_length, List.drop_zero, List.take_length]
        · rw [if_neg h, vOf_li h]
          unfold MakeF_s29
          rw [List.drop_zero, List.take_length, List.drop_zero, List.take_length, List.drop_zero, List.take_length]
    · rw [if_neg ha, vOf_li ha]
      by_cases hb : b.length = 0
      · rw [if_pos hb, vOf_nil hb, vOf_nil (show d.length = 0 by omega)]
        unfold MakeF_s41
        have hf := fun k0 k1 => Make_fst10 (R := Out) 70 m (N : Int) N a.length r c a hx k0 k1 70 0 (by omega) (by omega)
        rw [List.drop_zero, show ((0 : Nat) : Int) = 0 from rfl, hrl] at hf
        dsimp only
        rw [hf]
        by_cases h : (openFrom r 0).length = 0
        · rw [if_pos h, vOf_nil h]
          unfold MakeF_s45
          rw [List.drop_zero, List.take_length]
        · rw [if_neg h, vOf_li h]
          unfold MakeF_s44
          rw [List.drop_zero, List.take_length, List.drop_zero, List.take_length]
      · rw [if_neg hb, vOf_li hb, vOf_li (show ¬ d.length = 0 by omega)]
        unfold MakeF_s31
        have hf := fun k0 k1 => Make_fst11 (R := Out) 70 m (N : Int) N a.length b.length d.length r c a b d hx k0 k1 70 0 (by omega) (by omega)
        rw [List.drop_zero, show ((0 : Nat) : Int) = 0 from rfl, hrl] at hf
        dsimp only
        rw [hf]
        by_cases h : (openFrom r 0).length = 0
        · rw [if_pos h, vOf_nil h]
          unfold MakeF_s35
          rw [List.drop_zero, List.take_length, List.drop_zero, List.take_length, List.drop_zero, List.take_length]
        · rw [if_neg h, vOf_li h]
          unfold MakeF_s34
          rw [List.drop_zero, List.take_length, List.drop_zero, List.take_length, List.drop_zero, List.take_length, List.drop_zero, List.take_length]
  · rw [mkI_eq, mkR_eq, mkC_eq, mkO_eq]
    unfold mkII mkRI mkCI mkOI
    rw [if_neg hm, if_neg hm, if_neg hm, if_neg hm, if_neg hm]
    refine Fact.out (v := .tup [.agg [.s (.slice none 0 0), .s (.slice none 0 0), .s (.slice none 0 0), .s (.slice none 0 0)], .s (.int .i64 1)]) (bs' := []) ?_ (fun _ _ _ x h => RV_tup_two (fun _ h => RVs_two (fun _ h => RV_agg_two (fun _ h => RVs_two (fun _ h => RV_nil_li h) (fun _ h => RVs_two (fun _ h => RV_nil_li h) (fun _ h => RVs_two (fun _ h => RV_nil_li h) (fun _ h => RVs_two (fun _ h => RV_nil_li h) (fun _ h => h) h) h) h) h) h) (fun _ h => h) h) h)
    refine callN_fact hN hM T_most_ok (n := 0) (mode := mode12) ?_
    rw [MakeF_eq]
    unfold MakeF MakeF_s1
    rw [grd_of hg, br_if, if_pos (by simpa using hm)]
noncomputable def Make_ent : List V → List Blk → Option (Bool × Out)
  | [.agg [.s (.int .i64 n), w0]], [] => (asSl (.pair (.int .i64) (.sl (.int .u64))) w0).bind fun m => some ((okM m), (.tup [.agg [.li .i64 (mkI n m), .li .i64 (mkR n m), .li .i64 (mkC n m), .li .i64 (mkO n m)], .s (.int .i64 (if mrt n m = true then 0 else 1))], []))
  | _, _ => none
theorem Make_ok : ∀ args bs out, Make_ent args bs = some (true, out) → Fact Tryd.prog gTab 14 args bs out := by
  intro args bs out h
  unfold Make_ent at h
  split at h
  · rename_i n w0
    obtain ⟨m, h_m, h⟩ := Option.bind_eq_some_iff.1 h
    simp only [Option.some.injEq, Prod.mk.injEq] at h
    obtain ⟨hg, rfl⟩ := h
    exact (Make_fact n m hg).args (fun _ _ _ => fun _ h => RVs_two (fun _ h => RV_agg_two (fun _ h => RVs_two (fun _ h => h) (fun _ h => RVs_two (fun _ h => RV_sl (s := (.pair (.int .i64) (.sl (.int .u64)))) h_m h) (fun _ h => h) h) h) h) (fun _ h => h) h)
  · cases h
noncomputable def T_Make : Tbl := Tbl.cons 14 Make_ent T_most
theorem T_Make_ok : CallOk Tryd.prog gTab T_Make := cons_ok T_most_ok Make_ok
end Go.Proofs.YtfpdcfgjhkiklaaDoor
