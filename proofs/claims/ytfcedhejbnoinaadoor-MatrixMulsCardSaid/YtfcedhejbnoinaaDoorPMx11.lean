-- PRINTED by print.py (a twelfth state) out of the translation. Not trusted: Lean checks it.
import Derived.Test.YtfcedhejbnoinaaDoorPMx0
import Derived.Test.YtfcedhejbnoinaaDoorPMx7
namespace Go.Proofs.YtfcedhejbnoinaaDoor.PM
open Go.RowKit Go.Proofs.YtfcedhejbnoinaaDoorW.PrintWords Go.Proofs.YtfcedhejbnoinaaDoorW.PrintLast Go.Proofs.YtfcedhejbnoinaaDoorW.PrintMore
attribute [local go_sem] run_store_func max2_int min2_int max_two min_two max_three min_three max_four min_four   -- for this text's walks alone
set_option linter.unusedVariables false
set_option linter.unusedSimpArgs false

/-! ### downpourref02_Sum: function 16 -/
mutual
def downpourref02_Sum.l0 : Nat → Int → List ByteArray → List Int → List Int → Int → Option (ByteArray)
 | 0, _, _, _, _, _ => none
 | k + 1, x0, x1, x2, x7, x8 => if x8 < x0 then (downpourref02_Sum.l1 k x0 x1 x2 x7 x8 0 x1 (x1.length : Int) 0) else (some (strOfNums x7))
def downpourref02_Sum.l1 : Nat → Int → List ByteArray → List Int → List Int → Int → Int → List ByteArray → Int → Int → Option (ByteArray)
 | 0, _, _, _, _, _, _, _, _, _ => none
 | k + 1, x0, x1, x2, x7, x8, x9, x18, x19, x20 => if x20 < x19 then (if 0 ≤ x20 then (if x20 < (x18.length : Int) then (if x20 < (x2.length : Int) then (if (rd x2 x20) = 1 then (if 0 ≤ x8 then (if x8 < ((rdOf ByteArray.empty x18 x20).size : Int) then (downpourref02_Sum.l1 k x0 x1 x2 x7 x8 (Go.bits .xor .u8 x9 (bt (rdOf ByteArray.empty x18 x20) x8)) x18 x19 (wrap64 (x20 + 1))) else (none)) else (none)) else (downpourref02_Sum.l1 k x0 x1 x2 x7 x8 x9 x18 x19 (wrap64 (x20 + 1)))) else (none)) else (none)) else (none)) else (if x7.length < 140737488355328 then (downpourref02_Sum.l0 k x0 x1 x2 (x7 ++ [x9]) (wrap64 (x8 + 1))) else (none))
end
def downpourref02_Sum.f (k : Nat) (a0 : Int) (l1 : List ByteArray) (l2 : List Int) : Option (ByteArray) := downpourref02_Sum.l0 k a0 l1 l2 (([] : List Int)) 0
theorem downpourref02_Sum.mono_l : ∀ k, (∀ y0 y1 y2 y3 y4, LeO (downpourref02_Sum.l0 k y0 y1 y2 y3 y4) (downpourref02_Sum.l0 (k + 1) y0 y1 y2 y3 y4)) ∧ (∀ y0 y1 y2 y3 y4 y5 y6 y7 y8, LeO (downpourref02_Sum.l1 k y0 y1 y2 y3 y4 y5 y6 y7 y8) (downpourref02_Sum.l1 (k + 1) y0 y1 y2 y3 y4 y5 y6 y7 y8))
 | 0 => ⟨fun _ _ _ _ _ r h => by simp [downpourref02_Sum.l0] at h, fun _ _ _ _ _ _ _ _ _ r h => by simp [downpourref02_Sum.l1] at h⟩
 | k + 1 => by
  obtain ⟨ih0, ih1⟩ := downpourref02_Sum.mono_l k
  refine ⟨?_, ?_⟩
  ·
   intro y0 y1 y2 y3 y4
   unfold downpourref02_Sum.l0
   repeat' first
   | (with_reducible exact ih0 _ _ _ _ _)
   | (with_reducible exact ih1 _ _ _ _ _ _ _ _ _)
   | (with_reducible exact LeO.refl _)
   | (with_reducible exact LeO.none _)
   | (with_reducible refine LeO.ite ?_ ?_)
   | (with_reducible refine LeO.bind ?_ (fun _ => ?_))
   | exact ih0 _ _ _ _ _
   | exact ih1 _ _ _ _ _ _ _ _ _
   | exact LeO.none _
   | refine LeO.ite ?_ ?_
   | refine LeO.bind ?_ (fun _ => ?_)
  ·
   intro y0 y1 y2 y3 y4 y5 y6 y7 y8
   unfold downpourref02_Sum.l1
   repeat' first
   | (with_reducible exact ih0 _ _ _ _ _)
   | (with_reducible exact ih1 _ _ _ _ _ _ _ _ _)
   | (with_reducible exact LeO.refl _)
   | (with_reducible exact LeO.none _)
   | (with_reducible refine LeO.ite ?_ ?_)
   | (with_reducible refine LeO.bind ?_ (fun _ => ?_))
   | exact ih0 _ _ _ _ _
   | exact ih1 _ _ _ _ _ _ _ _ _
   | exact LeO.none _
   | refine LeO.ite ?_ ?_
   | refine LeO.bind ?_ (fun _ => ?_)
theorem downpourref02_Sum.mono : ∀ a0 a1 a2 k, LeO (downpourref02_Sum.f k a0 a1 a2) (downpourref02_Sum.f (k + 1) a0 a1 a2) := by
 intro a0 a1 a2 k
 obtain ⟨ih0, ih1⟩ := downpourref02_Sum.mono_l k
 unfold downpourref02_Sum.f
 repeat' first
   | (with_reducible exact ih0 _ _ _ _ _)
   | (with_reducible exact ih1 _ _ _ _ _ _ _ _ _)
   | (with_reducible exact LeO.refl _)
   | (with_reducible exact LeO.none _)
   | (with_reducible refine LeO.ite ?_ ?_)
   | (with_reducible refine LeO.bind ?_ (fun _ => ?_))
   | exact ih0 _ _ _ _ _
   | exact ih1 _ _ _ _ _ _ _ _ _
   | exact LeO.none _
   | refine LeO.ite ?_ ?_
   | refine LeO.bind ?_ (fun _ => ?_)
set_option maxHeartbeats 8000000 in
set_option maxRecDepth 100000 in
theorem downpourref02_Sum.calls (k : Nat) (a0 : Int) (A1 : Option Addr) (c1 : Nat) (l1 : List ByteArray) (A2 : Option Addr) (c2 : Nat) (l2 : List Int) (r : ByteArray) (w : World) (hr1 : Kd.C Kd.string w A1 l1.length l1) (hc1 : l1.length ≤ c1) (hr2 : Kd.C (Kd.int .i64) w A2 l2.length l2) (hc2 : l2.length ≤ c2) (h : downpourref02_Sum.f k a0 l1 l2 = some r) :
  Calls Tryd.prog 16 #[.int .i64 a0, .slice A1 l1.length c1, .slice A2 l2.length c2] w fun e w' => e = .returned (.string r) ∧ Below w.heap.size w w' := by
 have HR1 := Aside0.mk hr1
 have HC1 := Aside0.mk hc1
 clear hr1 hc1
 have HR2 := Aside0.mk hr2
 have HC2 := Aside0.mk hc2
 clear hr2 hc2
 have HB := am (Below.refl w.heap.size w)
 have H : (downpourref02_Sum.l0 k a0 l1 l2 (([] : List Int)) 0) = some r := h
 clear h
 obtain ⟨y347, hy347⟩ : ∃ y_ : List Int, y_ = (([] : List Int)) := ⟨_, rfl⟩
 replace H : (downpourref02_Sum.l0 k a0 l1 l2 y347 0) = some r := by first | (rw [hy347]; with_reducible exact H) | (have H2_ := (Option.bind_some _ _).symm.trans H; rw [hy347]; with_reducible exact H2_) | (have H2_ := (Option.bind_some _ _).symm.trans H; with_reducible exact H2_) | with_reducible exact H | (rw [hy347]; exact H) | exact H
 have Ny347 := Aside0.mk hy347
 clear hy347
 have H' := Aside0.mk H
 clear H
 go_enter Tryd.func16, Tryd.ntmps16
 go_wp2_with (first | ((with_reducible refine gate_dst (N := 12) rfl ?_); refine Kd.R_lit (Kd.int .u8) _ 5 ?hg (N := 12) ?hd (xs := ([] : List Int)) (inner := []) (ok := fun _ => True) (okp := fun _ => True) ?hr ?hp (fun _ hk => hk) trivial (Below.refl _ _) (Nat.le_refl _) (by simp) ?_; (case hd => rfl); (case hg => rfl); (case hr => first | (go_simp; done) | (go_simp; rfl)); (case hp => exact (Reps.none _ _)); intro v348 w4 ho5 hb hg_ hnew_; clear hg_ hnew_; (first | rw [← Ny347.out] at ho5 | (simp only [Int.reduceToNat] at ho5; rw [← Ny347.out] at ho5)); have n0_ := am (Kd.R_lower ho5 (below_size (pb HB))); have n1_ := am (below_step (pb HB) hb); clear HB; have HO349 := n0_; have HB := n1_; clear n0_ n1_ hb ho5))
 go_loopg [7, 8] k (fun kq v7 v8 w' => ∃ (x7_1 : List Int) (x8_1 : Int), v8 = .int .i64 x8_1 ∧ Aside0 (downpourref02_Sum.l0 kq a0 l1 l2 x7_1 x8_1 = some r) ∧ Aside0 (kq ≤ k) ∧ Aside0 (Kd.R (Kd.int .u8) 5 w' w.heap.size (fun _ => True) v7 x7_1) ∧ Aside0 (Below w.heap.size w w'))
 case atStart => exact ⟨(y347), (0), (by first | rfl | (simp; done) | (simp [*]; done)), H', ⟨Nat.le_refl _⟩, ⟨by (with_reducible repeat (first | apply Kd.R_alloc | apply Kd.R_drewN | apply Kd.R_drew)); exact HO349.out⟩, ⟨pb HB⟩⟩
 case round =>
  clear H'
  try clear c1
  try clear c2
  try clear p2
  obtain ⟨x7_1, x8_1, rfl, HA, HK1, HO_7, HB⟩ := hrel
  cases gk with
  | zero => exact absurd HA.out (by simp [downpourref02_Sum.l0])
  | succ k1 =>
   have H := HA.out
   clear HA
   simp only [downpourref02_Sum.l0] at H
   by_cases c6 : x8_1 < a0
   ·
    rw [if_pos c6] at H
    have c6b0 : decide (x8_1 < a0) = true := decide_eq_true c6
    clear c6
    have H' := Aside0.mk H
    clear H
    go_wp2
    go_loopg [9, 20] k1 (fun kq v9 v20 w' => ∃ (x9_2 : Int) (x20_2 : Int), v9 = .int .u8 x9_2 ∧ v20 = .int .i64 x20_2 ∧ Aside0 (downpourref02_Sum.l1 kq a0 l1 l2 x7_1 x8_1 x9_2 l1 (l1.length : Int) x20_2 = some r) ∧ Aside0 (kq ≤ k1) ∧ Aside0 (Kd.R (Kd.int .u8) 5 w' w.heap.size (fun _ => True) u7 x7_1) ∧ Aside0 (Below w.heap.size w w'))
    case atStart => exact ⟨(0), (0), (by first | rfl | (simp; done) | (simp [*]; done)), (by first | rfl | (simp; done) | (simp [*]; done)), H', ⟨Nat.le_refl _⟩, ⟨by (with_reducible repeat (first | apply Kd.R_alloc | apply Kd.R_drewN | apply Kd.R_drew)); exact HO_7.out⟩, ⟨pb HB⟩⟩
    case round =>
     clear H'
     try clear c1
     try clear c2
     try clear p2
     try clear c6
     try clear c6b0
     try clear p2
     obtain ⟨x9_2, x20_2, rfl, rfl, HA, HK2, HO_7, HB⟩ := hrel
     cases gk with
     | zero => exact absurd HA.out (by simp [downpourref02_Sum.l1])
     | succ k2 =>
      have H := HA.out
      clear HA
      simp only [downpourref02_Sum.l1] at H
      by_cases c7 : x20_2 < (l1.length : Int)
      ·
       rw [if_pos c7] at H
       have c7b0 : decide (x20_2 < (l1.length : Int)) = true := decide_eq_true c7
       clear c7
       by_cases c8 : 0 ≤ x20_2
       ·
        rw [if_pos c8] at H
        have c8b0 : decide (0 ≤ x20_2) = true := decide_eq_true c8
        clear c8
        by_cases c9 : x20_2 < (l1.length : Int)
        ·
         rw [if_pos c9] at H
         have c9b0 : decide (x20_2 < (l1.length : Int)) = true := decide_eq_true c9
         clear c9
         by_cases c10 : x20_2 < (l2.length : Int)
         ·
          rw [if_pos c10] at H
          have c10b0 : decide (x20_2 < (l2.length : Int)) = true := decide_eq_true c10
          clear c10
          by_cases c11 : (rd l2 x20_2) = 1
          ·
           rw [if_pos c11] at H
           have c11b0 : ((rd l2 x20_2) == 1) = true := beq_iff_eq.mpr c11
           have c11b1 : ((rd l2 x20_2) != 1) = false := bne_eq_false_iff_eq.mpr c11
           clear c11
           by_cases c12 : 0 ≤ x8_1
           ·
            rw [if_pos c12] at H
            have c12b0 : decide (0 ≤ x8_1) = true := decide_eq_true c12
            clear c12
            by_cases c13 : x8_1 < ((rdOf ByteArray.empty l1 x20_2).size : Int)
            ·
             rw [if_pos c13] at H
             have c13b0 : decide (x8_1 < ((rdOf ByteArray.empty l1 x20_2).size : Int)) = true := decide_eq_true c13
             clear c13
             have H' := Aside0.mk H
             clear H
             have p350 : 0 ≤ (x20_2 : Int) := of_decide_eq_true (by first | (with_reducible assumption) | assumption)
             have q350 : x20_2 < (l1.length : Int) := of_decide_eq_true (by first | (with_reducible assumption) | assumption)
             obtain ⟨ad350, e350, hx350_0⟩ := Kd.at_string HR1.out x20_2 p350 q350
             cases e350
             replace hx350_0 := (HB.out.cell (World.block_lt_of_cell? w _ hx350_0)).trans hx350_0
             replace p350 := eq_true p350
             replace q350 := eq_true q350
             have p351 : 0 ≤ (x20_2 : Int) := of_decide_eq_true (by first | (with_reducible assumption) | assumption)
             have q351 : x20_2 < (l2.length : Int) := of_decide_eq_true (by first | (with_reducible assumption) | assumption)
             obtain ⟨ad351, e351, hx351_0⟩ := Kd.at_int HR2.out x20_2 p351 q351
             cases e351
             replace hx351_0 := (HB.out.cell (World.block_lt_of_cell? w _ hx351_0)).trans hx351_0
             replace p351 := eq_true p351
             replace q351 := eq_true q351
             have p14 : 0 ≤ (x8_1 : Int) := of_decide_eq_true (by first | (with_reducible assumption) | assumption)
             have q14 : x8_1 < ((rdOf ByteArray.empty l1 x20_2).size : Int) := of_decide_eq_true (by first | (with_reducible assumption) | assumption)
             have hx14 := bt_at (rdOf ByteArray.empty l1 x20_2) x8_1
             replace p14 := eq_true p14
             replace q14 := eq_true q14
             go_wp2
             go_roundg k2
             case measure => have := HK1.out; have := HK2.out; omega
             case rel => exact ⟨(Go.bits .xor .u8 x9_2 (bt (rdOf ByteArray.empty l1 x20_2) x8_1)), (wrap64 (x20_2 + 1)), (by first | rfl | (simp; done) | (simp [*]; done)), (by first | rfl | (simp; done) | (simp [*]; done)), H', ⟨by have := HK1.out; have := HK2.out; omega⟩, ⟨by (with_reducible repeat (first | apply Kd.R_alloc | apply Kd.R_drewN | apply Kd.R_drew)); exact HO_7.out⟩, ⟨pb HB⟩⟩
            ·
             rw [if_neg c13] at H
             exact absurd H (by simp)
           ·
            rw [if_neg c12] at H
            exact absurd H (by simp)
          ·
           rw [if_neg c11] at H
           have c11b0 : ((rd l2 x20_2) == 1) = false := beq_eq_false_iff_ne.mpr c11
           have c11b1 : ((rd l2 x20_2) != 1) = true := bne_iff_ne.mpr c11
           have H' := Aside0.mk H
           clear H
           have p350 : 0 ≤ (x20_2 : Int) := of_decide_eq_true (by first | (with_reducible assumption) | assumption)
           have q350 : x20_2 < (l1.length : Int) := of_decide_eq_true (by first | (with_reducible assumption) | assumption)
           obtain ⟨ad350, e350, hx350_0⟩ := Kd.at_string HR1.out x20_2 p350 q350
           cases e350
           replace hx350_0 := (HB.out.cell (World.block_lt_of_cell? w _ hx350_0)).trans hx350_0
           replace p350 := eq_true p350
           replace q350 := eq_true q350
           have p351 : 0 ≤ (x20_2 : Int) := of_decide_eq_true (by first | (with_reducible assumption) | assumption)
           have q351 : x20_2 < (l2.length : Int) := of_decide_eq_true (by first | (with_reducible assumption) | assumption)
           obtain ⟨ad351, e351, hx351_0⟩ := Kd.at_int HR2.out x20_2 p351 q351
           cases e351
           replace hx351_0 := (HB.out.cell (World.block_lt_of_cell? w _ hx351_0)).trans hx351_0
           replace p351 := eq_true p351
           replace q351 := eq_true q351
           go_wp2
           go_roundg k2
           case measure => have := HK1.out; have := HK2.out; omega
           case rel => exact ⟨(x9_2), (wrap64 (x20_2 + 1)), (by first | rfl | (simp; done) | (simp [*]; done)), (by first | rfl | (simp; done) | (simp [*]; done)), H', ⟨by have := HK1.out; have := HK2.out; omega⟩, ⟨by (with_reducible repeat (first | apply Kd.R_alloc | apply Kd.R_drewN | apply Kd.R_drew)); exact HO_7.out⟩, ⟨pb HB⟩⟩
         ·
          rw [if_neg c10] at H
          exact absurd H (by simp)
        ·
         rw [if_neg c9] at H
         exact absurd H (by simp)
       ·
        rw [if_neg c8] at H
        exact absurd H (by simp)
      ·
       rw [if_neg c7] at H
       have c7b0 : decide (x20_2 < (l1.length : Int)) = false := decide_eq_false c7
       clear c7
       by_cases c15 : x7_1.length < 140737488355328
       ·
        rw [if_pos c15] at H
        have LMc15 := Aside0.mk c15
        clear c15
        obtain ⟨y352, hy352⟩ : ∃ y_ : List Int, y_ = (x7_1 ++ [x9_2]) := ⟨_, rfl⟩
        replace H : (downpourref02_Sum.l0 k2 a0 l1 l2 y352 (wrap64 (x8_1 + 1))) = some r := by first | (rw [hy352]; with_reducible exact H) | (have H2_ := (Option.bind_some _ _).symm.trans H; rw [hy352]; with_reducible exact H2_) | (have H2_ := (Option.bind_some _ _).symm.trans H; with_reducible exact H2_) | with_reducible exact H | (rw [hy352]; exact H) | exact H
        have Ny352 := Aside0.mk hy352
        clear hy352
        have H' := Aside0.mk H
        clear H
        go_wp2_with (first | ((with_reducible refine gate_builtin (b := .append) (xs := #[.tmp 36, .tmp 38]) rfl ?_); at_builtin; refine Kd.R_append (Kd.int .u8) (w0 := w) w.heap.size rfl (.tmp 36) (.tmp 38) 83 5 (.int .u8 0) 1 rfl Tryd.underlying83 info5 rfl (by decide) (by omega) u7 x7_1 x9_2 [.int .u8 x9_2] (fun _ => True) (fun _ => False) rfl rfl ?aP (fun _ hk => hk.elim) ?aF ?aO ?aB ?aS ?aL ?_; (case aP => exact rfl); (case aB => exact (pb HB)); (case aF => exact (fun _ _ => trivial)); (case aO => exact (pr HO_7)); (case aS => exact (below_size (pb HB))); (case aL => have := LMc15.out; omega); intro v353 w16 ho hb hg hat; rw [← Ny352.out] at ho; have n0_ := am (hb); have n1_ := am (ho); clear HB HO_7; have HB := n0_; have HO354 := n1_; clear n0_ n1_ ho hb hg hat))
        go_roundg k2
        case measure => have := HK1.out; have := HK2.out; omega
        case rel => exact ⟨(y352), (wrap64 (x8_1 + 1)), (by first | rfl | (simp; done) | (simp [*]; done)), H', ⟨by have := HK1.out; have := HK2.out; omega⟩, ⟨by (with_reducible repeat (first | apply Kd.R_alloc | apply Kd.R_drewN | apply Kd.R_drew)); exact HO354.out⟩, ⟨pb HB⟩⟩
       ·
        rw [if_neg c15] at H
        exact absurd H (by simp)
   ·
    rw [if_neg c6] at H
    have c6b0 : decide (x8_1 < a0) = false := decide_eq_false c6
    clear c6
    obtain rfl := Option.some.inj H
    have hcv17 := own_string (P := Tryd.prog) Tryd.underlying83 Tryd.underlying5 Tryd.underlying9 (Kd.own_of_R HO_7.out)
    go_wp2
    go_ret
    exact ⟨by first | rfl | (simp [errW_none, errW_some] <;> rfl) | (simp [*, errW_none, errW_some] <;> rfl), pb HB⟩

/-! ### downpourref02_Bits: function 17 -/
def downpourref02_Bits.l0 : Nat → List Int → Int → Int → List Int → Option (List Int)
 | 0, _, _, _, _ => none
 | k + 1, x3, x4, x356000, x356001 => if x4 < x356000 then ((downpourref01_Bit.f x356000 x356001 x4).bind fun t359 => (if x3.length < 17592186044416 then (downpourref02_Bits.l0 k (x3 ++ [t359]) (wrap64 (x4 + 1)) x356000 x356001) else (none))) else (some x3)
def downpourref02_Bits.f (k : Nat) (a0_0 : Int) (l0_1 : List Int) : Option (List Int) := downpourref02_Bits.l0 k (([] : List Int)) 0 a0_0 l0_1
theorem downpourref02_Bits.mono_l : ∀ k, (∀ y0 y1 y2 y3, LeO (downpourref02_Bits.l0 k y0 y1 y2 y3) (downpourref02_Bits.l0 (k + 1) y0 y1 y2 y3))
 | 0 => fun _ _ _ _ r h => by simp [downpourref02_Bits.l0] at h
 | k + 1 => by
  have ih0 := downpourref02_Bits.mono_l k
  ·
   intro y0 y1 y2 y3
   unfold downpourref02_Bits.l0
   repeat' first
   | (with_reducible exact ih0 _ _ _ _)
   | (with_reducible exact LeO.refl _)
   | (with_reducible exact LeO.none _)
   | (with_reducible refine LeO.ite ?_ ?_)
   | (with_reducible refine LeO.bind ?_ (fun _ => ?_))
   | exact ih0 _ _ _ _
   | exact LeO.none _
   | refine LeO.ite ?_ ?_
   | refine LeO.bind ?_ (fun _ => ?_)
theorem downpourref02_Bits.mono : ∀ a0 a1 k, LeO (downpourref02_Bits.f k a0 a1) (downpourref02_Bits.f (k + 1) a0 a1) := by
 intro a0 a1 k
 have ih0 := downpourref02_Bits.mono_l k
 unfold downpourref02_Bits.f
 repeat' first
   | (with_reducible exact ih0 _ _ _ _)
   | (with_reducible exact LeO.refl _)
   | (with_reducible exact LeO.none _)
   | (with_reducible refine LeO.ite ?_ ?_)
   | (with_reducible refine LeO.bind ?_ (fun _ => ?_))
   | exact ih0 _ _ _ _
   | exact LeO.none _
   | refine LeO.ite ?_ ?_
   | refine LeO.bind ?_ (fun _ => ?_)
set_option maxHeartbeats 8000000 in
set_option maxRecDepth 100000 in
theorem downpourref02_Bits.calls (k : Nat) (a0_0 : Int) (A0_1 : Option Addr) (c0_1 : Nat) (l0_1 : List Int) (r : List Int) (w : World) (hr0_1 : Kd.C (Kd.int .u64) w A0_1 l0_1.length l0_1) (hc0_1 : l0_1.length ≤ c0_1) (h : downpourref02_Bits.f k a0_0 l0_1 = some r) :
  Calls Tryd.prog 17 #[.agg #[.int .i64 a0_0, .slice A0_1 l0_1.length c0_1]] w fun e w' => ∃ v0_ : Value, e = .returned (v0_) ∧ Kd.R (Kd.int .i64) 3 w' w.heap.size (fun _ => True) v0_ r ∧ Below w.heap.size w w' := by
 have hu25 := Tryd.underlying25
 have HR0_1 := Aside0.mk hr0_1
 have HC0_1 := Aside0.mk hc0_1
 clear hr0_1 hc0_1
 have HB := am (Below.refl w.heap.size w)
 have H : (downpourref02_Bits.l0 k (([] : List Int)) 0 a0_0 l0_1) = some r := h
 clear h
 obtain ⟨y356, hy356⟩ : ∃ y_ : List Int, y_ = (([] : List Int)) := ⟨_, rfl⟩
 replace H : (downpourref02_Bits.l0 k y356 0 a0_0 l0_1) = some r := by first | (rw [hy356]; with_reducible exact H) | (have H2_ := (Option.bind_some _ _).symm.trans H; rw [hy356]; with_reducible exact H2_) | (have H2_ := (Option.bind_some _ _).symm.trans H; with_reducible exact H2_) | with_reducible exact H | (rw [hy356]; exact H) | exact H
 have Ny356 := Aside0.mk hy356
 clear hy356
 have H' := Aside0.mk H
 clear H
 go_enter Tryd.func17, Tryd.ntmps17
 go_wp2_with (first | ((with_reducible refine gate_dst (N := 1) rfl ?_); refine box_event ?hg (N := 1) ?hd (cs := #[.int .i64 a0_0, .slice A0_1 l0_1.length c0_1]) (t := 25) ?hr ?_; (case hd => rfl); (case hg => rfl); (case hr => first | (go_simp; done) | (go_simp; rfl)); intro gb355 hg w2 hbox hb; have n0_ := am (below_step (pb HB) hb); have n1_ := am (hbox); have n2_ := am ((by rw [hg]; exact (below_size (pb HB)) : w.heap.size ≤ gb355)); have n3_ := am ((by rw [hg]; exact (below_size (pb HB)) : w.heap.size ≤ gb355)); clear HB; have HB := n0_; have BK355 := n1_; have GW355 := n2_; have GE355 := n3_; clear n0_ n1_ n2_ n3_ hb hbox hg) | ((with_reducible refine gate_dst (N := 5) rfl ?_); refine Kd.R_lit (Kd.int .i64) _ 3 ?hg (N := 5) ?hd (xs := ([] : List Int)) (inner := []) (ok := fun _ => True) (okp := fun _ => True) ?hr ?hp (fun _ hk => hk) trivial (Below.refl _ _) (Nat.le_refl _) (by simp) ?_; (case hd => rfl); (case hg => rfl); (case hr => first | (go_simp; done) | (go_simp; rfl)); (case hp => exact (Reps.none _ _)); intro v357 w3 ho4 hb hg_ hnew_; clear hg_ hnew_; (first | rw [← Ny356.out] at ho4 | (simp only [Int.reduceToNat] at ho4; rw [← Ny356.out] at ho4)); have n0_ := am (Kd.R_lower ho4 (below_size (pb HB))); have n1_ := bb BK355 hb; have n2_ := am (below_step (pb HB) hb); clear BK355 HB; have HO358 := n0_; have BK355 := n1_; have HB := n2_; clear n0_ n1_ n2_ hb ho4))
 go_loopg [3, 4] k (fun kq v3 v4 w' => ∃ (x3_1 : List Int) (x4_1 : Int), v4 = .int .i64 x4_1 ∧ Aside0 (downpourref02_Bits.l0 kq x3_1 x4_1 a0_0 l0_1 = some r) ∧ Aside0 (kq ≤ k) ∧ Aside0 (Kd.R (Kd.int .i64) 3 w' w.heap.size (fun _ => True) v3 x3_1) ∧ Aside0 (w'.heap[gb355]? = some (.cells #[.int .i64 a0_0, (.slice A0_1 l0_1.length c0_1)] 25 (0, 0))) ∧ Aside0 (Below w.heap.size w w'))
 case atStart => exact ⟨(y356), (0), (by first | rfl | (simp; done) | (simp [*]; done)), H', ⟨Nat.le_refl _⟩, ⟨by (with_reducible repeat (first | apply Kd.R_alloc | apply Kd.R_drewN | apply Kd.R_drew)); exact HO358.out⟩, ⟨by (with_reducible repeat (first | refine blk_drewN ?_ _ | refine blk_drew ?_ | refine blk_alloc ?_ _)); exact BK355.out⟩, ⟨pb HB⟩⟩
 case round =>
  clear H'
  try clear c1
  try clear p2
  obtain ⟨x3_1, x4_1, rfl, HA, HK1, HO_3, BK355, HB⟩ := hrel
  cases gk with
  | zero => exact absurd HA.out (by simp [downpourref02_Bits.l0])
  | succ k1 =>
   have H := HA.out
   clear HA
   simp only [downpourref02_Bits.l0] at H
   by_cases c5 : x4_1 < a0_0
   ·
    rw [if_pos c5] at H
    have c5b0 : decide (x4_1 < a0_0) = true := decide_eq_true c5
    clear c5
    replace H := Option.bind_eq_some_iff.mp H
    obtain ⟨t359, A60, H⟩ := H
    replace H : (if x3_1.length < 17592186044416 then (downpourref02_Bits.l0 k1 (x3_1 ++ [t359]) (wrap64 (x4_1 + 1)) a0_0 l0_1) else (none)) = some r := H
    have A6 := Aside0.mk A60
    clear A60
    by_cases c7 : x3_1.length < 17592186044416
    ·
     rw [if_pos c7] at H
     have LMc7 := Aside0.mk c7
     clear c7
     obtain ⟨y360, hy360⟩ : ∃ y_ : List Int, y_ = (x3_1 ++ [t359]) := ⟨_, rfl⟩
     replace H : (downpourref02_Bits.l0 k1 y360 (wrap64 (x4_1 + 1)) a0_0 l0_1) = some r := by first | (rw [hy360]; with_reducible exact H) | (have H2_ := (Option.bind_some _ _).symm.trans H; rw [hy360]; with_reducible exact H2_) | (have H2_ := (Option.bind_some _ _).symm.trans H; with_reducible exact H2_) | with_reducible exact H | (rw [hy360]; exact H) | exact H
     have Ny360 := Aside0.mk hy360
     clear hy360
     have H' := Aside0.mk H
     clear H
     have hcz8_0 : wr.cell? ⟨gb355, 0, none⟩ = some (.int .i64 a0_0) := (blk_cell BK355.out 0).trans rfl
     have hcz8_1 : wr.cell? ⟨gb355, 1, none⟩ = some (.slice A0_1 l0_1.length c0_1) := (blk_cell BK355.out 1).trans rfl
     have hfz8_0 := blk_frozen BK355.out 0
     have hfz8_1 := blk_frozen BK355.out 1
     go_wp2_with (first | ((with_reducible refine gate_callee (f := 26) rfl ?_); refine goesL_ (some 15) rfl rfl Tryd.func26 (by kernel_rfl) rfl #[.agg #[.int .i64 a0_0, .slice A0_1 l0_1.length c0_1], .int .i64 x4_1] rfl (by (try simp only [List.map_toArray, List.map_cons, List.map_nil]); first | done | rfl | (simp only [List.length_drop, List.length_take]; rfl)) ?_; (with_reducible refine (downpourref01_Bit.calls a0_0 _ _ l0_1 x4_1 t359 _ ?side1 ?side2 A6.out).mono ?_); (case side1 => repeat (first | exact (Kd.C_below HR0_1.out HB.out) | (with_reducible refine Kd.C_alloc ?_ _) | (with_reducible refine Kd.C_drewN ?_ _) | (with_reducible refine Kd.C_drew ?_))); (case side2 => exact HC0_1.out); rintro e w9 ⟨rfl, hb⟩; refine ⟨_, rfl, ?_⟩; have n0_ := am (Kd.R_below (pr HO_3) hb); have n1_ := bb BK355 hb; have n2_ := am (below_step (pb HB) hb); clear HO_3 BK355 HB; have HO_3 := n0_; have BK355 := n1_; have HB := n2_; clear n0_ n1_ n2_; (try clear hb); (try clear hb2); (try clear hk); (try clear hi)) | ((with_reducible refine gate_builtin (b := .append) (xs := #[.tmp 12, .tmp 16]) rfl ?_); at_builtin; refine Kd.R_append (Kd.int .i64) (w0 := w) w.heap.size rfl (.tmp 12) (.tmp 16) 34 3 (.int .i64 0) 8 rfl Tryd.underlying34 info3 rfl (by decide) (by omega) u3 x3_1 t359 [.int .i64 t359] (fun _ => True) (fun _ => False) rfl rfl ?aP (fun _ hk => hk.elim) ?aF ?aO ?aB ?aS ?aL ?_; (case aP => exact rfl); (case aB => exact (pb HB)); (case aF => exact (fun _ _ => trivial)); (case aO => exact (pr HO_3)); (case aS => exact (below_size (pb HB))); (case aL => have := LMc7.out; omega); intro v361 w10 ho hb hg hat; rw [← Ny360.out] at ho; have n0_ := am (blk_grown (g := gb355) (o := .cells #[.int .i64 a0_0, .slice A0_1 l0_1.length c0_1] 25 (0, 0)) (pk BK355) hg (Kd.R_ne HO_3.out BK355.out (by decide))); have n1_ := am (hb); have n2_ := am (ho); clear BK355 HB HO_3; have BK355 := n0_; have HB := n1_; have HO362 := n2_; clear n0_ n1_ n2_ ho hb hg hat))
     go_roundg k1
     case measure => have := HK1.out; omega
     case rel => exact ⟨(y360), (wrap64 (x4_1 + 1)), (by first | rfl | (simp; done) | (simp [*]; done)), H', ⟨by have := HK1.out; omega⟩, ⟨by (with_reducible repeat (first | apply Kd.R_alloc | apply Kd.R_drewN | apply Kd.R_drew)); exact HO362.out⟩, ⟨by (with_reducible repeat (first | refine blk_drewN ?_ _ | refine blk_drew ?_ | refine blk_alloc ?_ _)); exact BK355.out⟩, ⟨pb HB⟩⟩
    ·
     rw [if_neg c7] at H
     exact absurd H (by simp)
   ·
    rw [if_neg c5] at H
    have c5b0 : decide (x4_1 < a0_0) = false := decide_eq_false c5
    clear c5
    obtain rfl := Option.some.inj H
    have hcz11_0 : wr.cell? ⟨gb355, 0, none⟩ = some (.int .i64 a0_0) := (blk_cell BK355.out 0).trans rfl
    have hcz11_1 : wr.cell? ⟨gb355, 1, none⟩ = some (.slice A0_1 l0_1.length c0_1) := (blk_cell BK355.out 1).trans rfl
    have hfz11_0 := blk_frozen BK355.out 0
    have hfz11_1 := blk_frozen BK355.out 1
    go_wp2
    go_ret
    exact ⟨_, by first | rfl | (simp [errW_none, errW_some] <;> rfl) | (simp [*, errW_none, errW_some] <;> rfl), by (with_reducible repeat (first | apply Kd.R_alloc | apply Kd.R_drewN | apply Kd.R_drew)); exact HO_3.out, pb HB⟩

/-! ### downpourref03_Apply: function 43 -/
def downpourref03_Apply.l0 : Nat → Int → List ByteArray → List ByteArray → List (S25) → Int → Int → Option (List ByteArray)
 | 0, _, _, _, _, _, _ => none
 | k + 1, x1, x2, x7, x12, x13, x14 => if x14 < x13 then (if 0 ≤ x14 then (if x14 < (x12.length : Int) then ((downpourref02_Bits.f k ((rd_T25 x12 x14).f0) ((rd_T25 x12 x14).f1)).bind fun t369 => ((downpourref02_Sum.f k x1 x2 t369).bind fun t372 => (if x7.length < 8796093022208 then (downpourref03_Apply.l0 k x1 x2 (x7 ++ [t372]) x12 x13 (wrap64 (x14 + 1))) else (none)))) else (none)) else (none)) else (some x7)
def downpourref03_Apply.f (k : Nat) (a0_0 : Int) (l0_1 : List (S25)) (a1 : Int) (l2 : List ByteArray) : Option (List ByteArray) := downpourref03_Apply.l0 k a1 l2 (([] : List ByteArray)) l0_1 (l0_1.length : Int) 0
theorem downpourref03_Apply.mono_l : ∀ k, (∀ y0 y1 y2 y3 y4 y5, LeO (downpourref03_Apply.l0 k y0 y1 y2 y3 y4 y5) (downpourref03_Apply.l0 (k + 1) y0 y1 y2 y3 y4 y5))
 | 0 => fun _ _ _ _ _ _ r h => by simp [downpourref03_Apply.l0] at h
 | k + 1 => by
  have ih0 := downpourref03_Apply.mono_l k
  ·
   intro y0 y1 y2 y3 y4 y5
   unfold downpourref03_Apply.l0
   repeat' first
   | (with_reducible exact ih0 _ _ _ _ _ _)
   | (with_reducible exact downpourref02_Bits.mono _ _ _)
   | (with_reducible exact downpourref02_Sum.mono _ _ _ _)
   | (with_reducible exact LeO.refl _)
   | (with_reducible exact LeO.none _)
   | (with_reducible refine LeO.ite ?_ ?_)
   | (with_reducible refine LeO.bind ?_ (fun _ => ?_))
   | exact ih0 _ _ _ _ _ _
   | exact downpourref02_Bits.mono _ _ _
   | exact downpourref02_Sum.mono _ _ _ _
   | exact LeO.none _
   | refine LeO.ite ?_ ?_
   | refine LeO.bind ?_ (fun _ => ?_)
theorem downpourref03_Apply.mono : ∀ a0 a1 a2 a3 k, LeO (downpourref03_Apply.f k a0 a1 a2 a3) (downpourref03_Apply.f (k + 1) a0 a1 a2 a3) := by
 intro a0 a1 a2 a3 k
 have ih0 := downpourref03_Apply.mono_l k
 unfold downpourref03_Apply.f
 repeat' first
   | (with_reducible exact ih0 _ _ _ _ _ _)
   | (with_reducible exact downpourref02_Bits.mono _ _ _)
   | (with_reducible exact downpourref02_Sum.mono _ _ _ _)
   | (with_reducible exact LeO.refl _)
   | (with_reducible exact LeO.none _)
   | (with_reducible refine LeO.ite ?_ ?_)
   | (with_reducible refine LeO.bind ?_ (fun _ => ?_))
   | exact ih0 _ _ _ _ _ _
   | exact downpourref02_Bits.mono _ _ _
   | exact downpourref02_Sum.mono _ _ _ _
   | exact LeO.none _
   | refine LeO.ite ?_ ?_
   | refine LeO.bind ?_ (fun _ => ?_)
set_option maxHeartbeats 8000000 in
set_option maxRecDepth 100000 in
theorem downpourref03_Apply.calls (k : Nat) (a0_0 : Int) (A0_1 : Option Addr) (c0_1 : Nat) (l0_1 : List (S25)) (a1 : Int) (A2 : Option Addr) (c2 : Nat) (l2 : List ByteArray) (r : List ByteArray) (w : World) (hr0_1 : Kd.C k25 w A0_1 l0_1.length l0_1) (hc0_1 : l0_1.length ≤ c0_1) (hr2 : Kd.C Kd.string w A2 l2.length l2) (hc2 : l2.length ≤ c2) (h : downpourref03_Apply.f k a0_0 l0_1 a1 l2 = some r) :
  Calls Tryd.prog 43 #[.agg #[.int .i64 a0_0, .slice A0_1 l0_1.length c0_1], .int .i64 a1, .slice A2 l2.length c2] w fun e w' => ∃ v0_ : Value, e = .returned (v0_) ∧ Kd.R Kd.string 9 w' w.heap.size (fun _ => True) v0_ r ∧ Below w.heap.size w w' := by
 have hu55 := Tryd.underlying55
 have hu25 := Tryd.underlying25
 have HR0_1 := Aside0.mk hr0_1
 have HC0_1 := Aside0.mk hc0_1
 clear hr0_1 hc0_1
 have HR2 := Aside0.mk hr2
 have HC2 := Aside0.mk hc2
 clear hr2 hc2
 have HB := am (Below.refl w.heap.size w)
 have H : (downpourref03_Apply.l0 k a1 l2 (([] : List ByteArray)) l0_1 (l0_1.length : Int) 0) = some r := h
 clear h
 obtain ⟨y364, hy364⟩ : ∃ y_ : List ByteArray, y_ = (([] : List ByteArray)) := ⟨_, rfl⟩
 replace H : (downpourref03_Apply.l0 k a1 l2 y364 l0_1 (l0_1.length : Int) 0) = some r := by first | (rw [hy364]; with_reducible exact H) | (have H2_ := (Option.bind_some _ _).symm.trans H; rw [hy364]; with_reducible exact H2_) | (have H2_ := (Option.bind_some _ _).symm.trans H; with_reducible exact H2_) | with_reducible exact H | (rw [hy364]; exact H) | exact H
 have Ny364 := Aside0.mk hy364
 clear hy364
 have H' := Aside0.mk H
 clear H
 go_enter Tryd.func43, Tryd.ntmps43
 go_wp2_with (first | ((with_reducible refine gate_dst (N := 3) rfl ?_); refine box_event ?hg (N := 3) ?hd (cs := #[.int .i64 a0_0, .slice A0_1 l0_1.length c0_1]) (t := 55) ?hr ?_; (case hd => rfl); (case hg => rfl); (case hr => first | (go_simp; done) | (go_simp; rfl)); intro gb363 hg w4 hbox hb; have n0_ := am (below_step (pb HB) hb); have n1_ := am (hbox); have n2_ := am ((by rw [hg]; exact (below_size (pb HB)) : w.heap.size ≤ gb363)); have n3_ := am ((by rw [hg]; exact (below_size (pb HB)) : w.heap.size ≤ gb363)); clear HB; have HB := n0_; have BK363 := n1_; have GW363 := n2_; have GE363 := n3_; clear n0_ n1_ n2_ n3_ hb hbox hg) | ((with_reducible refine gate_dst (N := 10) rfl ?_); refine Kd.R_lit Kd.string _ 9 ?hg (N := 10) ?hd (xs := ([] : List ByteArray)) (inner := []) (ok := fun _ => True) (okp := fun _ => True) ?hr ?hp (fun _ hk => hk) trivial (Below.refl _ _) (Nat.le_refl _) (by simp) ?_; (case hd => rfl); (case hg => rfl); (case hr => first | (go_simp; done) | (go_simp; rfl)); (case hp => exact (Reps.none _ _)); intro v365 w5 ho6 hb hg_ hnew_; clear hg_ hnew_; (first | rw [← Ny364.out] at ho6 | (simp only [Int.reduceToNat] at ho6; rw [← Ny364.out] at ho6)); have n0_ := am (Kd.R_lower ho6 (below_size (pb HB))); have n1_ := bb BK363 hb; have n2_ := am (below_step (pb HB) hb); clear BK363 HB; have HO366 := n0_; have BK363 := n1_; have HB := n2_; clear n0_ n1_ n2_ hb ho6; have hcz7_0 : w5.cell? ⟨gb363, 0, none⟩ = some (.int .i64 a0_0) := (blk_cell BK363.out 0).trans rfl; have hcz7_1 : w5.cell? ⟨gb363, 1, none⟩ = some (.slice A0_1 l0_1.length c0_1) := (blk_cell BK363.out 1).trans rfl; have hfz7_0 := blk_frozen BK363.out 0; have hfz7_1 := blk_frozen BK363.out 1))
 go_loopg [7, 14] k (fun kq v7 v14 w' => ∃ (x7_1 : List ByteArray) (x14_1 : Int), v14 = .int .i64 x14_1 ∧ Aside0 (downpourref03_Apply.l0 kq a1 l2 x7_1 l0_1 (l0_1.length : Int) x14_1 = some r) ∧ Aside0 (kq ≤ k) ∧ Aside0 (Kd.R Kd.string 9 w' w.heap.size (fun _ => True) v7 x7_1) ∧ Aside0 (w'.heap[gb363]? = some (.cells #[.int .i64 a0_0, (.slice A0_1 l0_1.length c0_1)] 55 (0, 0))) ∧ Aside0 (Below w.heap.size w w'))
 case atStart => exact ⟨(y364), (0), (by first | rfl | (simp; done) | (simp [*]; done)), H', ⟨Nat.le_refl _⟩, ⟨by (with_reducible repeat (first | apply Kd.R_alloc | apply Kd.R_drewN | apply Kd.R_drew)); exact HO366.out⟩, ⟨by (with_reducible repeat (first | refine blk_drewN ?_ _ | refine blk_drew ?_ | refine blk_alloc ?_ _)); exact BK363.out⟩, ⟨pb HB⟩⟩
 case round =>
  clear H'
  try clear c2
  try clear p2
  try clear c4
  try clear hcz7_0
  try clear hcz7_1
  try clear hfz7_0
  try clear hfz7_1
  obtain ⟨x7_1, x14_1, rfl, HA, HK1, HO_7, BK363, HB⟩ := hrel
  cases gk with
  | zero => exact absurd HA.out (by simp [downpourref03_Apply.l0])
  | succ k1 =>
   have H := HA.out
   clear HA
   simp only [downpourref03_Apply.l0] at H
   by_cases c8 : x14_1 < (l0_1.length : Int)
   ·
    rw [if_pos c8] at H
    have c8b0 : decide (x14_1 < (l0_1.length : Int)) = true := decide_eq_true c8
    clear c8
    by_cases c9 : 0 ≤ x14_1
    ·
     rw [if_pos c9] at H
     have c9b0 : decide (0 ≤ x14_1) = true := decide_eq_true c9
     clear c9
     by_cases c10 : x14_1 < (l0_1.length : Int)
     ·
      rw [if_pos c10] at H
      have c10b0 : decide (x14_1 < (l0_1.length : Int)) = true := decide_eq_true c10
      clear c10
      replace H := Option.bind_eq_some_iff.mp H
      obtain ⟨t369, A110, H⟩ := H
      replace H : ((downpourref02_Sum.f k1 a1 l2 t369).bind fun t372 => (if x7_1.length < 8796093022208 then (downpourref03_Apply.l0 k1 a1 l2 (x7_1 ++ [t372]) l0_1 (l0_1.length : Int) (wrap64 (x14_1 + 1))) else (none))) = some r := H
      have A11 := Aside0.mk A110
      clear A110
      replace H := Option.bind_eq_some_iff.mp H
      obtain ⟨t372, A120, H⟩ := H
      replace H : (if x7_1.length < 8796093022208 then (downpourref03_Apply.l0 k1 a1 l2 (x7_1 ++ [t372]) l0_1 (l0_1.length : Int) (wrap64 (x14_1 + 1))) else (none)) = some r := H
      have A12 := Aside0.mk A120
      clear A120
      by_cases c13 : x7_1.length < 8796093022208
      ·
       rw [if_pos c13] at H
       have LMc13 := Aside0.mk c13
       clear c13
       obtain ⟨y373, hy373⟩ : ∃ y_ : List ByteArray, y_ = (x7_1 ++ [t372]) := ⟨_, rfl⟩
       replace H : (downpourref03_Apply.l0 k1 a1 l2 y373 l0_1 (l0_1.length : Int) (wrap64 (x14_1 + 1))) = some r := by first | (rw [hy373]; with_reducible exact H) | (have H2_ := (Option.bind_some _ _).symm.trans H; rw [hy373]; with_reducible exact H2_) | (have H2_ := (Option.bind_some _ _).symm.trans H; with_reducible exact H2_) | with_reducible exact H | (rw [hy373]; exact H) | exact H
       have Ny373 := Aside0.mk hy373
       clear hy373
       have H' := Aside0.mk H
       clear H
       have p367 : 0 ≤ (x14_1 : Int) := of_decide_eq_true (by first | (with_reducible assumption) | assumption)
       have q367 : x14_1 < (l0_1.length : Int) := of_decide_eq_true (by first | (with_reducible assumption) | assumption)
       obtain ⟨ad367, A367_1, c367_1, e367, hx367_0, hx367_1, hl367_1, hi367_1⟩ := at_T25 HR0_1.out x14_1 p367 q367
       cases e367
       replace hx367_0 := (HB.out.cell (World.block_lt_of_cell? w _ hx367_0)).trans hx367_0
       replace hx367_1 := (HB.out.cell (World.block_lt_of_cell? w _ hx367_1)).trans hx367_1
       have HR367_1 := Aside0.mk hi367_1
       have HC367_1 := Aside0.mk hl367_1
       clear hi367_1 hl367_1
       replace p367 := eq_true p367
       replace q367 := eq_true q367
       go_wp2_with (first | ((with_reducible refine gate_dst (N := 9) rfl ?_); refine box_event ?hg (N := 9) ?hd (cs := #[.int .i64 0, .slice none 0 0]) (t := 25) ?hr ?_; (case hd => rfl); (case hg => rfl); (case hr => first | (go_simp; done) | (go_simp; rfl)); intro gb368 hg w14 hbox hb; have n0_ := am (Kd.R_below (pr HO_7) hb); have n1_ := bb BK363 hb; have n2_ := am (below_step (pb HB) hb); have n3_ := am (hbox); have n4_ := am ((by rw [hg]; exact (below_size (pb HB)) : w.heap.size ≤ gb368)); have n5_ := am ((by rw [hg]; exact (below_size (pb HB)) : w.heap.size ≤ gb368)); have n6_ := am ((by rw [hg]; exact Nat.ne_of_lt (bl BK363) : gb363 ≠ gb368)); have n7_ := am ((by rw [hg]; exact Nat.ne_of_gt (bl BK363) : gb368 ≠ gb363)); clear HO_7 BK363 HB; have HO_7 := n0_; have BK363 := n1_; have HB := n2_; have BK368 := n3_; have GW368 := n4_; have GE368 := n5_; have NB363_368 := n6_; have NB368_363 := n7_; clear n0_ n1_ n2_ n3_ n4_ n5_ n6_ n7_ hb hbox hg; have hnb15 := NB368_363.out; have hnc15 := NB363_368.out; have hcz16_0 : w14.cell? ⟨gb368, 0, none⟩ = some (.int .i64 0) := (blk_cell BK368.out 0).trans rfl; have hcz16_1 : w14.cell? ⟨gb368, 1, none⟩ = some (.slice none 0 0) := (blk_cell BK368.out 1).trans rfl; have hfz16_0 := blk_frozen BK368.out 0; have hfz16_1 := blk_frozen BK368.out 1) | ((with_reducible refine gate_callee (f := 17) rfl ?_); refine goesL_ (some 22) rfl rfl Tryd.func17 (by kernel_rfl) rfl #[.agg #[.int .i64 ((rd_T25 l0_1 x14_1).f0), .slice A367_1 ((rd_T25 l0_1 x14_1).f1).length c367_1]] rfl (by (try simp only [List.map_toArray, List.map_cons, List.map_nil]); first | done | rfl | (simp only [List.length_drop, List.length_take]; rfl)) ?_; (with_reducible refine (downpourref02_Bits.calls k1 ((rd_T25 l0_1 x14_1).f0) _ _ ((rd_T25 l0_1 x14_1).f1) t369 _ ?side1 ?side2 A11.out).mono ?_); (case side1 => exact Kd.C_below HR367_1.out (pb HB)); (case side2 => exact HC367_1.out); rintro e w17 ⟨v370, rfl, ho0, hb⟩; refine ⟨_, rfl, ?_⟩; have n0_ := am (Kd.R_below (by (with_reducible repeat (first | apply Kd.R_alloc | apply Kd.R_drewN | apply Kd.R_drew)); exact (Kd.R_mono (Kd.R_far (p := ⟨gb368, 1, none⟩) (Kd.R_far (p := ⟨gb368, 0, none⟩) (Kd.R_types HO_7.out BK368.out (by decide)) (fun _ hk => hk.2) (.int .i64 ((rd_T25 l0_1 x14_1).f0))) (fun _ hk => hk.2) (.slice A367_1 ((rd_T25 l0_1 x14_1).f1).length c367_1)) (fun _ h_ => h_.1))) hb); have n1_ := am (Kd.R_lower ho0 (below_size (pb HB))); have n2_ := am (blk_below (g := gb363) (o := .cells #[.int .i64 a0_0, .slice (some ad367) l0_1.length c0_1] 55 (0, 0)) (by (with_reducible repeat (first | refine blk_drewN ?_ _ | refine blk_drew ?_ | refine blk_alloc ?_ _)); refine blk_far ?_ NB363_368.out _; (with_reducible repeat (first | refine blk_drewN ?_ _ | refine blk_drew ?_ | refine blk_alloc ?_ _)); refine blk_far ?_ NB363_368.out _; (with_reducible repeat (first | refine blk_drewN ?_ _ | refine blk_drew ?_ | refine blk_alloc ?_ _)); exact BK363.out) hb); have n3_ := am (blk_below (g := gb368) (o := .cells #[.int .i64 ((rd_T25 l0_1 x14_1).f0), .slice A367_1 ((rd_T25 l0_1 x14_1).f1).length c367_1] 25 (0, 0)) (by (with_reducible repeat (first | refine blk_drewN ?_ _ | refine blk_drew ?_ | refine blk_alloc ?_ _)); refine blk_put (cs := #[.int .i64 ((rd_T25 l0_1 x14_1).f0), .slice none 0 0]) ?_ 1 _ rfl; (with_reducible repeat (first | refine blk_drewN ?_ _ | refine blk_drew ?_ | refine blk_alloc ?_ _)); refine blk_put (cs := #[.int .i64 0, .slice none 0 0]) ?_ 0 _ rfl; (with_reducible repeat (first | refine blk_drewN ?_ _ | refine blk_drew ?_ | refine blk_alloc ?_ _)); exact BK368.out) hb); have n4_ := am (below_step (pb HB) hb); clear HO_7 BK363 BK368 HB; have HO_7 := n0_; have HO371 := n1_; have BK363 := n2_; have BK368 := n3_; have HB := n4_; clear n0_ n1_ n2_ n3_ n4_; (try clear hb); (try clear hb2); (try clear hk); (try clear hi); (try clear ho0); obtain ⟨Ao18, co18, eo18⟩ := Kd.R_slice HO371.out; subst eo18) | ((with_reducible refine gate_callee (f := 16) rfl ?_); refine goesL_ (some 23) rfl rfl Tryd.func16 (by kernel_rfl) rfl #[.int .i64 a1, .slice A2 l2.length c2, .slice Ao18 t369.length co18] rfl (by (try simp only [List.map_toArray, List.map_cons, List.map_nil]); first | done | rfl | (simp only [List.length_drop, List.length_take]; rfl)) ?_; (with_reducible refine (downpourref02_Sum.calls k1 a1 _ _ l2 _ _ t369 t372 _ ?side1 ?side2 ?side3 ?side4 A12.out).mono ?_); (case side1 => repeat (first | exact (Kd.C_below HR2.out HB.out) | (with_reducible refine Kd.C_alloc ?_ _) | (with_reducible refine Kd.C_drewN ?_ _) | (with_reducible refine Kd.C_drew ?_))); (case side2 => exact HC2.out); (case side3 => repeat (first | exact (Kd.R_reads' HO371.out).2.2 | (with_reducible refine Kd.C_alloc ?_ _) | (with_reducible refine Kd.C_drewN ?_ _) | (with_reducible refine Kd.C_drew ?_))); (case side4 => exact (Kd.R_reads' HO371.out).2.1); rintro e w19 ⟨rfl, hb⟩; refine ⟨_, rfl, ?_⟩; have n0_ := am (Kd.R_below (pr HO_7) hb); have n1_ := am (Kd.R_below (pr HO371) hb); have n2_ := bb BK363 hb; have n3_ := bb BK368 hb; have n4_ := am (below_step (pb HB) hb); clear HO_7 HO371 BK363 BK368 HB; have HO_7 := n0_; have HO371 := n1_; have BK363 := n2_; have BK368 := n3_; have HB := n4_; clear n0_ n1_ n2_ n3_ n4_; (try clear hb); (try clear hb2); (try clear hk); (try clear hi)) | ((with_reducible refine gate_builtin (b := .append) (xs := #[.tmp 18, .tmp 24]) rfl ?_); at_builtin; refine Kd.R_append Kd.string (w0 := w) w.heap.size rfl (.tmp 18) (.tmp 24) 22 9 (.string ⟨#[]⟩) 16 rfl Tryd.underlying22 info9 rfl (by decide) (by omega) u7 x7_1 t372 [.string t372] (fun _ => True) (fun _ => False) rfl rfl ?aP (fun _ hk => hk.elim) ?aF ?aO ?aB ?aS ?aL ?_; (case aP => exact rfl); (case aB => exact (pb HB)); (case aF => exact (fun _ _ => trivial)); (case aO => exact (pr HO_7)); (case aS => exact (below_size (pb HB))); (case aL => have := LMc13.out; omega); intro v374 w20 ho hb hg hat; rw [← Ny373.out] at ho; have n0_ := am (blk_grown (g := gb363) (o := .cells #[.int .i64 a0_0, .slice (some ad367) l0_1.length c0_1] 55 (0, 0)) (pk BK363) hg (Kd.R_ne HO_7.out BK363.out (by decide))); have n1_ := am (blk_grown (g := gb368) (o := .cells #[.int .i64 ((rd_T25 l0_1 x14_1).f0), .slice A367_1 ((rd_T25 l0_1 x14_1).f1).length c367_1] 25 (0, 0)) (pk BK368) hg (Kd.R_ne HO_7.out BK368.out (by decide))); have n2_ := am (Kd.R_over' (pr HO371) (Kd.R_typed (pr HO_7)) (by decide) hg); have n3_ := am (hb); have n4_ := am (ho); clear BK363 BK368 HO371 HB HO_7; have BK363 := n0_; have BK368 := n1_; have HO371 := n2_; have HB := n3_; have HO375 := n4_; clear n0_ n1_ n2_ n3_ n4_ ho hb hg hat))
       go_roundg k1
       case measure => have := HK1.out; omega
       case rel => exact ⟨(y373), (wrap64 (x14_1 + 1)), (by first | rfl | (simp; done) | (simp [*]; done)), H', ⟨by have := HK1.out; omega⟩, ⟨by (with_reducible repeat (first | apply Kd.R_alloc | apply Kd.R_drewN | apply Kd.R_drew)); exact HO375.out⟩, ⟨by (with_reducible repeat (first | refine blk_drewN ?_ _ | refine blk_drew ?_ | refine blk_alloc ?_ _)); exact BK363.out⟩, ⟨pb HB⟩⟩
      ·
       rw [if_neg c13] at H
       exact absurd H (by simp)
     ·
      rw [if_neg c10] at H
      exact absurd H (by simp)
    ·
     rw [if_neg c9] at H
     exact absurd H (by simp)
   ·
    rw [if_neg c8] at H
    have c8b0 : decide (x14_1 < (l0_1.length : Int)) = false := decide_eq_false c8
    clear c8
    obtain rfl := Option.some.inj H
    go_wp2
    go_ret
    exact ⟨_, by first | rfl | (simp [errW_none, errW_some] <;> rfl) | (simp [*, errW_none, errW_some] <;> rfl), by (with_reducible repeat (first | apply Kd.R_alloc | apply Kd.R_drewN | apply Kd.R_drew)); exact HO_7.out, pb HB⟩

end Go.Proofs.YtfcedhejbnoinaaDoor.PM
