-- PRINTED by print.py (a twelfth state) out of the translation. Not trusted: Lean checks it.
import Derived.Test.YtfcedhejbnoinaaDoorPMx0
import Derived.Test.YtfcedhejbnoinaaDoorPMx7
import Derived.Test.YtfcedhejbnoinaaDoorPMx9
namespace Go.Proofs.YtfcedhejbnoinaaDoor.PM
open Go.RowKit Go.Proofs.YtfcedhejbnoinaaDoorW.PrintWords Go.Proofs.YtfcedhejbnoinaaDoorW.PrintLast Go.Proofs.YtfcedhejbnoinaaDoorW.PrintMore
open Bool renaming true → T, false → F
open List renaming setIfInBounds_toArray → q1, set_cons_zero → q2, set_cons_succ → q3
attribute [local go_sem] run_store_func max2_int min2_int max_two min_two max_three min_three max_four min_four   -- for this text's walks alone
set_option linter.unusedVariables false
set_option linter.unusedSimpArgs false

/-! ### downpourref01_From: function 75 -/
mutual
def downpourref01_From.l0 : Nat → List Int → Int → Int → List Int → Option (Int × List Int)
 | 0, _, _, _, _ => none
 | k + 1, x0, x4, x320000, x320001 => (downpourref01_words.f (x0.length : Int)).bind fun t320 => (if x4 < t320 then (downpourref01_From.l1 k x0 x4 0 63 x320000 x320001) else (some (x320000, x320001)))
def downpourref01_From.l1 : Nat → List Int → Int → Int → Int → Int → List Int → Option (Int × List Int)
 | 0, _, _, _, _, _, _ => none
 | k + 1, x0, x4, x5, x6, x320000, x320001 => if x6 ≥ 0 then (if (wrap64 ((wrap64 (64 * x4)) + x6)) < (x0.length : Int) then (if 0 ≤ (wrap64 ((wrap64 (64 * x4)) + x6)) then (if (rd x0 (wrap64 ((wrap64 (64 * x4)) + x6))) = 1 then (downpourref01_From.l1 k x0 x4 (IntKind.u64.wrap ((IntKind.u64.wrap (2 * x5)) + 1)) (wrap64 (x6 - 1)) x320000 x320001) else (downpourref01_From.l1 k x0 x4 (IntKind.u64.wrap (2 * x5)) (wrap64 (x6 - 1)) x320000 x320001)) else (none)) else (downpourref01_From.l1 k x0 x4 (IntKind.u64.wrap (2 * x5)) (wrap64 (x6 - 1)) x320000 x320001)) else (if x320001.length < 17592186044416 then (downpourref01_From.l0 k x0 (wrap64 (x4 + 1)) x320000 (x320001 ++ [x5])) else (none))
end
def downpourref01_From.f (k : Nat) (l0 : List Int) : Option (Int × List Int) := downpourref01_From.l0 k l0 0 (l0.length : Int) ([] : List Int)
theorem downpourref01_From.mono_l : ∀ k, (∀ y0 y1 y2 y3, LeO (downpourref01_From.l0 k y0 y1 y2 y3) (downpourref01_From.l0 (k + 1) y0 y1 y2 y3)) ∧ (∀ y0 y1 y2 y3 y4 y5, LeO (downpourref01_From.l1 k y0 y1 y2 y3 y4 y5) (downpourref01_From.l1 (k + 1) y0 y1 y2 y3 y4 y5))
 | 0 => ⟨fun _ _ _ _ r h => by simp [downpourref01_From.l0] at h, fun _ _ _ _ _ _ r h => by simp [downpourref01_From.l1] at h⟩
 | k + 1 => by
  obtain ⟨ih0, ih1⟩ := downpourref01_From.mono_l k
  refine ⟨?_, ?_⟩
  ·
   intro y0 y1 y2 y3
   unfold downpourref01_From.l0
   repeat' first
   | (with_reducible exact ih0 _ _ _ _)
   | (with_reducible exact ih1 _ _ _ _ _ _)
   | (with_reducible exact LeO.refl _)
   | (with_reducible exact LeO.none _)
   | (with_reducible refine LeO.ite ?_ ?_)
   | (with_reducible refine LeO.bind ?_ (fun _ => ?_))
   | exact ih0 _ _ _ _
   | exact ih1 _ _ _ _ _ _
   | exact LeO.none _
   | refine LeO.ite ?_ ?_
   | refine LeO.bind ?_ (fun _ => ?_)
  ·
   intro y0 y1 y2 y3 y4 y5
   unfold downpourref01_From.l1
   repeat' first
   | (with_reducible exact ih0 _ _ _ _)
   | (with_reducible exact ih1 _ _ _ _ _ _)
   | (with_reducible exact LeO.refl _)
   | (with_reducible exact LeO.none _)
   | (with_reducible refine LeO.ite ?_ ?_)
   | (with_reducible refine LeO.bind ?_ (fun _ => ?_))
   | exact ih0 _ _ _ _
   | exact ih1 _ _ _ _ _ _
   | exact LeO.none _
   | refine LeO.ite ?_ ?_
   | refine LeO.bind ?_ (fun _ => ?_)
theorem downpourref01_From.mono : ∀ a0 k, LeO (downpourref01_From.f k a0) (downpourref01_From.f (k + 1) a0) := by
 intro a0 k
 obtain ⟨ih0, ih1⟩ := downpourref01_From.mono_l k
 unfold downpourref01_From.f
 repeat' first
   | (with_reducible exact ih0 _ _ _ _)
   | (with_reducible exact ih1 _ _ _ _ _ _)
   | (with_reducible exact LeO.refl _)
   | (with_reducible exact LeO.none _)
   | (with_reducible refine LeO.ite ?_ ?_)
   | (with_reducible refine LeO.bind ?_ (fun _ => ?_))
   | exact ih0 _ _ _ _
   | exact ih1 _ _ _ _ _ _
   | exact LeO.none _
   | refine LeO.ite ?_ ?_
   | refine LeO.bind ?_ (fun _ => ?_)
set_option maxHeartbeats 8000000 in
set_option maxRecDepth 100000 in
theorem downpourref01_From.calls (k : Nat) (A0 : Option Addr) (c0 : Nat) (l0 : List Int) (r1 : Int) (r2 : List Int) (w : World) (hr0 : Kd.C (Kd.int .i64) w A0 l0.length l0) (hc0 : l0.length ≤ c0) (h : downpourref01_From.f k l0 = some (r1, r2)) :
  Calls Tryd.prog 75 #[.slice A0 l0.length c0] w fun e w' => ∃ v1_ : Value, e = .returned (.agg #[.int .i64 r1, v1_]) ∧ Kd.R (Kd.int .u64) 90 w' w.heap.size (fun _ => True) v1_ r2 ∧ Below w.heap.size w w' := by
 have hu25 := Tryd.underlying25
 have HR0 := Aside0.mk hr0
 have HC0 := Aside0.mk hc0
 clear hr0 hc0
 have HB := am (Below.refl w.heap.size w)
 have H : (downpourref01_From.l0 k l0 0 (l0.length : Int) ([] : List Int)) = some (r1, r2) := h
 clear h
 have H' := Aside0.mk H
 clear H
 go_enter Tryd.func75, Tryd.ntmps75
 go_wp2_with (first | ((with_reducible refine gate_dst (N := 2) rfl ?_); refine box_event ?hg (N := 2) ?hd (cs := #[.int .i64 0, .slice none 0 0]) (t := 25) ?hr ?_; (case hd => rfl); (case hg => rfl); (case hr => first | (go_simp; done) | (go_simp; rfl)); intro gb318 hg w2 hbox hb; have n0_ := am (below_step (pb HB) hb); have n1_ := am (hbox); have n2_ := am ((by rw [hg]; exact (below_size (pb HB)) : w.heap.size ≤ gb318)); have n3_ := am ((by rw [hg]; exact (below_size (pb HB)) : w.heap.size ≤ gb318)); clear HB; have HB := n0_; have BK318 := n1_; have GW318 := n2_; have GE318 := n3_; clear n0_ n1_ n2_ n3_ hb hbox hg) | ((with_reducible refine gate_dst (N := 3) rfl ?_); refine box_event ?hg (N := 3) ?hd (cs := #[.int .i64 0, .slice none 0 0]) (t := 25) ?hr ?_; (case hd => rfl); (case hg => rfl); (case hr => first | (go_simp; done) | (go_simp; rfl)); intro gb319 hg w3 hbox hb; have n0_ := bb BK318 hb; have n1_ := am (below_step (pb HB) hb); have n2_ := am (hbox); have n3_ := am ((by rw [hg]; exact (below_size (pb HB)) : w.heap.size ≤ gb319)); have n4_ := am ((by rw [hg]; exact (below_size (pb HB)) : w.heap.size ≤ gb319)); have n5_ := am ((by rw [hg]; exact Nat.ne_of_lt (bl BK318) : gb318 ≠ gb319)); have n6_ := am ((by rw [hg]; exact Nat.ne_of_gt (bl BK318) : gb319 ≠ gb318)); clear BK318 HB; have BK318 := n0_; have HB := n1_; have BK319 := n2_; have GW319 := n3_; have GE319 := n4_; have NB318_319 := n5_; have NB319_318 := n6_; clear n0_ n1_ n2_ n3_ n4_ n5_ n6_ hb hbox hg; have hnb4 := NB319_318.out; have hnc4 := NB318_319.out; have hcz5_0 : w3.cell? ⟨gb319, 0, none⟩ = some (.int .i64 0) := (blk_cell BK319.out 0).trans rfl; have hcz5_1 : w3.cell? ⟨gb319, 1, none⟩ = some (.slice none 0 0) := (blk_cell BK319.out 1).trans rfl; have hfz5_0 := blk_frozen BK319.out 0; have hfz5_1 := blk_frozen BK319.out 1))
 go_loopg [4] k (fun kq v4 w' => ∃ (x4_1 : Int) (x320001_1 : List Int) (u320001 : Value), v4 = .int .i64 x4_1 ∧ Aside0 (downpourref01_From.l0 kq l0 x4_1 (l0.length : Int) x320001_1 = some (r1, r2)) ∧ Aside0 (kq ≤ k) ∧ Aside0 (Kd.R (Kd.int .u64) 90 w' w.heap.size (fun _ => True) u320001 x320001_1) ∧ Aside0 (w'.heap[gb318]? = some (.cells #[.int .i64 0, (.slice none 0 0)] 25 (0, 0))) ∧ Aside0 (w'.heap[gb319]? = some (.cells #[.int .i64 (l0.length : Int), u320001] 25 (0, 0))) ∧ Aside0 (Below w.heap.size w w'))
 case atStart => exact ⟨(0), (([] : List Int)), (.slice none 0 0), (by first | rfl | (simp; done) | (simp [*]; done)), H', ⟨Nat.le_refl _⟩, ⟨by first | exact Kd.R_nil _ _ _ _ _ | exact Kd.N_nil _ _ _ _ _ | exact Kd.V_nil _ _ _ _ _ | exact Kd.Q_nil _ _ _ _ _ | exact Kd.S_nil _ _ _ _ _⟩, ⟨by (with_reducible repeat (first | refine blk_drewN ?_ _ | refine blk_drew ?_ | refine blk_alloc ?_ _)); refine blk_far ?_ NB318_319.out _; (with_reducible repeat (first | refine blk_drewN ?_ _ | refine blk_drew ?_ | refine blk_alloc ?_ _)); refine blk_far ?_ NB318_319.out _; (with_reducible repeat (first | refine blk_drewN ?_ _ | refine blk_drew ?_ | refine blk_alloc ?_ _)); exact BK318.out⟩, ⟨by (with_reducible repeat (first | refine blk_drewN ?_ _ | refine blk_drew ?_ | refine blk_alloc ?_ _)); refine blk_put (cs := #[.int .i64 (l0.length : Int), .slice none 0 0]) ?_ 1 _ rfl; (with_reducible repeat (first | refine blk_drewN ?_ _ | refine blk_drew ?_ | refine blk_alloc ?_ _)); refine blk_put (cs := #[.int .i64 0, .slice none 0 0]) ?_ 0 _ rfl; (with_reducible repeat (first | refine blk_drewN ?_ _ | refine blk_drew ?_ | refine blk_alloc ?_ _)); exact BK319.out⟩, ⟨pb HB⟩⟩
 case round =>
  clear H'
  try clear p2
  try clear c4
  try clear hcz5_0
  try clear hcz5_1
  try clear hfz5_0
  try clear hfz5_1
  obtain ⟨x4_1, x320001_1, u320001, rfl, HA, HK1, HO_320001, BK318, BK319, HB⟩ := hrel
  cases gk with
  | zero => exact absurd HA.out (by simp [downpourref01_From.l0])
  | succ k1 =>
   have H := HA.out
   clear HA
   simp only [downpourref01_From.l0] at H
   replace H := Option.bind_eq_some_iff.mp H
   obtain ⟨t320, A60, H⟩ := H
   replace H : (if x4_1 < t320 then (downpourref01_From.l1 k1 l0 x4_1 0 63 (l0.length : Int) x320001_1) else (some ((l0.length : Int), x320001_1))) = some (r1, r2) := H
   have A6 := Aside0.mk A60
   clear A60
   by_cases c7 : x4_1 < t320
   ·
    rw [if_pos c7] at H
    have c7b0 : decide (x4_1 < t320) = true := decide_eq_true c7
    clear c7
    have H' := Aside0.mk H
    clear H
    go_wp2_with (first | ((with_reducible refine gate_callee (f := 62) rfl ?_); refine goesL_ (some 13) rfl rfl Tryd.func62 (by kernel_rfl) rfl #[.int .i64 (l0.length : Int)] rfl (by (try simp only [List.map_toArray, List.map_cons, List.map_nil]); first | done | rfl | (simp only [List.length_drop, List.length_take]; rfl)) ?_; (with_reducible refine (downpourref01_words.calls (l0.length : Int) t320 _ A6.out).mono ?_); rintro e w' ⟨rfl, ⟨nd, rfl⟩⟩; refine ⟨_, rfl, ?_⟩))
    go_loopg [5, 6] k1 (fun kq v5 v6 w' => ∃ (x5_2 : Int) (x6_2 : Int), v5 = .int .u64 x5_2 ∧ v6 = .int .i64 x6_2 ∧ Aside0 (downpourref01_From.l1 kq l0 x4_1 x5_2 x6_2 (l0.length : Int) x320001_1 = some (r1, r2)) ∧ Aside0 (kq ≤ k1) ∧ Aside0 (Kd.R (Kd.int .u64) 90 w' w.heap.size (fun _ => True) u320001 x320001_1) ∧ Aside0 (w'.heap[gb318]? = some (.cells #[.int .i64 0, (.slice none 0 0)] 25 (0, 0))) ∧ Aside0 (w'.heap[gb319]? = some (.cells #[.int .i64 (l0.length : Int), u320001] 25 (0, 0))) ∧ Aside0 (Below w.heap.size w w'))
    case atStart => exact ⟨(0), (63), (by first | rfl | (simp; done) | (simp [*]; done)), (by first | rfl | (simp; done) | (simp [*]; done)), H', ⟨Nat.le_refl _⟩, ⟨by (with_reducible repeat (first | apply Kd.R_alloc | apply Kd.R_drewN | apply Kd.R_drew)); exact HO_320001.out⟩, ⟨by (with_reducible repeat (first | refine blk_drewN ?_ _ | refine blk_drew ?_ | refine blk_alloc ?_ _)); exact BK318.out⟩, ⟨by (with_reducible repeat (first | refine blk_drewN ?_ _ | refine blk_drew ?_ | refine blk_alloc ?_ _)); exact BK319.out⟩, ⟨pb HB⟩⟩
    case round =>
     clear H'
     try clear p2
     try clear c4
     try clear c6
     try clear c7
     try clear c7b0
     try clear hcz5_0
     try clear hcz5_1
     try clear hfz5_0
     try clear hfz5_1
     try clear p2
     obtain ⟨x5_2, x6_2, rfl, rfl, HA, HK2, HO_320001, BK318, BK319, HB⟩ := hrel
     cases gk with
     | zero => exact absurd HA.out (by simp [downpourref01_From.l1])
     | succ k2 =>
      have H := HA.out
      clear HA
      simp only [downpourref01_From.l1] at H
      by_cases c8 : x6_2 ≥ 0
      ·
       rw [if_pos c8] at H
       have c8b0 : decide (0 ≤ x6_2) = true := decide_eq_true c8
       clear c8
       by_cases c9 : (wrap64 ((wrap64 (64 * x4_1)) + x6_2)) < (l0.length : Int)
       ·
        rw [if_pos c9] at H
        have c9b0 : decide ((wrap64 ((wrap64 (64 * x4_1)) + x6_2)) < (l0.length : Int)) = true := decide_eq_true c9
        clear c9
        obtain ⟨ji10, hji10⟩ : ∃ j_ : Int, (wrap64 ((wrap64 (64 * x4_1)) + x6_2)) = j_ := ⟨_, rfl⟩
        replace H : (if 0 ≤ (ji10) then (if (rd l0 (ji10)) = 1 then (downpourref01_From.l1 k2 l0 x4_1 (IntKind.u64.wrap ((IntKind.u64.wrap (2 * x5_2)) + 1)) (wrap64 (x6_2 - 1)) (l0.length : Int) x320001_1) else (downpourref01_From.l1 k2 l0 x4_1 (IntKind.u64.wrap (2 * x5_2)) (wrap64 (x6_2 - 1)) (l0.length : Int) x320001_1)) else (none)) = some (r1, r2) := by first | (rw [hji10] at H; exact H) | (simp only [hji10] at H ⊢; exact H)
        (try rw [hji10] at c9b0)
        have hji10w : (IntKind.i64.wrap ((wrap64 (64 * x4_1)) + x6_2)) = ji10 := (i64_w _).trans hji10
        by_cases c11 : 0 ≤ (ji10)
        ·
         rw [if_pos c11] at H
         have c11b0 : decide (0 ≤ (ji10)) = true := decide_eq_true c11
         clear c11
         by_cases c12 : (rd l0 (ji10)) = 1
         ·
          rw [if_pos c12] at H
          have c12b0 : ((rd l0 (ji10)) == 1) = true := beq_iff_eq.mpr c12
          have c12b1 : ((rd l0 (ji10)) != 1) = false := bne_eq_false_iff_eq.mpr c12
          clear c12
          have H' := Aside0.mk H
          clear H
          have p321 : 0 ≤ ((ji10) : Int) := of_decide_eq_true (by first | (with_reducible assumption) | assumption)
          have q321 : (ji10) < (l0.length : Int) := of_decide_eq_true (by first | (with_reducible assumption) | assumption)
          obtain ⟨ad321, e321, hx321_0⟩ := Kd.at_int HR0.out (ji10) p321 q321
          cases e321
          replace hx321_0 := (HB.out.cell (World.block_lt_of_cell? w _ hx321_0)).trans hx321_0
          replace p321 := eq_true p321
          replace q321 := eq_true q321
          go_wp2
          go_roundg k2
          case measure => have := HK1.out; have := HK2.out; omega
          case rel => exact ⟨(IntKind.u64.wrap ((IntKind.u64.wrap (2 * x5_2)) + 1)), (wrap64 (x6_2 - 1)), (by first | rfl | (simp; done) | (simp [*]; done)), (by first | rfl | (simp; done) | (simp [*]; done)), H', ⟨by have := HK1.out; have := HK2.out; omega⟩, ⟨by (with_reducible repeat (first | apply Kd.R_alloc | apply Kd.R_drewN | apply Kd.R_drew)); exact HO_320001.out⟩, ⟨by (with_reducible repeat (first | refine blk_drewN ?_ _ | refine blk_drew ?_ | refine blk_alloc ?_ _)); exact BK318.out⟩, ⟨by (with_reducible repeat (first | refine blk_drewN ?_ _ | refine blk_drew ?_ | refine blk_alloc ?_ _)); exact BK319.out⟩, ⟨pb HB⟩⟩
         ·
          rw [if_neg c12] at H
          have c12b0 : ((rd l0 (ji10)) == 1) = false := beq_eq_false_iff_ne.mpr c12
          have c12b1 : ((rd l0 (ji10)) != 1) = true := bne_iff_ne.mpr c12
          have H' := Aside0.mk H
          clear H
          have p321 : 0 ≤ ((ji10) : Int) := of_decide_eq_true (by first | (with_reducible assumption) | assumption)
          have q321 : (ji10) < (l0.length : Int) := of_decide_eq_true (by first | (with_reducible assumption) | assumption)
          obtain ⟨ad321, e321, hx321_0⟩ := Kd.at_int HR0.out (ji10) p321 q321
          cases e321
          replace hx321_0 := (HB.out.cell (World.block_lt_of_cell? w _ hx321_0)).trans hx321_0
          replace p321 := eq_true p321
          replace q321 := eq_true q321
          go_wp2
          go_roundg k2
          case measure => have := HK1.out; have := HK2.out; omega
          case rel => exact ⟨(IntKind.u64.wrap (2 * x5_2)), (wrap64 (x6_2 - 1)), (by first | rfl | (simp; done) | (simp [*]; done)), (by first | rfl | (simp; done) | (simp [*]; done)), H', ⟨by have := HK1.out; have := HK2.out; omega⟩, ⟨by (with_reducible repeat (first | apply Kd.R_alloc | apply Kd.R_drewN | apply Kd.R_drew)); exact HO_320001.out⟩, ⟨by (with_reducible repeat (first | refine blk_drewN ?_ _ | refine blk_drew ?_ | refine blk_alloc ?_ _)); exact BK318.out⟩, ⟨by (with_reducible repeat (first | refine blk_drewN ?_ _ | refine blk_drew ?_ | refine blk_alloc ?_ _)); exact BK319.out⟩, ⟨pb HB⟩⟩
        ·
         rw [if_neg c11] at H
         exact absurd H (by simp)
       ·
        rw [if_neg c9] at H
        have c9b0 : decide ((wrap64 ((wrap64 (64 * x4_1)) + x6_2)) < (l0.length : Int)) = false := decide_eq_false c9
        clear c9
        have H' := Aside0.mk H
        clear H
        go_wp2
        go_roundg k2
        case measure => have := HK1.out; have := HK2.out; omega
        case rel => exact ⟨(IntKind.u64.wrap (2 * x5_2)), (wrap64 (x6_2 - 1)), (by first | rfl | (simp; done) | (simp [*]; done)), (by first | rfl | (simp; done) | (simp [*]; done)), H', ⟨by have := HK1.out; have := HK2.out; omega⟩, ⟨by (with_reducible repeat (first | apply Kd.R_alloc | apply Kd.R_drewN | apply Kd.R_drew)); exact HO_320001.out⟩, ⟨by (with_reducible repeat (first | refine blk_drewN ?_ _ | refine blk_drew ?_ | refine blk_alloc ?_ _)); exact BK318.out⟩, ⟨by (with_reducible repeat (first | refine blk_drewN ?_ _ | refine blk_drew ?_ | refine blk_alloc ?_ _)); exact BK319.out⟩, ⟨pb HB⟩⟩
      ·
       rw [if_neg c8] at H
       have c8b0 : decide (0 ≤ x6_2) = false := decide_eq_false c8
       clear c8
       by_cases c13 : x320001_1.length < 17592186044416
       ·
        rw [if_pos c13] at H
        have LMc13 := Aside0.mk c13
        clear c13
        obtain ⟨y322, hy322⟩ : ∃ y_ : List Int, y_ = (x320001_1 ++ [x5_2]) := ⟨_, rfl⟩
        replace H : (downpourref01_From.l0 k2 l0 (wrap64 (x4_1 + 1)) (l0.length : Int) y322) = some (r1, r2) := by first | (rw [hy322]; with_reducible exact H) | (have H2_ := (Option.bind_some _ _).symm.trans H; rw [hy322]; with_reducible exact H2_) | (have H2_ := (Option.bind_some _ _).symm.trans H; with_reducible exact H2_) | with_reducible exact H | (rw [hy322]; exact H) | exact H
        have Ny322 := Aside0.mk hy322
        clear hy322
        have H' := Aside0.mk H
        clear H
        have hnb14 := NB319_318.out
        have hnc14 := NB318_319.out
        have hcz15_0 : wr.cell? ⟨gb319, 0, none⟩ = some (.int .i64 (l0.length : Int)) := (blk_cell BK319.out 0).trans rfl
        have hcz15_1 : wr.cell? ⟨gb319, 1, none⟩ = some (u320001) := (blk_cell BK319.out 1).trans rfl
        have hfz15_0 := blk_frozen BK319.out 0
        have hfz15_1 := blk_frozen BK319.out 1
        go_wp2_with (first | ((with_reducible refine gate_builtin (b := .append) (xs := #[.tmp 43, .tmp 45]) rfl ?_); at_builtin; refine Kd.R_append (Kd.int .u64) (w0 := w) w.heap.size rfl (.tmp 43) (.tmp 45) 23 90 (.int .u64 0) 8 rfl Tryd.underlying23 info90 rfl (by decide) (by omega) u320001 x320001_1 x5_2 [.int .u64 x5_2] (fun _ => True) (fun _ => False) rfl rfl ?aP (fun _ hk => hk.elim) ?aF ?aO ?aB ?aS ?aL ?_; (case aP => exact rfl); (case aB => exact (pb HB)); (case aF => exact (fun _ _ => trivial)); (case aO => exact (pr HO_320001)); (case aS => exact (below_size (pb HB))); (case aL => have := LMc13.out; omega); intro v323 w16 ho hb hg hat; rw [← Ny322.out] at ho; have n0_ := am (blk_grown (g := gb318) (o := .cells #[.int .i64 0, .slice none 0 0] 25 (0, 0)) (pk BK318) hg (Kd.R_ne HO_320001.out BK318.out (by decide))); have n1_ := am (blk_grown (g := gb319) (o := .cells #[.int .i64 (l0.length : Int), u320001] 25 (0, 0)) (pk BK319) hg (Kd.R_ne HO_320001.out BK319.out (by decide))); have n2_ := am (hb); have n3_ := am (ho); clear BK318 BK319 HB HO_320001; have BK318 := n0_; have BK319 := n1_; have HB := n2_; have HO324 := n3_; clear n0_ n1_ n2_ n3_ ho hb hg hat; obtain ⟨Ao17, co17, eo17⟩ := Kd.R_slice HO324.out; subst eo17; have hcz18_0 : w16.cell? ⟨gb319, 0, none⟩ = some (.int .i64 (l0.length : Int)) := (blk_cell BK319.out 0).trans rfl; have hcz18_1 : w16.cell? ⟨gb319, 1, none⟩ = some (u320001) := (blk_cell BK319.out 1).trans rfl; have hfz18_0 := blk_frozen BK319.out 0; have hfz18_1 := blk_frozen BK319.out 1))
        go_roundg k2
        case measure => have := HK1.out; have := HK2.out; omega
        case rel => exact ⟨(wrap64 (x4_1 + 1)), (y322), (.slice Ao17 y322.length co17), (by first | rfl | (simp; done) | (simp [*]; done)), H', ⟨by have := HK1.out; have := HK2.out; omega⟩, ⟨by (with_reducible repeat (first | apply Kd.R_alloc | apply Kd.R_drewN | apply Kd.R_drew)); exact Kd.R_mono (Kd.R_far (p := ⟨gb319, 1, none⟩) (Kd.R_types HO324.out BK319.out (by decide)) (fun _ hk => hk.2) (.slice Ao17 y322.length co17)) (fun _ hk => trivial)⟩, ⟨by (with_reducible repeat (first | refine blk_drewN ?_ _ | refine blk_drew ?_ | refine blk_alloc ?_ _)); refine blk_far ?_ NB318_319.out _; (with_reducible repeat (first | refine blk_drewN ?_ _ | refine blk_drew ?_ | refine blk_alloc ?_ _)); exact BK318.out⟩, ⟨by (with_reducible repeat (first | refine blk_drewN ?_ _ | refine blk_drew ?_ | refine blk_alloc ?_ _)); refine blk_put (cs := #[.int .i64 (l0.length : Int), u320001]) ?_ 1 _ rfl; (with_reducible repeat (first | refine blk_drewN ?_ _ | refine blk_drew ?_ | refine blk_alloc ?_ _)); exact BK319.out⟩, ⟨pb HB⟩⟩
       ·
        rw [if_neg c13] at H
        exact absurd H (by simp)
   ·
    rw [if_neg c7] at H
    have c7b0 : decide (x4_1 < t320) = false := decide_eq_false c7
    clear c7
    simp only [Option.some.injEq, Prod.mk.injEq] at H
    obtain ⟨rfl, rfl⟩ := H
    go_wp2_with (first | ((with_reducible refine gate_callee (f := 62) rfl ?_); refine goesL_ (some 13) rfl rfl Tryd.func62 (by kernel_rfl) rfl #[.int .i64 (l0.length : Int)] rfl (by (try simp only [List.map_toArray, List.map_cons, List.map_nil]); first | done | rfl | (simp only [List.length_drop, List.length_take]; rfl)) ?_; (with_reducible refine (downpourref01_words.calls (l0.length : Int) t320 _ A6.out).mono ?_); rintro e w' ⟨rfl, ⟨nd, rfl⟩⟩; refine ⟨_, rfl, ?_⟩; (try (rw [drewN_self wr]; generalize hq_ : World.drewN wr _ = wr; have n0_ : Aside0 (Kd.R (Kd.int .u64) 90 wr w.heap.size (fun _ => True) u320001 x320001_1) := ⟨by rw [← hq_]; exact (pr HO_320001)⟩; have n1_ : Aside0 (wr.heap[gb318]? = some (.cells #[.int .i64 0, .slice none 0 0] 25 (0, 0))) := ⟨by rw [← hq_]; exact (pk BK318)⟩; have n2_ : Aside0 (wr.heap[gb319]? = some (.cells #[.int .i64 (l0.length : Int), u320001] 25 (0, 0))) := ⟨by rw [← hq_]; exact (pk BK319)⟩; have n3_ : Aside0 (Below w.heap.size w wr) := ⟨by rw [← hq_]; exact (pb HB)⟩; clear HO_320001 BK318 BK319 HB hq_; have HO_320001 := n0_; have BK318 := n1_; have BK319 := n2_; have HB := n3_; clear n0_ n1_ n2_ n3_)); have hnb19 := NB319_318.out; have hnc19 := NB318_319.out; have hcz20_0 : wr.cell? ⟨gb319, 0, none⟩ = some (.int .i64 (l0.length : Int)) := (blk_cell BK319.out 0).trans rfl; have hcz20_1 : wr.cell? ⟨gb319, 1, none⟩ = some (u320001) := (blk_cell BK319.out 1).trans rfl; have hfz20_0 := blk_frozen BK319.out 0; have hfz20_1 := blk_frozen BK319.out 1; have hcz21_0 : wr.cell? ⟨gb318, 0, none⟩ = some (.int .i64 0) := (blk_cell BK318.out 0).trans rfl; have hcz21_1 : wr.cell? ⟨gb318, 1, none⟩ = some (.slice none 0 0) := (blk_cell BK318.out 1).trans rfl; have hfz21_0 := blk_frozen BK318.out 0; have hfz21_1 := blk_frozen BK318.out 1; obtain ⟨Ao22, co22, eo22⟩ := Kd.R_slice HO_320001.out; subst eo22))
    refine bodyPost_ret (results_cell_row rfl _ _ gb318 25 #[.int .i64 (l0.length : Int), .slice Ao22 x320001_1.length co22] (0, 0) _ rfl (by (with_reducible repeat (first | refine blk_drewN ?_ _ | refine blk_drew ?_ | refine blk_alloc ?_ _)); refine blk_put (cs := #[.int .i64 (l0.length : Int), .slice none 0 0]) ?_ 1 _ rfl; (with_reducible repeat (first | refine blk_drewN ?_ _ | refine blk_drew ?_ | refine blk_alloc ?_ _)); refine blk_put (cs := #[.int .i64 0, .slice none 0 0]) ?_ 0 _ rfl; (with_reducible repeat (first | refine blk_drewN ?_ _ | refine blk_drew ?_ | refine blk_alloc ?_ _)); exact BK318.out) Tryd.underlying25 rfl (by kernel_rfl)) rfl ?_
    exact ⟨_, by first | rfl | (simp [errW_none, errW_some] <;> rfl) | (simp [*, errW_none, errW_some] <;> rfl), by (with_reducible repeat (first | apply Kd.R_alloc | apply Kd.R_drewN | apply Kd.R_drew)); exact Kd.R_mono (Kd.R_far (p := ⟨gb318, 1, none⟩) (Kd.R_far (p := ⟨gb318, 0, none⟩) (Kd.R_types HO_320001.out BK318.out (by decide)) (fun _ hk => hk.2) (.int .i64 (l0.length : Int))) (fun _ hk => hk.2) (.slice Ao22 x320001_1.length co22)) (fun _ hk => trivial), pb HB⟩

/-! ### downpourref03_Mul: function 41 -/
mutual
def downpourref03_Mul.l0 : Nat → List (S25) → Int → Int → Int → List (S25) → Int → List (S25) → Option (Int × (List (S25)))
 | 0, _, _, _, _, _, _, _ => none
 | k + 1, x14, x15, x16, x327000, x327001, x329000, x329001 => if x16 < x15 then (if 0 ≤ x16 then (if x16 < (x14.length : Int) then (downpourref03_Mul.l1 k (([] : List Int)) 0 x14 x15 x16 x327000 x327001 x329000 x329001 ((rd_T25 x14 x16).f0) ((rd_T25 x14 x16).f1)) else (none)) else (none)) else (some (x329000, x329001))
def downpourref03_Mul.l1 : Nat → List Int → Int → List (S25) → Int → Int → Int → List (S25) → Int → List (S25) → Int → List Int → Option (Int × (List (S25)))
 | 0, _, _, _, _, _, _, _, _, _, _, _ => none
 | k + 1, x8, x9, x14, x15, x16, x327000, x327001, x329000, x329001, x331000, x331001 => if x9 < x327000 then ((downpourref03_bit.f k x331000 x331001 x327000 x327001 x9).bind fun t334 => (if x8.length < 17592186044416 then (downpourref03_Mul.l1 k (x8 ++ [t334]) (wrap64 (x9 + 1)) x14 x15 x16 x327000 x327001 x329000 x329001 x331000 x331001) else (none))) else ((downpourref01_From.f k x8).bind fun bt338 => (if x329001.length < 4398046511104 then (downpourref03_Mul.l0 k x14 x15 (wrap64 (x16 + 1)) x327000 x327001 x329000 (x329001 ++ [(⟨bt338.1, bt338.2⟩ : S25)])) else (none)))
end
def downpourref03_Mul.f (k : Nat) (a0_0 : Int) (l0_1 : List (S25)) (a1_0 : Int) (l1_1 : List (S25)) : Option (Int × (List (S25))) := downpourref03_Mul.l0 k l0_1 (l0_1.length : Int) 0 a1_0 l1_1 a1_0 ([] : List (S25))
theorem downpourref03_Mul.mono_l : ∀ k, (∀ y0 y1 y2 y3 y4 y5 y6, LeO (downpourref03_Mul.l0 k y0 y1 y2 y3 y4 y5 y6) (downpourref03_Mul.l0 (k + 1) y0 y1 y2 y3 y4 y5 y6)) ∧ (∀ y0 y1 y2 y3 y4 y5 y6 y7 y8 y9 y10, LeO (downpourref03_Mul.l1 k y0 y1 y2 y3 y4 y5 y6 y7 y8 y9 y10) (downpourref03_Mul.l1 (k + 1) y0 y1 y2 y3 y4 y5 y6 y7 y8 y9 y10))
 | 0 => ⟨fun _ _ _ _ _ _ _ r h => by simp [downpourref03_Mul.l0] at h, fun _ _ _ _ _ _ _ _ _ _ _ r h => by simp [downpourref03_Mul.l1] at h⟩
 | k + 1 => by
  obtain ⟨ih0, ih1⟩ := downpourref03_Mul.mono_l k
  refine ⟨?_, ?_⟩
  ·
   intro y0 y1 y2 y3 y4 y5 y6
   unfold downpourref03_Mul.l0
   repeat' first
   | (with_reducible exact ih0 _ _ _ _ _ _ _)
   | (with_reducible exact ih1 _ _ _ _ _ _ _ _ _ _ _)
   | (with_reducible exact downpourref01_From.mono _ _)
   | (with_reducible exact downpourref03_bit.mono _ _ _ _ _ _)
   | (with_reducible exact LeO.refl _)
   | (with_reducible exact LeO.none _)
   | (with_reducible refine LeO.ite ?_ ?_)
   | (with_reducible refine LeO.bind ?_ (fun _ => ?_))
   | exact ih0 _ _ _ _ _ _ _
   | exact ih1 _ _ _ _ _ _ _ _ _ _ _
   | exact downpourref01_From.mono _ _
   | exact downpourref03_bit.mono _ _ _ _ _ _
   | exact LeO.none _
   | refine LeO.ite ?_ ?_
   | refine LeO.bind ?_ (fun _ => ?_)
  ·
   intro y0 y1 y2 y3 y4 y5 y6 y7 y8 y9 y10
   unfold downpourref03_Mul.l1
   repeat' first
   | (with_reducible exact ih0 _ _ _ _ _ _ _)
   | (with_reducible exact ih1 _ _ _ _ _ _ _ _ _ _ _)
   | (with_reducible exact downpourref01_From.mono _ _)
   | (with_reducible exact downpourref03_bit.mono _ _ _ _ _ _)
   | (with_reducible exact LeO.refl _)
   | (with_reducible exact LeO.none _)
   | (with_reducible refine LeO.ite ?_ ?_)
   | (with_reducible refine LeO.bind ?_ (fun _ => ?_))
   | exact ih0 _ _ _ _ _ _ _
   | exact ih1 _ _ _ _ _ _ _ _ _ _ _
   | exact downpourref01_From.mono _ _
   | exact downpourref03_bit.mono _ _ _ _ _ _
   | exact LeO.none _
   | refine LeO.ite ?_ ?_
   | refine LeO.bind ?_ (fun _ => ?_)
theorem downpourref03_Mul.mono : ∀ a0 a1 a2 a3 k, LeO (downpourref03_Mul.f k a0 a1 a2 a3) (downpourref03_Mul.f (k + 1) a0 a1 a2 a3) := by
 intro a0 a1 a2 a3 k
 obtain ⟨ih0, ih1⟩ := downpourref03_Mul.mono_l k
 unfold downpourref03_Mul.f
 repeat' first
   | (with_reducible exact ih0 _ _ _ _ _ _ _)
   | (with_reducible exact ih1 _ _ _ _ _ _ _ _ _ _ _)
   | (with_reducible exact downpourref01_From.mono _ _)
   | (with_reducible exact downpourref03_bit.mono _ _ _ _ _ _)
   | (with_reducible exact LeO.refl _)
   | (with_reducible exact LeO.none _)
   | (with_reducible refine LeO.ite ?_ ?_)
   | (with_reducible refine LeO.bind ?_ (fun _ => ?_))
   | exact ih0 _ _ _ _ _ _ _
   | exact ih1 _ _ _ _ _ _ _ _ _ _ _
   | exact downpourref01_From.mono _ _
   | exact downpourref03_bit.mono _ _ _ _ _ _
   | exact LeO.none _
   | refine LeO.ite ?_ ?_
   | refine LeO.bind ?_ (fun _ => ?_)
def downpourref03_Mul.T10 : Bool × List (List Nat × List Nat) := (true, [([], []), ([0], [0]), ([], []), ([2], [2]), ([3], [3]), ([1, 4, 3], [1, 4]), ([0, 1, 2, 3, 4, 5], []), ([6, 5, 5, 0, 1, 2, 3, 4, 5], [5, 6])])
def downpourref03_Mul.B10 : List Nat := [0, 1, 0, 4, 12, 31, 63, 127]
theorem downpourref03_Mul.tab10 : rtab .any (opsOf Tryd.f41 10) = downpourref03_Mul.T10 := by kernel_rfl
theorem downpourref03_Mul.bits10 : waitsOk downpourref03_Mul.T10.2 downpourref03_Mul.B10 = true := by kernel_rfl
set_option maxHeartbeats 8000000 in
set_option maxRecDepth 100000 in
theorem downpourref03_Mul.calls (k : Nat) (a0_0 : Int) (A0_1 : Option Addr) (c0_1 : Nat) (l0_1 : List (S25)) (a1_0 : Int) (A1_1 : Option Addr) (c1_1 : Nat) (l1_1 : List (S25)) (r1 : Int) (r2 : List (S25)) (w : World) (hr0_1 : Kd.C k25 w A0_1 l0_1.length l0_1) (hc0_1 : l0_1.length ≤ c0_1) (hr1_1 : Kd.C k25 w A1_1 l1_1.length l1_1) (hc1_1 : l1_1.length ≤ c1_1) (h : downpourref03_Mul.f k a0_0 l0_1 a1_0 l1_1 = some (r1, r2)) :
  Calls Tryd.prog 41 #[.agg #[.int .i64 a0_0, .slice A0_1 l0_1.length c0_1], .agg #[.int .i64 a1_0, .slice A1_1 l1_1.length c1_1]] w fun e w' => ∃ v1_ : Value, e = .returned (.agg #[.int .i64 r1, v1_]) ∧ Kd.S k25 25 w' w.heap.size (fun _ => True) v1_ r2 ∧ Below w.heap.size w w' := by
 have hu55 := Tryd.underlying55
 have hu25 := Tryd.underlying25
 have HR0_1 := Aside0.mk hr0_1
 have HC0_1 := Aside0.mk hc0_1
 clear hr0_1 hc0_1
 have HR1_1 := Aside0.mk hr1_1
 have HC1_1 := Aside0.mk hc1_1
 clear hr1_1 hc1_1
 have HB := am (Below.refl w.heap.size w)
 have H : (downpourref03_Mul.l0 k l0_1 (l0_1.length : Int) 0 a1_0 l1_1 a1_0 ([] : List (S25))) = some (r1, r2) := h
 clear h
 have H' := Aside0.mk H
 clear H
 go_enter Tryd.func41, Tryd.ntmps41
 go_wp2_with (first | ((with_reducible refine gate_dst (N := 2) rfl ?_); refine box_event ?hg (N := 2) ?hd (cs := #[.int .i64 a0_0, .slice A0_1 l0_1.length c0_1]) (t := 55) ?hr ?_; (case hd => rfl); (case hg => rfl); (case hr => first | (go_simp; done) | (go_simp; rfl)); intro gb325 hg w3 hbox hb; have n0_ := am (below_step (pb HB) hb); have n1_ := am (hbox); have n2_ := am ((by rw [hg]; exact (below_size (pb HB)) : w.heap.size ≤ gb325)); have n3_ := am ((by rw [hg]; exact (below_size (pb HB)) : w.heap.size ≤ gb325)); clear HB; have HB := n0_; have BK325 := n1_; have GW325 := n2_; have GE325 := n3_; clear n0_ n1_ n2_ n3_ hb hbox hg) | ((with_reducible refine gate_dst (N := 3) rfl ?_); refine box_event ?hg (N := 3) ?hd (cs := #[.int .i64 a1_0, .slice A1_1 l1_1.length c1_1]) (t := 55) ?hr ?_; (case hd => rfl); (case hg => rfl); (case hr => first | (go_simp; done) | (go_simp; rfl)); intro gb326 hg w4 hbox hb; have n0_ := bb BK325 hb; have n1_ := am (below_step (pb HB) hb); have n2_ := am (hbox); have n3_ := am ((by rw [hg]; exact (below_size (pb HB)) : w.heap.size ≤ gb326)); have n4_ := am ((by rw [hg]; exact (below_size (pb HB)) : w.heap.size ≤ gb326)); have n5_ := am ((by rw [hg]; exact Nat.ne_of_lt (bl BK325) : gb325 ≠ gb326)); have n6_ := am ((by rw [hg]; exact Nat.ne_of_gt (bl BK325) : gb326 ≠ gb325)); clear BK325 HB; have BK325 := n0_; have HB := n1_; have BK326 := n2_; have GW326 := n3_; have GE326 := n4_; have NB325_326 := n5_; have NB326_325 := n6_; clear n0_ n1_ n2_ n3_ n4_ n5_ n6_ hb hbox hg) | ((with_reducible refine gate_dst (N := 4) rfl ?_); refine box_event ?hg (N := 4) ?hd (cs := #[.int .i64 0, .slice none 0 0]) (t := 55) ?hr ?_; (case hd => rfl); (case hg => rfl); (case hr => first | (go_simp; done) | (go_simp; rfl)); intro gb327 hg w5 hbox hb; have n0_ := bb BK325 hb; have n1_ := bb BK326 hb; have n2_ := am (below_step (pb HB) hb); have n3_ := am (hbox); have n4_ := am ((by rw [hg]; exact (below_size (pb HB)) : w.heap.size ≤ gb327)); have n5_ := am ((by rw [hg]; exact (below_size (pb HB)) : w.heap.size ≤ gb327)); have n6_ := am ((by rw [hg]; exact Nat.ne_of_lt (bl BK325) : gb325 ≠ gb327)); have n7_ := am ((by rw [hg]; exact Nat.ne_of_gt (bl BK325) : gb327 ≠ gb325)); have n8_ := am ((by rw [hg]; exact Nat.ne_of_lt (bl BK326) : gb326 ≠ gb327)); have n9_ := am ((by rw [hg]; exact Nat.ne_of_gt (bl BK326) : gb327 ≠ gb326)); clear BK325 BK326 HB; have BK325 := n0_; have BK326 := n1_; have HB := n2_; have BK327 := n3_; have GW327 := n4_; have GE327 := n5_; have NB325_327 := n6_; have NB327_325 := n7_; have NB326_327 := n8_; have NB327_326 := n9_; clear n0_ n1_ n2_ n3_ n4_ n5_ n6_ n7_ n8_ n9_ hb hbox hg; have hnb6 := NB326_325.out; have hnc6 := NB325_326.out; have hnb7 := NB326_327.out; have hnc7 := NB327_326.out; have hcz8_0 : w5.cell? ⟨gb326, 0, none⟩ = some (.int .i64 a1_0) := (blk_cell BK326.out 0).trans rfl; have hcz8_1 : w5.cell? ⟨gb326, 1, none⟩ = some (.slice A1_1 l1_1.length c1_1) := (blk_cell BK326.out 1).trans rfl; have hfz8_0 := blk_frozen BK326.out 0; have hfz8_1 := blk_frozen BK326.out 1) | ((with_reducible refine gate_dst (N := 5) rfl ?_); refine box_event ?hg (N := 5) ?hd (cs := #[.int .i64 0, .slice none 0 0]) (t := 55) ?hr ?_; (case hd => rfl); (case hg => rfl); (case hr => first | (go_simp; done) | (go_simp; rfl)); intro gb328 hg w9 hbox hb; have n0_ := bb BK325 hb; have n1_ := bb BK326 hb; have n2_ := bb BK327 hb; have n3_ := am (below_step (pb HB) hb); have n4_ := am (hbox); have n5_ := am ((by rw [hg]; exact (below_size (pb HB)) : w.heap.size ≤ gb328)); have n6_ := am ((by rw [hg]; exact (below_size (pb HB)) : w.heap.size ≤ gb328)); have n7_ := am ((by rw [hg]; exact Nat.ne_of_lt (bl BK325) : gb325 ≠ gb328)); have n8_ := am ((by rw [hg]; exact Nat.ne_of_gt (bl BK325) : gb328 ≠ gb325)); have n9_ := am ((by rw [hg]; exact Nat.ne_of_lt (bl BK326) : gb326 ≠ gb328)); have n10_ := am ((by rw [hg]; exact Nat.ne_of_gt (bl BK326) : gb328 ≠ gb326)); have n11_ := am ((by rw [hg]; exact Nat.ne_of_lt (bl BK327) : gb327 ≠ gb328)); have n12_ := am ((by rw [hg]; exact Nat.ne_of_gt (bl BK327) : gb328 ≠ gb327)); clear BK325 BK326 BK327 HB; have BK325 := n0_; have BK326 := n1_; have BK327 := n2_; have HB := n3_; have BK328 := n4_; have GW328 := n5_; have GE328 := n6_; have NB325_328 := n7_; have NB328_325 := n8_; have NB326_328 := n9_; have NB328_326 := n10_; have NB327_328 := n11_; have NB328_327 := n12_; clear n0_ n1_ n2_ n3_ n4_ n5_ n6_ n7_ n8_ n9_ n10_ n11_ n12_ hb hbox hg; have hnb10 := NB328_325.out; have hnc10 := NB325_328.out; have hnb11 := NB328_326.out; have hnc11 := NB326_328.out; have hnb12 := NB328_327.out; have hnc12 := NB327_328.out; have hcz13_0 : w9.cell? ⟨gb328, 0, none⟩ = some (.int .i64 0) := (blk_cell BK328.out 0).trans rfl; have hcz13_1 : w9.cell? ⟨gb328, 1, none⟩ = some (.slice none 0 0) := (blk_cell BK328.out 1).trans rfl; have hfz13_0 := blk_frozen BK328.out 0; have hfz13_1 := blk_frozen BK328.out 1; have hnb14 := NB325_327.out; have hnc14 := NB327_325.out; have hcz15_0 : w9.cell? ⟨gb325, 0, none⟩ = some (.int .i64 a0_0) := (blk_cell BK325.out 0).trans rfl; have hcz15_1 : w9.cell? ⟨gb325, 1, none⟩ = some (.slice A0_1 l0_1.length c0_1) := (blk_cell BK325.out 1).trans rfl; have hfz15_0 := blk_frozen BK325.out 0; have hfz15_1 := blk_frozen BK325.out 1))
 go_loopg [16] k (fun kq v16 w' => ∃ (x16_1 : Int) (x329001_1 : List (S25)) (u329001 : Value), v16 = .int .i64 x16_1 ∧ Aside0 (downpourref03_Mul.l0 kq l0_1 (l0_1.length : Int) x16_1 a1_0 l1_1 a1_0 x329001_1 = some (r1, r2)) ∧ Aside0 (kq ≤ k) ∧ Aside0 (Kd.S k25 25 w' w.heap.size (fun _ => True) u329001 x329001_1) ∧ Aside0 (w'.heap[gb325]? = some (.cells #[.int .i64 a0_0, (.slice A0_1 l0_1.length c0_1)] 55 (0, 0))) ∧ Aside0 (w'.heap[gb326]? = some (.cells #[.int .i64 a1_0, (.slice A1_1 l1_1.length c1_1)] 55 (0, 0))) ∧ Aside0 (w'.heap[gb327]? = some (.cells #[.int .i64 0, (.slice none 0 0)] 55 (0, 0))) ∧ Aside0 (w'.heap[gb328]? = some (.cells #[.int .i64 a1_0, u329001] 55 (0, 0))) ∧ Aside0 (Below w.heap.size w w'))
 case atStart => exact ⟨(0), (([] : List (S25))), (.slice none 0 0), (by first | rfl | (simp; done) | (simp [*]; done)), H', ⟨Nat.le_refl _⟩, ⟨by first | exact Kd.S_nil _ _ _ _ _ | exact Kd.N_nil _ _ _ _ _ | exact Kd.V_nil _ _ _ _ _ | exact Kd.Q_nil _ _ _ _ _ | exact Kd.R_nil _ _ _ _ _⟩, ⟨by (with_reducible repeat (first | refine blk_drewN ?_ _ | refine blk_drew ?_ | refine blk_alloc ?_ _)); refine blk_far ?_ NB325_328.out _; (with_reducible repeat (first | refine blk_drewN ?_ _ | refine blk_drew ?_ | refine blk_alloc ?_ _)); refine blk_far ?_ NB325_328.out _; (with_reducible repeat (first | refine blk_drewN ?_ _ | refine blk_drew ?_ | refine blk_alloc ?_ _)); exact BK325.out⟩, ⟨by (with_reducible repeat (first | refine blk_drewN ?_ _ | refine blk_drew ?_ | refine blk_alloc ?_ _)); refine blk_far ?_ NB326_328.out _; (with_reducible repeat (first | refine blk_drewN ?_ _ | refine blk_drew ?_ | refine blk_alloc ?_ _)); refine blk_far ?_ NB326_328.out _; (with_reducible repeat (first | refine blk_drewN ?_ _ | refine blk_drew ?_ | refine blk_alloc ?_ _)); exact BK326.out⟩, ⟨by (with_reducible repeat (first | refine blk_drewN ?_ _ | refine blk_drew ?_ | refine blk_alloc ?_ _)); refine blk_far ?_ NB327_328.out _; (with_reducible repeat (first | refine blk_drewN ?_ _ | refine blk_drew ?_ | refine blk_alloc ?_ _)); refine blk_far ?_ NB327_328.out _; (with_reducible repeat (first | refine blk_drewN ?_ _ | refine blk_drew ?_ | refine blk_alloc ?_ _)); exact BK327.out⟩, ⟨by (with_reducible repeat (first | refine blk_drewN ?_ _ | refine blk_drew ?_ | refine blk_alloc ?_ _)); refine blk_put (cs := #[.int .i64 a1_0, .slice none 0 0]) ?_ 1 _ rfl; (with_reducible repeat (first | refine blk_drewN ?_ _ | refine blk_drew ?_ | refine blk_alloc ?_ _)); refine blk_put (cs := #[.int .i64 0, .slice none 0 0]) ?_ 0 _ rfl; (with_reducible repeat (first | refine blk_drewN ?_ _ | refine blk_drew ?_ | refine blk_alloc ?_ _)); exact BK328.out⟩, ⟨pb HB⟩⟩
 case round =>
  clear H'
  try clear c1
  try clear p2
  try clear c4
  try clear c6
  try clear c7
  try clear c10
  try clear c11
  try clear c12
  try clear c14
  try clear hcz13_0
  try clear hcz13_1
  try clear hcz15_0
  try clear hcz15_1
  try clear hcz8_0
  try clear hcz8_1
  try clear hfz13_0
  try clear hfz13_1
  try clear hfz15_0
  try clear hfz15_1
  try clear hfz8_0
  try clear hfz8_1
  obtain ⟨x16_1, x329001_1, u329001, rfl, HA, HK1, HO_329001, BK325, BK326, BK327, BK328, HB⟩ := hrel
  cases gk with
  | zero => exact absurd HA.out (by simp [downpourref03_Mul.l0])
  | succ k1 =>
   have H := HA.out
   clear HA
   simp only [downpourref03_Mul.l0] at H
   by_cases c16 : x16_1 < (l0_1.length : Int)
   ·
    rw [if_pos c16] at H
    have c16b0 : decide (x16_1 < (l0_1.length : Int)) = true := decide_eq_true c16
    clear c16
    by_cases c17 : 0 ≤ x16_1
    ·
     rw [if_pos c17] at H
     have c17b0 : decide (0 ≤ x16_1) = true := decide_eq_true c17
     clear c17
     by_cases c18 : x16_1 < (l0_1.length : Int)
     ·
      rw [if_pos c18] at H
      have c18b0 : decide (x16_1 < (l0_1.length : Int)) = true := decide_eq_true c18
      clear c18
      obtain ⟨y331, hy331⟩ : ∃ y_ : List Int, y_ = (([] : List Int)) := ⟨_, rfl⟩
      replace H : (downpourref03_Mul.l1 k1 y331 0 l0_1 (l0_1.length : Int) x16_1 a1_0 l1_1 a1_0 x329001_1 ((rd_T25 l0_1 x16_1).f0) ((rd_T25 l0_1 x16_1).f1)) = some (r1, r2) := by first | (rw [hy331]; with_reducible exact H) | (have H2_ := (Option.bind_some _ _).symm.trans H; rw [hy331]; with_reducible exact H2_) | (have H2_ := (Option.bind_some _ _).symm.trans H; with_reducible exact H2_) | with_reducible exact H | (rw [hy331]; exact H) | exact H
      have Ny331 := Aside0.mk hy331
      clear hy331
      have H' := Aside0.mk H
      clear H
      have p329 : 0 ≤ (x16_1 : Int) := of_decide_eq_true (by first | (with_reducible assumption) | assumption)
      have q329 : x16_1 < (l0_1.length : Int) := of_decide_eq_true (by first | (with_reducible assumption) | assumption)
      obtain ⟨ad329, A329_1, c329_1, e329, hx329_0, hx329_1, hl329_1, hi329_1⟩ := at_T25 HR0_1.out x16_1 p329 q329
      cases e329
      replace hx329_0 := (HB.out.cell (World.block_lt_of_cell? w _ hx329_0)).trans hx329_0
      replace hx329_1 := (HB.out.cell (World.block_lt_of_cell? w _ hx329_1)).trans hx329_1
      have HR329_1 := Aside0.mk hi329_1
      have HC329_1 := Aside0.mk hl329_1
      clear hi329_1 hl329_1
      replace p329 := eq_true p329
      replace q329 := eq_true q329
      go_wp2_with (first | ((with_reducible refine gate_dst (N := 7) rfl ?_); refine box_event ?hg (N := 7) ?hd (cs := #[.int .i64 0, .slice none 0 0]) (t := 25) ?hr ?_; (case hd => rfl); (case hg => rfl); (case hr => first | (go_simp; done) | (go_simp; rfl)); intro gb330 hg w19 hbox hb; have n0_ := am (Kd.S_below (Kd.S_elderB (by (with_reducible repeat (first | apply Kd.S_alloc | apply Kd.S_drewN | apply Kd.S_drew)); exact HO_329001.out) gb330 (Nat.le_of_eq hg.symm)) hb); have n1_ := bb BK325 hb; have n2_ := bb BK326 hb; have n3_ := bb BK327 hb; have n4_ := bb BK328 hb; have n5_ := am (below_step (pb HB) hb); have n6_ := am (hbox); have n7_ := am ((by rw [hg]; exact (below_size (pb HB)) : w.heap.size ≤ gb330)); have n8_ := am ((by rw [hg]; exact (below_size (pb HB)) : w.heap.size ≤ gb330)); have n9_ := am ((by rw [hg]; exact Nat.ne_of_lt (bl BK325) : gb325 ≠ gb330)); have n10_ := am ((by rw [hg]; exact Nat.ne_of_gt (bl BK325) : gb330 ≠ gb325)); have n11_ := am ((by rw [hg]; exact Nat.ne_of_lt (bl BK326) : gb326 ≠ gb330)); have n12_ := am ((by rw [hg]; exact Nat.ne_of_gt (bl BK326) : gb330 ≠ gb326)); have n13_ := am ((by rw [hg]; exact Nat.ne_of_lt (bl BK327) : gb327 ≠ gb330)); have n14_ := am ((by rw [hg]; exact Nat.ne_of_gt (bl BK327) : gb330 ≠ gb327)); have n15_ := am ((by rw [hg]; exact Nat.ne_of_lt (bl BK328) : gb328 ≠ gb330)); have n16_ := am ((by rw [hg]; exact Nat.ne_of_gt (bl BK328) : gb330 ≠ gb328)); clear HO_329001 BK325 BK326 BK327 BK328 HB; have HO_329001 := n0_; have BK325 := n1_; have BK326 := n2_; have BK327 := n3_; have BK328 := n4_; have HB := n5_; have BK330 := n6_; have GW330 := n7_; have GE330 := n8_; have NB325_330 := n9_; have NB330_325 := n10_; have NB326_330 := n11_; have NB330_326 := n12_; have NB327_330 := n13_; have NB330_327 := n14_; have NB328_330 := n15_; have NB330_328 := n16_; clear n0_ n1_ n2_ n3_ n4_ n5_ n6_ n7_ n8_ n9_ n10_ n11_ n12_ n13_ n14_ n15_ n16_ hb hbox hg; have hnb20 := NB330_325.out; have hnc20 := NB325_330.out; have hnb21 := NB330_326.out; have hnc21 := NB326_330.out; have hnb22 := NB330_327.out; have hnc22 := NB327_330.out; have hnb23 := NB330_328.out; have hnc23 := NB328_330.out; have hcz24_0 : w19.cell? ⟨gb330, 0, none⟩ = some (.int .i64 0) := (blk_cell BK330.out 0).trans rfl; have hcz24_1 : w19.cell? ⟨gb330, 1, none⟩ = some (.slice none 0 0) := (blk_cell BK330.out 1).trans rfl; have hfz24_0 := blk_frozen BK330.out 0; have hfz24_1 := blk_frozen BK330.out 1) | ((with_reducible refine gate_dst (N := 20) rfl ?_); refine Kd.R_lit (Kd.int .i64) _ 3 ?hg (N := 20) ?hd (xs := ([] : List Int)) (inner := []) (ok := fun _ => True) (okp := fun _ => True) ?hr ?hp (fun _ hk => hk) trivial (Below.refl _ _) (Nat.le_refl _) (by simp) ?_; (case hd => rfl); (case hg => rfl); (case hr => first | (go_simp; done) | (go_simp; rfl)); (case hp => exact (Reps.none _ _)); intro v332 w25 ho26 hb hg_ hnew_; clear hg_ hnew_; (first | rw [← Ny331.out] at ho26 | (simp only [Int.reduceToNat] at ho26; rw [← Ny331.out] at ho26)); have n0_ := am (Kd.S_below (by (with_reducible repeat (first | apply Kd.S_alloc | apply Kd.S_drewN | apply Kd.S_drew)); exact (Kd.S_mono (Kd.S_far (p := ⟨gb330, 1, none⟩) (Kd.S_far (p := ⟨gb330, 0, none⟩) (Kd.S_mono HO_329001.out (fun k_ hk => (⟨hk, hk.2⟩ : _ ∧ k_ ≠ gb330))) (fun _ hk => hk.2) (.int .i64 ((rd_T25 l0_1 x16_1).f0))) (fun _ hk => hk.2) (.slice A329_1 ((rd_T25 l0_1 x16_1).f1).length c329_1)) (fun _ h_ => h_.1))) hb); have n1_ := am (Kd.R_lower ho26 (below_size (pb HB))); have n2_ := am (blk_below (g := gb325) (o := .cells #[.int .i64 a0_0, .slice (some ad329) l0_1.length c0_1] 55 (0, 0)) (by (with_reducible repeat (first | refine blk_drewN ?_ _ | refine blk_drew ?_ | refine blk_alloc ?_ _)); refine blk_far ?_ NB325_330.out _; (with_reducible repeat (first | refine blk_drewN ?_ _ | refine blk_drew ?_ | refine blk_alloc ?_ _)); refine blk_far ?_ NB325_330.out _; (with_reducible repeat (first | refine blk_drewN ?_ _ | refine blk_drew ?_ | refine blk_alloc ?_ _)); exact BK325.out) hb); have n3_ := am (blk_below (g := gb326) (o := .cells #[.int .i64 a1_0, .slice A1_1 l1_1.length c1_1] 55 (0, 0)) (by (with_reducible repeat (first | refine blk_drewN ?_ _ | refine blk_drew ?_ | refine blk_alloc ?_ _)); refine blk_far ?_ NB326_330.out _; (with_reducible repeat (first | refine blk_drewN ?_ _ | refine blk_drew ?_ | refine blk_alloc ?_ _)); refine blk_far ?_ NB326_330.out _; (with_reducible repeat (first | refine blk_drewN ?_ _ | refine blk_drew ?_ | refine blk_alloc ?_ _)); exact BK326.out) hb); have n4_ := am (blk_below (g := gb327) (o := .cells #[.int .i64 0, .slice none 0 0] 55 (0, 0)) (by (with_reducible repeat (first | refine blk_drewN ?_ _ | refine blk_drew ?_ | refine blk_alloc ?_ _)); refine blk_far ?_ NB327_330.out _; (with_reducible repeat (first | refine blk_drewN ?_ _ | refine blk_drew ?_ | refine blk_alloc ?_ _)); refine blk_far ?_ NB327_330.out _; (with_reducible repeat (first | refine blk_drewN ?_ _ | refine blk_drew ?_ | refine blk_alloc ?_ _)); exact BK327.out) hb); have n5_ := am (blk_below (g := gb328) (o := .cells #[.int .i64 a1_0, u329001] 55 (0, 0)) (by (with_reducible repeat (first | refine blk_drewN ?_ _ | refine blk_drew ?_ | refine blk_alloc ?_ _)); refine blk_far ?_ NB328_330.out _; (with_reducible repeat (first | refine blk_drewN ?_ _ | refine blk_drew ?_ | refine blk_alloc ?_ _)); refine blk_far ?_ NB328_330.out _; (with_reducible repeat (first | refine blk_drewN ?_ _ | refine blk_drew ?_ | refine blk_alloc ?_ _)); exact BK328.out) hb); have n6_ := am (blk_below (g := gb330) (o := .cells #[.int .i64 ((rd_T25 l0_1 x16_1).f0), .slice A329_1 ((rd_T25 l0_1 x16_1).f1).length c329_1] 25 (0, 0)) (by (with_reducible repeat (first | refine blk_drewN ?_ _ | refine blk_drew ?_ | refine blk_alloc ?_ _)); refine blk_put (cs := #[.int .i64 ((rd_T25 l0_1 x16_1).f0), .slice none 0 0]) ?_ 1 _ rfl; (with_reducible repeat (first | refine blk_drewN ?_ _ | refine blk_drew ?_ | refine blk_alloc ?_ _)); refine blk_put (cs := #[.int .i64 0, .slice none 0 0]) ?_ 0 _ rfl; (with_reducible repeat (first | refine blk_drewN ?_ _ | refine blk_drew ?_ | refine blk_alloc ?_ _)); exact BK330.out) hb); have n7_ := am (below_step (pb HB) hb); clear HO_329001 BK325 BK326 BK327 BK328 BK330 HB; have HO_329001 := n0_; have HO333 := n1_; have BK325 := n2_; have BK326 := n3_; have BK327 := n4_; have BK328 := n5_; have BK330 := n6_; have HB := n7_; clear n0_ n1_ n2_ n3_ n4_ n5_ n6_ n7_ hb ho26))
      go_loopg [8, 9] k1 (fun kq v8 v9 w' => ∃ (x8_2 : List Int) (x9_2 : Int), v9 = .int .i64 x9_2 ∧ Aside0 (downpourref03_Mul.l1 kq x8_2 x9_2 l0_1 (l0_1.length : Int) x16_1 a1_0 l1_1 a1_0 x329001_1 ((rd_T25 l0_1 x16_1).f0) ((rd_T25 l0_1 x16_1).f1) = some (r1, r2)) ∧ Aside0 (kq ≤ k1) ∧ Aside0 (Kd.R (Kd.int .i64) 3 w' w.heap.size (fun _ => True) v8 x8_2) ∧ Aside0 (Kd.S k25 25 w' w.heap.size (fun k_ => k_ ≠ gb330) u329001 x329001_1) ∧ Aside0 (w'.heap[gb325]? = some (.cells #[.int .i64 a0_0, (.slice (some ad329) l0_1.length c0_1)] 55 (0, 0))) ∧ Aside0 (w'.heap[gb326]? = some (.cells #[.int .i64 a1_0, (.slice A1_1 l1_1.length c1_1)] 55 (0, 0))) ∧ Aside0 (w'.heap[gb327]? = some (.cells #[.int .i64 0, (.slice none 0 0)] 55 (0, 0))) ∧ Aside0 (w'.heap[gb328]? = some (.cells #[.int .i64 a1_0, u329001] 55 (0, 0))) ∧ Aside0 (w'.heap[gb330]? = some (.cells #[.int .i64 ((rd_T25 l0_1 x16_1).f0), (.slice A329_1 ((rd_T25 l0_1 x16_1).f1).length c329_1)] 25 (0, 0))) ∧ Aside0 (Below w.heap.size w w'))
      case atStart => exact ⟨(y331), (0), (by first | rfl | (simp; done) | (simp [*]; done)), H', ⟨Nat.le_refl _⟩, ⟨by (with_reducible repeat (first | apply Kd.R_alloc | apply Kd.R_drewN | apply Kd.R_drew)); exact HO333.out⟩, ⟨by (with_reducible repeat (first | apply Kd.S_alloc | apply Kd.S_drewN | apply Kd.S_drew)); exact Kd.S_mono HO_329001.out (fun _ hk => hk.2)⟩, ⟨by (with_reducible repeat (first | refine blk_drewN ?_ _ | refine blk_drew ?_ | refine blk_alloc ?_ _)); exact BK325.out⟩, ⟨by (with_reducible repeat (first | refine blk_drewN ?_ _ | refine blk_drew ?_ | refine blk_alloc ?_ _)); exact BK326.out⟩, ⟨by (with_reducible repeat (first | refine blk_drewN ?_ _ | refine blk_drew ?_ | refine blk_alloc ?_ _)); exact BK327.out⟩, ⟨by (with_reducible repeat (first | refine blk_drewN ?_ _ | refine blk_drew ?_ | refine blk_alloc ?_ _)); exact BK328.out⟩, ⟨by (with_reducible repeat (first | refine blk_drewN ?_ _ | refine blk_drew ?_ | refine blk_alloc ?_ _)); exact BK330.out⟩, ⟨pb HB⟩⟩
      case round =>
       clear H'
       try clear c1
       try clear c2
       try clear p2
       try clear c3
       try clear p3
       try clear q3
       try clear hx3
       try clear c4
       try clear c6
       try clear c7
       try clear c10
       try clear c11
       try clear c12
       try clear c14
       try clear c16
       try clear c16b0
       try clear c17
       try clear c17b0
       try clear c18
       try clear c18b0
       try clear c20
       try clear c21
       try clear c22
       try clear c23
       try clear hcz13_0
       try clear hcz13_1
       try clear hcz15_0
       try clear hcz15_1
       try clear hcz24_0
       try clear hcz24_1
       try clear hcz8_0
       try clear hcz8_1
       try clear hfz13_0
       try clear hfz13_1
       try clear hfz15_0
       try clear hfz15_1
       try clear hfz24_0
       try clear hfz24_1
       try clear hfz8_0
       try clear hfz8_1
       try clear hx329_0
       try clear hx329_1
       try clear p2
       try clear p329
       try clear q329
       obtain ⟨x8_2, x9_2, rfl, HA, HK2, HO_8, HO_329001, BK325, BK326, BK327, BK328, BK330, HB⟩ := hrel
       cases gk with
       | zero => exact absurd HA.out (by simp [downpourref03_Mul.l1])
       | succ k2 =>
        have H := HA.out
        clear HA
        simp only [downpourref03_Mul.l1] at H
        by_cases c27 : x9_2 < a1_0
        ·
         rw [if_pos c27] at H
         have c27b0 : decide (x9_2 < a1_0) = true := decide_eq_true c27
         clear c27
         replace H := Option.bind_eq_some_iff.mp H
         obtain ⟨t334, A280, H⟩ := H
         replace H : (if x8_2.length < 17592186044416 then (downpourref03_Mul.l1 k2 (x8_2 ++ [t334]) (wrap64 (x9_2 + 1)) l0_1 (l0_1.length : Int) x16_1 a1_0 l1_1 a1_0 x329001_1 ((rd_T25 l0_1 x16_1).f0) ((rd_T25 l0_1 x16_1).f1)) else (none)) = some (r1, r2) := H
         have A28 := Aside0.mk A280
         clear A280
         by_cases c29 : x8_2.length < 17592186044416
         ·
          rw [if_pos c29] at H
          have LMc29 := Aside0.mk c29
          clear c29
          obtain ⟨y335, hy335⟩ : ∃ y_ : List Int, y_ = (x8_2 ++ [t334]) := ⟨_, rfl⟩
          replace H : (downpourref03_Mul.l1 k2 y335 (wrap64 (x9_2 + 1)) l0_1 (l0_1.length : Int) x16_1 a1_0 l1_1 a1_0 x329001_1 ((rd_T25 l0_1 x16_1).f0) ((rd_T25 l0_1 x16_1).f1)) = some (r1, r2) := by first | (rw [hy335]; with_reducible exact H) | (have H2_ := (Option.bind_some _ _).symm.trans H; rw [hy335]; with_reducible exact H2_) | (have H2_ := (Option.bind_some _ _).symm.trans H; with_reducible exact H2_) | with_reducible exact H | (rw [hy335]; exact H) | exact H
          have Ny335 := Aside0.mk hy335
          clear hy335
          have H' := Aside0.mk H
          clear H
          have hnb30 := NB326_325.out
          have hnc30 := NB325_326.out
          have hnb31 := NB326_327.out
          have hnc31 := NB327_326.out
          have hnb32 := NB326_328.out
          have hnc32 := NB328_326.out
          have hnb33 := NB326_330.out
          have hnc33 := NB330_326.out
          have hcz34_0 : wr.cell? ⟨gb326, 0, none⟩ = some (.int .i64 a1_0) := (blk_cell BK326.out 0).trans rfl
          have hcz34_1 : wr.cell? ⟨gb326, 1, none⟩ = some (.slice A1_1 l1_1.length c1_1) := (blk_cell BK326.out 1).trans rfl
          have hfz34_0 := blk_frozen BK326.out 0
          have hfz34_1 := blk_frozen BK326.out 1
          have hnb35 := NB330_325.out
          have hnc35 := NB325_330.out
          have hnb36 := NB330_327.out
          have hnc36 := NB327_330.out
          have hnb37 := NB330_328.out
          have hnc37 := NB328_330.out
          have hcz38_0 : wr.cell? ⟨gb330, 0, none⟩ = some (.int .i64 ((rd_T25 l0_1 x16_1).f0)) := (blk_cell BK330.out 0).trans rfl
          have hcz38_1 : wr.cell? ⟨gb330, 1, none⟩ = some (.slice A329_1 ((rd_T25 l0_1 x16_1).f1).length c329_1) := (blk_cell BK330.out 1).trans rfl
          have hfz38_0 := blk_frozen BK330.out 0
          have hfz38_1 := blk_frozen BK330.out 1
          go_wp2_with (first | ((with_reducible refine gate_callee (f := 74) rfl ?_); refine goesL_ (some 31) rfl rfl Tryd.func74 (by kernel_rfl) rfl #[.agg #[.int .i64 ((rd_T25 l0_1 x16_1).f0), .slice A329_1 ((rd_T25 l0_1 x16_1).f1).length c329_1], .agg #[.int .i64 a1_0, .slice A1_1 l1_1.length c1_1], .int .i64 x9_2] rfl (by (try simp only [List.map_toArray, List.map_cons, List.map_nil]); first | done | rfl | (simp only [List.length_drop, List.length_take]; rfl)) ?_; (with_reducible refine (downpourref03_bit.calls k2 ((rd_T25 l0_1 x16_1).f0) _ _ ((rd_T25 l0_1 x16_1).f1) a1_0 _ _ l1_1 x9_2 t334 _ ?side1 ?side2 ?side3 ?side4 A28.out).mono ?_); (case side1 => repeat (first | exact (Kd.C_below HR329_1.out HB.out) | (with_reducible refine Kd.C_alloc ?_ _) | (with_reducible refine Kd.C_drewN ?_ _) | (with_reducible refine Kd.C_drew ?_))); (case side2 => exact HC329_1.out); (case side3 => repeat (first | exact (Kd.C_below HR1_1.out HB.out) | (with_reducible refine Kd.C_alloc ?_ _) | (with_reducible refine Kd.C_drewN ?_ _) | (with_reducible refine Kd.C_drew ?_))); (case side4 => exact HC1_1.out); rintro e w39 ⟨rfl, hb⟩; refine ⟨_, rfl, ?_⟩; have n0_ := am (Kd.R_below (pr HO_8) hb); have n1_ := am (Kd.S_below (by (with_reducible repeat (first | apply Kd.S_alloc | apply Kd.S_drewN | apply Kd.S_drew)); exact HO_329001.out) hb); have n2_ := bb BK325 hb; have n3_ := bb BK326 hb; have n4_ := bb BK327 hb; have n5_ := bb BK328 hb; have n6_ := bb BK330 hb; have n7_ := am (below_step (pb HB) hb); clear HO_8 HO_329001 BK325 BK326 BK327 BK328 BK330 HB; have HO_8 := n0_; have HO_329001 := n1_; have BK325 := n2_; have BK326 := n3_; have BK327 := n4_; have BK328 := n5_; have BK330 := n6_; have HB := n7_; clear n0_ n1_ n2_ n3_ n4_ n5_ n6_ n7_; (try clear hb); (try clear hb2); (try clear hk); (try clear hi)) | ((with_reducible refine gate_builtin (b := .append) (xs := #[.tmp 27, .tmp 32]) rfl ?_); at_builtin; refine Kd.R_append (Kd.int .i64) (w0 := w) w.heap.size rfl (.tmp 27) (.tmp 32) 34 3 (.int .i64 0) 8 rfl Tryd.underlying34 info3 rfl (by decide) (by omega) u8 x8_2 t334 [.int .i64 t334] (fun _ => True) (fun _ => False) rfl rfl ?aP (fun _ hk => hk.elim) ?aF ?aO ?aB ?aS ?aL ?_; (case aP => exact rfl); (case aB => exact (pb HB)); (case aF => exact (fun _ _ => trivial)); (case aO => exact (pr HO_8)); (case aS => exact (below_size (pb HB))); (case aL => have := LMc29.out; omega); intro v336 w40 ho hb hg hat; rw [← Ny335.out] at ho; have n0_ := am (Kd.S_over' (by (with_reducible repeat (first | apply Kd.S_alloc | apply Kd.S_drewN | apply Kd.S_drew)); exact HO_329001.out) (Kd.R_typed (pr HO_8)) (by decide) hg); have n1_ := am (blk_grown (g := gb325) (o := .cells #[.int .i64 a0_0, .slice (some ad329) l0_1.length c0_1] 55 (0, 0)) (pk BK325) hg (Kd.R_ne HO_8.out BK325.out (by decide))); have n2_ := am (blk_grown (g := gb326) (o := .cells #[.int .i64 a1_0, .slice A1_1 l1_1.length c1_1] 55 (0, 0)) (pk BK326) hg (Kd.R_ne HO_8.out BK326.out (by decide))); have n3_ := am (blk_grown (g := gb327) (o := .cells #[.int .i64 0, .slice none 0 0] 55 (0, 0)) (pk BK327) hg (Kd.R_ne HO_8.out BK327.out (by decide))); have n4_ := am (blk_grown (g := gb328) (o := .cells #[.int .i64 a1_0, u329001] 55 (0, 0)) (pk BK328) hg (Kd.R_ne HO_8.out BK328.out (by decide))); have n5_ := am (blk_grown (g := gb330) (o := .cells #[.int .i64 ((rd_T25 l0_1 x16_1).f0), .slice A329_1 ((rd_T25 l0_1 x16_1).f1).length c329_1] 25 (0, 0)) (pk BK330) hg (Kd.R_ne HO_8.out BK330.out (by decide))); have n6_ := am (hb); have n7_ := am (ho); clear HO_329001 BK325 BK326 BK327 BK328 BK330 HB HO_8; have HO_329001 := n0_; have BK325 := n1_; have BK326 := n2_; have BK327 := n3_; have BK328 := n4_; have BK330 := n5_; have HB := n6_; have HO337 := n7_; clear n0_ n1_ n2_ n3_ n4_ n5_ n6_ n7_ ho hb hg hat))
          go_roundg k2
          case measure => have := HK1.out; have := HK2.out; omega
          case rel => exact ⟨(y335), (wrap64 (x9_2 + 1)), (by first | rfl | (simp; done) | (simp [*]; done)), H', ⟨by have := HK1.out; have := HK2.out; omega⟩, ⟨by (with_reducible repeat (first | apply Kd.R_alloc | apply Kd.R_drewN | apply Kd.R_drew)); exact HO337.out⟩, ⟨by (with_reducible repeat (first | apply Kd.S_alloc | apply Kd.S_drewN | apply Kd.S_drew)); exact HO_329001.out⟩, ⟨by (with_reducible repeat (first | refine blk_drewN ?_ _ | refine blk_drew ?_ | refine blk_alloc ?_ _)); exact BK325.out⟩, ⟨by (with_reducible repeat (first | refine blk_drewN ?_ _ | refine blk_drew ?_ | refine blk_alloc ?_ _)); exact BK326.out⟩, ⟨by (with_reducible repeat (first | refine blk_drewN ?_ _ | refine blk_drew ?_ | refine blk_alloc ?_ _)); exact BK327.out⟩, ⟨by (with_reducible repeat (first | refine blk_drewN ?_ _ | refine blk_drew ?_ | refine blk_alloc ?_ _)); exact BK328.out⟩, ⟨by (with_reducible repeat (first | refine blk_drewN ?_ _ | refine blk_drew ?_ | refine blk_alloc ?_ _)); exact BK330.out⟩, ⟨pb HB⟩⟩
         ·
          rw [if_neg c29] at H
          exact absurd H (by simp)
        ·
         rw [if_neg c27] at H
         have c27b0 : decide (x9_2 < a1_0) = false := decide_eq_false c27
         clear c27
         replace H := Option.bind_eq_some_iff.mp H
         obtain ⟨⟨t338, t339⟩, A410, H⟩ := H
         replace H : (if x329001_1.length < 4398046511104 then (downpourref03_Mul.l0 k2 l0_1 (l0_1.length : Int) (wrap64 (x16_1 + 1)) a1_0 l1_1 a1_0 (x329001_1 ++ [(⟨t338, t339⟩ : S25)])) else (none)) = some (r1, r2) := H
         have A41 := Aside0.mk A410
         clear A410
         by_cases c42 : x329001_1.length < 4398046511104
         ·
          rw [if_pos c42] at H
          have LMc42 := Aside0.mk c42
          clear c42
          obtain ⟨y342, hy342⟩ : ∃ y_ : List (S25), y_ = (x329001_1 ++ [(⟨t338, t339⟩ : S25)]) := ⟨_, rfl⟩
          replace H : (downpourref03_Mul.l0 k2 l0_1 (l0_1.length : Int) (wrap64 (x16_1 + 1)) a1_0 l1_1 a1_0 y342) = some (r1, r2) := by first | (rw [hy342]; with_reducible exact H) | (have H2_ := (Option.bind_some _ _).symm.trans H; rw [hy342]; with_reducible exact H2_) | (have H2_ := (Option.bind_some _ _).symm.trans H; with_reducible exact H2_) | with_reducible exact H | (rw [hy342]; exact H) | exact H
          have Ny342 := Aside0.mk hy342
          clear hy342
          have H' := Aside0.mk H
          clear H
          have hnb43 := NB326_325.out
          have hnc43 := NB325_326.out
          have hnb44 := NB326_327.out
          have hnc44 := NB327_326.out
          have hnb45 := NB326_328.out
          have hnc45 := NB328_326.out
          have hnb46 := NB326_330.out
          have hnc46 := NB330_326.out
          have hcz47_0 : wr.cell? ⟨gb326, 0, none⟩ = some (.int .i64 a1_0) := (blk_cell BK326.out 0).trans rfl
          have hcz47_1 : wr.cell? ⟨gb326, 1, none⟩ = some (.slice A1_1 l1_1.length c1_1) := (blk_cell BK326.out 1).trans rfl
          have hfz47_0 := blk_frozen BK326.out 0
          have hfz47_1 := blk_frozen BK326.out 1
          try go_wp2
          have n0_ := am (Kd.R_drew HO_8.out)
          have n1_ := am (Kd.S_drew HO_329001.out)
          have n2_ := am (blk_drew BK325.out)
          have n3_ := am (blk_drew BK326.out)
          have n4_ := am (blk_drew BK327.out)
          have n5_ := am (blk_drew BK328.out)
          have n6_ := am (blk_drew BK330.out)
          have n7_ := am (below_drew1 HB.out)
          clear HO_8
          clear HO_329001
          clear BK325
          clear BK326
          clear BK327
          clear BK328
          clear BK330
          clear HB
          have HO_8 := n0_
          have HO_329001 := n1_
          have BK325 := n2_
          have BK326 := n3_
          have BK327 := n4_
          have BK328 := n5_
          have BK330 := n6_
          have HB := n7_
          clear n0_ n1_ n2_ n3_ n4_ n5_ n6_ n7_
          obtain ⟨Ao49, co49, eo49⟩ := Kd.R_slice HO_8.out
          (first | subst eo49 | (injection eo49 with f1_ f2_ f3_; have f4_ := f1_.symm; have f5_ := f3_.symm; clear f1_ f2_ f3_; subst f4_; subst f5_))
          refine start_ (n := 8) (S := fun w' => w'.cell? ⟨gb328, 0, none⟩ = some (.int .i64 a1_0) ∧ w'.cell? ⟨gb328, 1, none⟩ = some (u329001)) (ds := [7]) #[F, F, F, F, F, F, F, F] (by kernel_rfl) rfl rfl ⟨(blk_cell BK328.out 0).trans rfl, (blk_cell BK328.out 1).trans rfl⟩ (fun hHeld => ?_); refine with_tabW downpourref03_Mul.tab10 downpourref03_Mul.bits10 (fun HT_ HW_ => ?_)
          generalize wr.drew = w48 at HO_8 HO_329001 BK325 BK326 BK327 BK328 BK330 HB hHeld ⊢
          refine pure_ (i := 0) (N := some 34) (v := ?_) (a' := ?_) #[T, F, F, F, F, F, F, F] rfl rfl (any_of HT_.out (by kernel_rfl)) (fun _ _ _ h => h) (Or.inl ⟨by rfl, ?_⟩) ?_ ?_
          rotate_left
          ·
           intro w'
           go_simp
           with_reducible rfl
          rotate_left
          ·
           simp only [Act.put, q1, q2, q3, i64_w, i32_w]
           rfl
          refine pure_ (i := 2) (N := some 36) (v := ?_) (a' := ?_) #[T, F, T, F, F, F, F, F] rfl rfl (any_of HT_.out (by kernel_rfl)) (fun _ _ _ h => h) (Or.inl ⟨by rfl, ?_⟩) ?_ ?_
          rotate_left
          ·
           intro w'
           go_simp
           with_reducible rfl
          rotate_left
          ·
           simp only [Act.put, q1, q2, q3, i64_w, i32_w]
           rfl
          refine take_ (i := 1) (N := some 35) (v := ?_) (a' := ?_) #[T, T, T, F, F, F, F, F] rfl rfl (take_ofW HT_.out HW_.out (by kernel_rfl)) (fun _ _ _ h => h) (Or.inl ⟨by rfl, ?_⟩) hHeld ?_ ?_
          rotate_left
          ·
           rintro w' ⟨s0, s1⟩
           go_simp
           with_reducible rfl
          rotate_left
          ·
           simp only [Act.put, q1, q2, q3, i64_w, i32_w]
           rfl
          refine one_ (i := 3) (N := some 37) #[T, T, T, T, F, F, F, F] rfl rfl (one_of HT_.out (by kernel_rfl)) (by decide) (fun K hK => ?_)
          refine goes_ Tryd.func75 (by kernel_rfl) rfl #[.slice Ao49 x8_2.length co49] (by rfl) rfl rfl (by (try simp only [List.map_toArray, List.map_cons, List.map_nil]); first | done | rfl | (simp only [List.length_drop, List.length_take]; rfl)) ?_
          with_reducible refine (downpourref01_From.calls k2 _ _ x8_2 t338 t339 _ ?side1 ?side2 A41.out).mono ?_
          (case side1 => repeat (first | exact (Kd.R_reads' HO_8.out).2.2 | (with_reducible refine Kd.C_alloc ?_ _) | (with_reducible refine Kd.C_drewN ?_ _) | (with_reducible refine Kd.C_drew ?_)))
          (case side2 => exact (Kd.R_reads' HO_8.out).2.1)
          rintro e w50 ⟨v340, rfl, ho0, hb⟩
          refine ⟨_, rfl, ?_⟩
          have n0_ := am (Kd.R_below (pr HO_8) hb)
          have n1_ := am (Kd.S_elder' (by (with_reducible repeat (first | apply Kd.S_alloc | apply Kd.S_drewN | apply Kd.S_drew)); exact HO_329001.out) (Kd.R_base ho0) hb)
          have n2_ := am (Kd.R_lower ho0 (below_size (pb HB)))
          have n3_ := bb BK325 hb
          have n4_ := bb BK326 hb
          have n5_ := bb BK327 hb
          have n6_ := bb BK328 hb
          have n7_ := bb BK330 hb
          have n8_ := am (below_step (pb HB) hb)
          clear HO_8
          clear HO_329001
          clear BK325
          clear BK326
          clear BK327
          clear BK328
          clear BK330
          clear HB
          have HO_8 := n0_
          have HO_329001 := n1_
          have HO341 := n2_
          have BK325 := n3_
          have BK326 := n4_
          have BK327 := n5_
          have BK328 := n6_
          have BK330 := n7_
          have HB := n8_
          clear n0_ n1_ n2_ n3_ n4_ n5_ n6_ n7_ n8_
          (try clear hb)
          (try clear hb2)
          (try clear hk)
          (try clear hi)
          (try clear ho0)
          obtain ⟨Ao52, co52, eo52⟩ := Kd.R_slice HO341.out
          (first | subst eo52 | (injection eo52 with f1_ f2_ f3_; have f4_ := f1_.symm; have f5_ := f3_.symm; clear f1_ f2_ f3_; subst f4_; subst f5_))
          refine hK.out _ _ ⟨(blk_cell BK328.out 0).trans rfl, (blk_cell BK328.out 1).trans rfl⟩ (fun hHeld => ?_)
          clear hK K
          refine norm_ (a' := ?_) ?_ ?_
          rotate_left
          ·
           show Act.put _ (some 37) _ = _
           simp only [Act.put, q1, q2, q3, i64_w, i32_w]
           rfl
          refine one_ (i := 4) (N := some 38) #[T, T, T, T, T, F, F, F] rfl rfl (one_of HT_.out (by kernel_rfl)) (by decide) (fun K hK => ?_)
          refine value_ (w1 := ?_) (v := ?_) (by rfl) rfl ?_ ?_
          rotate_left 2
          ·
           go_simp
           constructor
           ·
            rfl
           ·
            rfl
          refine hK.out _ _ ⟨(blk_cell (blk_alloc BK328.out _) 0).trans rfl, (blk_cell (blk_alloc BK328.out _) 1).trans rfl⟩ (fun hHeld => ?_)
          clear hK K
          refine norm_ (a' := ?_) ?_ ?_
          rotate_left
          ·
           show Act.put _ (some 38) _ = _
           simp only [Act.put, q1, q2, q3, i64_w, i32_w]
           rfl
          refine one_ (i := 5) (N := some 39) #[T, T, T, T, T, T, F, F] rfl rfl (one_of HT_.out (by kernel_rfl)) (by decide) (fun K hK => ?_)
          refine Kd.S_append_step k25 (w0 := w) w.heap.size (by rfl) (.tmp 35) (.tmp 38) 53 25 (.agg #[(.int .i64 0), (.slice none 0 0)]) 32 rfl Tryd.underlying53 info25 rfl (by decide) (by omega) u329001 x329001_1 (⟨t338, t339⟩ : S25) [.int .i64 t338, .slice Ao52 t339.length co52] (fun k_ => k_ ≠ gb330) (fun k_ => some k_ = (.slice Ao52 t339.length co52 : Value).ownBlock) rfl rfl ?aP (fun k_ hk_ => ((Kd.R_mono (ok' := fun k_ => ((fun k_ => k_ ≠ gb330)) k_ ∧ some k_ ≠ (u329001 : Value).ownBlock) (Kd.R_types (Kd.R_apart' (HO341.out) (Kd.S_typed HO_329001.out) (by decide)) BK330.out (by decide)) (fun k_ hk => ⟨hk.2, hk.1.2⟩))).1 k_ hk_.symm) ?aF ?aO ?aB ?aS ?aL ?_
          (case aP => exact k25_mkM _ _ _ (⟨t338, t339⟩ : S25) (Kd.R_mono (Kd.R_tight rfl (Kd.R_mono (ok' := fun k_ => ((fun k_ => k_ ≠ gb330)) k_ ∧ some k_ ≠ (u329001 : Value).ownBlock) (Kd.R_types (Kd.R_apart' (HO341.out) (Kd.S_typed HO_329001.out) (by decide)) BK330.out (by decide)) (fun k_ hk => ⟨hk.2, hk.1.2⟩))) (fun _ h_ => h_)))
          (case aB => exact (pb HB))
          (case aF => exact (fun k_ hk => Kd.freshB (g := gb330) (o := .cells #[.int .i64 ((rd_T25 l0_1 x16_1).f0), .slice A329_1 ((rd_T25 l0_1 x16_1).f1).length c329_1] 25 (0, 0)) (pk BK330) k_ hk))
          (case aO => exact (by (with_reducible repeat (first | apply Kd.S_alloc | apply Kd.S_drewN | apply Kd.S_drew)); exact Kd.S_mono HO_329001.out (fun k_ hk => ⟨hk.1, fun e_ => hk.2 e_⟩)))
          (case aS => exact (below_size (pb HB)))
          (case aL => have := LMc42.out; omega)
          intro v343 w51 ho hb hg hat
          rw [← Ny342.out] at ho
          have n0_ := am (Kd.R_over' (pr HO_8) (Kd.S_typed (by (with_reducible repeat (first | apply Kd.S_alloc | apply Kd.S_drewN | apply Kd.S_drew)); exact HO_329001.out)) (by decide) hg)
          have n1_ := am (blk_grown (g := gb325) (o := .cells #[.int .i64 a0_0, .slice (some ad329) l0_1.length c0_1] 55 (0, 0)) (pk BK325) hg (Kd.S_ne HO_329001.out BK325.out (by decide)))
          have n2_ := am (blk_grown (g := gb326) (o := .cells #[.int .i64 a1_0, .slice A1_1 l1_1.length c1_1] 55 (0, 0)) (pk BK326) hg (Kd.S_ne HO_329001.out BK326.out (by decide)))
          have n3_ := am (blk_grown (g := gb327) (o := .cells #[.int .i64 0, .slice none 0 0] 55 (0, 0)) (pk BK327) hg (Kd.S_ne HO_329001.out BK327.out (by decide)))
          have n4_ := am (blk_grown (g := gb328) (o := .cells #[.int .i64 a1_0, u329001] 55 (0, 0)) (pk BK328) hg (Kd.S_ne HO_329001.out BK328.out (by decide)))
          have n5_ := am (blk_grown (g := gb330) (o := .cells #[.int .i64 ((rd_T25 l0_1 x16_1).f0), .slice A329_1 ((rd_T25 l0_1 x16_1).f1).length c329_1] 25 (0, 0)) (pk BK330) hg (Kd.S_away HO_329001.out (fun _ hk => hk.1)))
          have n6_ := am (hb)
          have n7_ := am (ho)
          clear HO_8
          clear BK325
          clear BK326
          clear BK327
          clear BK328
          clear BK330
          clear HB
          clear HO_329001
          clear HO341
          have HO_8 := n0_
          have BK325 := n1_
          have BK326 := n2_
          have BK327 := n3_
          have BK328 := n4_
          have BK330 := n5_
          have HB := n6_
          have HO344 := n7_
          clear n0_ n1_ n2_ n3_ n4_ n5_ n6_ n7_
          clear ho hb hg hat
          obtain ⟨Ao53, co53, eo53⟩ := Kd.S_slice HO344.out
          (first | subst eo53 | (injection eo53 with f1_ f2_ f3_; have f4_ := f1_.symm; have f5_ := f3_.symm; clear f1_ f2_ f3_; subst f4_; subst f5_))
          refine hK.out _ _ ⟨(blk_cell BK328.out 0).trans rfl, (blk_cell BK328.out 1).trans rfl⟩ (fun hHeld => ?_)
          clear hK K
          refine norm_ (a' := ?_) ?_ ?_
          rotate_left
          ·
           show Act.put _ (some 39) _ = _
           simp only [Act.put, q1, q2, q3, i64_w, i32_w]
           rfl
          refine pure_ (i := 6) (N := some 40) (v := ?_) (a' := ?_) #[T, T, T, T, T, T, T, F] rfl rfl (any_of HT_.out (by kernel_rfl)) (fun _ _ _ h => h) (Or.inl ⟨by rfl, ?_⟩) ?_ ?_
          rotate_left
          ·
           intro w'
           go_simp
           with_reducible rfl
          rotate_left
          ·
           simp only [Act.put, q1, q2, q3, i64_w, i32_w]
           rfl
          refine last_ (i := 7) (N := none) #[T, T, T, T, T, T, T, T] rfl rfl (one_of HT_.out (by kernel_rfl)) (by decide) (fun K hK => ?_)
          have hs54 : w51.cell? ⟨gb328, 1, none⟩ = some (u329001) := (blk_cell BK328.out 1).trans rfl
          have hfs54 := blk_frozen BK328.out 1
          have hns54_0 := NB325_328.out
          have hns54_1 := NB326_328.out
          have hns54_2 := NB327_328.out
          have hns54_4 := NB330_328.out
          have hms54_0 := NB328_325.out
          have hms54_1 := NB328_326.out
          have hms54_2 := NB328_327.out
          have hms54_4 := NB328_330.out
          refine skip_ (w1 := ?_) (by rfl) rfl ?_ ?_
          rotate_left
          ·
           go_simp
           rfl
          refine hK.out _ _ ?_
          clear hK K
          refine done_ (done_of HT_.out (by kernel_rfl)) ?_
          try go_wp2
          go_roundg k2
          case measure => have := HK1.out; have := HK2.out; omega
          case rel => exact ⟨(wrap64 (x16_1 + 1)), (y342), (.slice Ao53 y342.length co53), (by first | rfl | (simp; done) | (simp [*]; done)), H', ⟨by have := HK1.out; have := HK2.out; omega⟩, ⟨by (with_reducible repeat (first | apply Kd.S_alloc | apply Kd.S_drewN | apply Kd.S_drew)); exact Kd.S_mono (Kd.S_far (p := ⟨gb328, 1, none⟩) (Kd.S_types HO344.out BK328.out (by decide)) (fun _ hk => hk.2) (.slice Ao53 y342.length co53)) (fun _ hk => trivial)⟩, ⟨by (with_reducible repeat (first | refine blk_drewN ?_ _ | refine blk_drew ?_ | refine blk_alloc ?_ _)); refine blk_far ?_ NB325_328.out _; (with_reducible repeat (first | refine blk_drewN ?_ _ | refine blk_drew ?_ | refine blk_alloc ?_ _)); exact BK325.out⟩, ⟨by (with_reducible repeat (first | refine blk_drewN ?_ _ | refine blk_drew ?_ | refine blk_alloc ?_ _)); refine blk_far ?_ NB326_328.out _; (with_reducible repeat (first | refine blk_drewN ?_ _ | refine blk_drew ?_ | refine blk_alloc ?_ _)); exact BK326.out⟩, ⟨by (with_reducible repeat (first | refine blk_drewN ?_ _ | refine blk_drew ?_ | refine blk_alloc ?_ _)); refine blk_far ?_ NB327_328.out _; (with_reducible repeat (first | refine blk_drewN ?_ _ | refine blk_drew ?_ | refine blk_alloc ?_ _)); exact BK327.out⟩, ⟨by (with_reducible repeat (first | refine blk_drewN ?_ _ | refine blk_drew ?_ | refine blk_alloc ?_ _)); refine blk_put (cs := #[.int .i64 a1_0, u329001]) ?_ 1 _ rfl; (with_reducible repeat (first | refine blk_drewN ?_ _ | refine blk_drew ?_ | refine blk_alloc ?_ _)); exact BK328.out⟩, ⟨pb HB⟩⟩
         ·
          rw [if_neg c42] at H
          exact absurd H (by simp)
     ·
      rw [if_neg c18] at H
      exact absurd H (by simp)
    ·
     rw [if_neg c17] at H
     exact absurd H (by simp)
   ·
    rw [if_neg c16] at H
    have c16b0 : decide (x16_1 < (l0_1.length : Int)) = false := decide_eq_false c16
    clear c16
    simp only [Option.some.injEq, Prod.mk.injEq] at H
    obtain ⟨rfl, rfl⟩ := H
    have hnb55 := NB328_325.out
    have hnc55 := NB325_328.out
    have hnb56 := NB328_326.out
    have hnc56 := NB326_328.out
    have hnb57 := NB328_327.out
    have hnc57 := NB327_328.out
    have hcz58_0 : wr.cell? ⟨gb328, 0, none⟩ = some (.int .i64 a1_0) := (blk_cell BK328.out 0).trans rfl
    have hcz58_1 : wr.cell? ⟨gb328, 1, none⟩ = some (u329001) := (blk_cell BK328.out 1).trans rfl
    have hfz58_0 := blk_frozen BK328.out 0
    have hfz58_1 := blk_frozen BK328.out 1
    have hnb59 := NB327_325.out
    have hnc59 := NB325_327.out
    have hnb60 := NB327_326.out
    have hnc60 := NB326_327.out
    have hcz61_0 : wr.cell? ⟨gb327, 0, none⟩ = some (.int .i64 0) := (blk_cell BK327.out 0).trans rfl
    have hcz61_1 : wr.cell? ⟨gb327, 1, none⟩ = some (.slice none 0 0) := (blk_cell BK327.out 1).trans rfl
    have hfz61_0 := blk_frozen BK327.out 0
    have hfz61_1 := blk_frozen BK327.out 1
    obtain ⟨Ao62, co62, eo62⟩ := Kd.S_slice HO_329001.out
    subst eo62
    go_wp2
    refine bodyPost_ret (results_cell_row rfl _ _ gb327 55 #[.int .i64 a1_0, .slice Ao62 x329001_1.length co62] (0, 0) _ rfl (by (with_reducible repeat (first | refine blk_drewN ?_ _ | refine blk_drew ?_ | refine blk_alloc ?_ _)); refine blk_put (cs := #[.int .i64 a1_0, .slice none 0 0]) ?_ 1 _ rfl; (with_reducible repeat (first | refine blk_drewN ?_ _ | refine blk_drew ?_ | refine blk_alloc ?_ _)); refine blk_put (cs := #[.int .i64 0, .slice none 0 0]) ?_ 0 _ rfl; (with_reducible repeat (first | refine blk_drewN ?_ _ | refine blk_drew ?_ | refine blk_alloc ?_ _)); exact BK327.out) Tryd.underlying55 rfl (by kernel_rfl)) rfl ?_
    exact ⟨_, by first | rfl | (simp [errW_none, errW_some] <;> rfl) | (simp [*, errW_none, errW_some] <;> rfl), by (with_reducible repeat (first | apply Kd.S_alloc | apply Kd.S_drewN | apply Kd.S_drew)); exact Kd.S_mono (Kd.S_far (p := ⟨gb327, 1, none⟩) (Kd.S_far (p := ⟨gb327, 0, none⟩) (Kd.S_types HO_329001.out BK327.out (by decide)) (fun _ hk => hk.2) (.int .i64 a1_0)) (fun _ hk => hk.2) (.slice Ao62 x329001_1.length co62)) (fun _ hk => trivial), pb HB⟩

/-! ### downpourref02_Texts: function 42 -/
def downpourref02_Texts.l0 : Nat → List ByteArray → List ByteArray → Int → Int → Option (Bool)
 | 0, _, _, _, _ => none
 | k + 1, x0, x1, x12, x13 => if x13 < x12 then (if 0 ≤ x13 then (if x13 < (x0.length : Int) then (if x13 < (x1.length : Int) then (if (rdOf ByteArray.empty x0 x13).toList = (rdOf ByteArray.empty x1 x13).toList then (downpourref02_Texts.l0 k x0 x1 x12 (wrap64 (x13 + 1))) else (some false)) else (none)) else (none)) else (none)) else (some true)
def downpourref02_Texts.f (k : Nat) (l0 : List ByteArray) (l1 : List ByteArray) : Option (Bool) := if (l0.length : Int) = (l1.length : Int) then (downpourref02_Texts.l0 k l0 l1 (l0.length : Int) 0) else (some false)
theorem downpourref02_Texts.mono_l : ∀ k, (∀ y0 y1 y2 y3, LeO (downpourref02_Texts.l0 k y0 y1 y2 y3) (downpourref02_Texts.l0 (k + 1) y0 y1 y2 y3))
 | 0 => fun _ _ _ _ r h => by simp [downpourref02_Texts.l0] at h
 | k + 1 => by
  have ih0 := downpourref02_Texts.mono_l k
  ·
   intro y0 y1 y2 y3
   unfold downpourref02_Texts.l0
   repeat' first
   | (with_reducible exact ih0 _ _ _ _)
   | (with_reducible exact LeO.refl _)
   | (with_reducible exact LeO.none _)
   | (with_reducible refine LeO.ite ?_ ?_)
   | (with_reducible refine LeO.bind ?_ (fun _ => ?_))
   | exact ih0 _ _ _ _
   | exact LeO.none _
   | refine LeO.ite ?_ ?_
   | refine LeO.bind ?_ (fun _ => ?_)
theorem downpourref02_Texts.mono : ∀ a0 a1 k, LeO (downpourref02_Texts.f k a0 a1) (downpourref02_Texts.f (k + 1) a0 a1) := by
 intro a0 a1 k
 have ih0 := downpourref02_Texts.mono_l k
 unfold downpourref02_Texts.f
 repeat' first
   | (with_reducible exact ih0 _ _ _ _)
   | (with_reducible exact LeO.refl _)
   | (with_reducible exact LeO.none _)
   | (with_reducible refine LeO.ite ?_ ?_)
   | (with_reducible refine LeO.bind ?_ (fun _ => ?_))
   | exact ih0 _ _ _ _
   | exact LeO.none _
   | refine LeO.ite ?_ ?_
   | refine LeO.bind ?_ (fun _ => ?_)
set_option maxHeartbeats 8000000 in
set_option maxRecDepth 100000 in
theorem downpourref02_Texts.calls (k : Nat) (A0 : Option Addr) (c0 : Nat) (l0 : List ByteArray) (A1 : Option Addr) (c1 : Nat) (l1 : List ByteArray) (r : Bool) (w : World) (hr0 : Kd.C Kd.string w A0 l0.length l0) (hc0 : l0.length ≤ c0) (hr1 : Kd.C Kd.string w A1 l1.length l1) (hc1 : l1.length ≤ c1) (h : downpourref02_Texts.f k l0 l1 = some r) :
  Calls Tryd.prog 42 #[.slice A0 l0.length c0, .slice A1 l1.length c1] w fun e w' => e = .returned (.bool r) ∧ Drawn0 w w' := by
 have HR0 := Aside0.mk hr0
 have HC0 := Aside0.mk hc0
 clear hr0 hc0
 have HR1 := Aside0.mk hr1
 have HC1 := Aside0.mk hc1
 clear hr1 hc1
 have H : (if (l0.length : Int) = (l1.length : Int) then (downpourref02_Texts.l0 k l0 l1 (l0.length : Int) 0) else (some false)) = some r := h
 clear h
 by_cases c3 : (l0.length : Int) = (l1.length : Int)
 ·
  rw [if_pos c3] at H
  have c3b0 : ((l0.length : Int) == (l1.length : Int)) = true := beq_iff_eq.mpr c3
  have c3b1 : ((l0.length : Int) != (l1.length : Int)) = false := bne_eq_false_iff_eq.mpr c3
  have c3b2 : (l0.length == l1.length) = true := by first | simpa using c3 | (simp at c3 ⊢; omega)
  clear c3
  have H' := Aside0.mk H
  clear H
  go_enter Tryd.func42, Tryd.ntmps42
  go_wp2
  repeat (go_quiet (fail); try go_wp2)
  go_loopg [13] k (fun kq v13 w' => ∃ (x13_1 : Int), v13 = .int .i64 x13_1 ∧ Aside0 (downpourref02_Texts.l0 kq l0 l1 (l0.length : Int) x13_1 = some r) ∧ Aside0 (kq ≤ k) ∧ Drawn0 w w')
  case atStart => exact ⟨(0), (by first | rfl | (simp; done) | (simp [*]; done)), H', ⟨Nat.le_refl _⟩, by repeat (first | exact Drawn0.refl _ | apply Drawn0.step)⟩
  case round =>
   clear H'
   try clear c1
   try clear p2
   try clear c3
   try clear c3b0
   try clear c3b1
   try clear c3b2
   obtain ⟨x13_1, rfl, HA, HK1, ⟨m1, rfl⟩⟩ := hrel
   cases gk with
   | zero => exact absurd HA.out (by simp [downpourref02_Texts.l0])
   | succ k1 =>
    have H := HA.out
    clear HA
    simp only [downpourref02_Texts.l0] at H
    by_cases c4 : x13_1 < (l0.length : Int)
    ·
     rw [if_pos c4] at H
     have c4b0 : decide (x13_1 < (l0.length : Int)) = true := decide_eq_true c4
     clear c4
     by_cases c5 : 0 ≤ x13_1
     ·
      rw [if_pos c5] at H
      have c5b0 : decide (0 ≤ x13_1) = true := decide_eq_true c5
      clear c5
      by_cases c6 : x13_1 < (l0.length : Int)
      ·
       rw [if_pos c6] at H
       have c6b0 : decide (x13_1 < (l0.length : Int)) = true := decide_eq_true c6
       clear c6
       by_cases c7 : x13_1 < (l1.length : Int)
       ·
        rw [if_pos c7] at H
        have c7b0 : decide (x13_1 < (l1.length : Int)) = true := decide_eq_true c7
        clear c7
        by_cases c8 : (rdOf ByteArray.empty l0 x13_1).toList = (rdOf ByteArray.empty l1 x13_1).toList
        ·
         rw [if_pos c8] at H
         have c8b0 : ((rdOf ByteArray.empty l0 x13_1).toList == (rdOf ByteArray.empty l1 x13_1).toList) = true := beq_iff_eq.mpr c8
         have c8b1 : ((rdOf ByteArray.empty l0 x13_1).toList != (rdOf ByteArray.empty l1 x13_1).toList) = false := bne_eq_false_iff_eq.mpr c8
         clear c8
         have H' := Aside0.mk H
         clear H
         have p345 : 0 ≤ (x13_1 : Int) := of_decide_eq_true (by first | (with_reducible assumption) | assumption)
         have q345 : x13_1 < (l0.length : Int) := of_decide_eq_true (by first | (with_reducible assumption) | assumption)
         obtain ⟨ad345, e345, hx345_0⟩ := Kd.at_string HR0.out x13_1 p345 q345
         cases e345
         replace p345 := eq_true p345
         replace q345 := eq_true q345
         have p346 : 0 ≤ (x13_1 : Int) := of_decide_eq_true (by first | (with_reducible assumption) | assumption)
         have q346 : x13_1 < (l1.length : Int) := of_decide_eq_true (by first | (with_reducible assumption) | assumption)
         obtain ⟨ad346, e346, hx346_0⟩ := Kd.at_string HR1.out x13_1 p346 q346
         cases e346
         replace p346 := eq_true p346
         replace q346 := eq_true q346
         go_wp2
         repeat (go_quiet (fail); try go_wp2)
         go_roundg k1
         case measure => have := HK1.out; omega
         case rel => exact ⟨(wrap64 (x13_1 + 1)), (by first | rfl | (simp; done) | (simp [*]; done)), H', ⟨by have := HK1.out; omega⟩, by repeat (first | exact Drawn0.refl _ | apply Drawn0.step)⟩
        ·
         rw [if_neg c8] at H
         have c8b0 : ((rdOf ByteArray.empty l0 x13_1).toList == (rdOf ByteArray.empty l1 x13_1).toList) = false := beq_eq_false_iff_ne.mpr c8
         have c8b1 : ((rdOf ByteArray.empty l0 x13_1).toList != (rdOf ByteArray.empty l1 x13_1).toList) = true := bne_iff_ne.mpr c8
         obtain rfl := Option.some.inj H
         have p345 : 0 ≤ (x13_1 : Int) := of_decide_eq_true (by first | (with_reducible assumption) | assumption)
         have q345 : x13_1 < (l0.length : Int) := of_decide_eq_true (by first | (with_reducible assumption) | assumption)
         obtain ⟨ad345, e345, hx345_0⟩ := Kd.at_string HR0.out x13_1 p345 q345
         cases e345
         replace p345 := eq_true p345
         replace q345 := eq_true q345
         have p346 : 0 ≤ (x13_1 : Int) := of_decide_eq_true (by first | (with_reducible assumption) | assumption)
         have q346 : x13_1 < (l1.length : Int) := of_decide_eq_true (by first | (with_reducible assumption) | assumption)
         obtain ⟨ad346, e346, hx346_0⟩ := Kd.at_string HR1.out x13_1 p346 q346
         cases e346
         replace p346 := eq_true p346
         replace q346 := eq_true q346
         go_wp2
         repeat (go_quiet (fail); try go_wp2)
         go_ret
         exact ⟨by first | rfl | (simp; done) | (simp [*]; done), by repeat (first | exact Drawn0.refl _ | apply Drawn0.step)⟩
       ·
        rw [if_neg c7] at H
        exact absurd H (by simp)
      ·
       rw [if_neg c6] at H
       exact absurd H (by simp)
     ·
      rw [if_neg c5] at H
      exact absurd H (by simp)
    ·
     rw [if_neg c4] at H
     have c4b0 : decide (x13_1 < (l0.length : Int)) = false := decide_eq_false c4
     clear c4
     obtain rfl := Option.some.inj H
     go_wp2
     repeat (go_quiet (fail); try go_wp2)
     go_ret
     exact ⟨by first | rfl | (simp; done) | (simp [*]; done), by repeat (first | exact Drawn0.refl _ | apply Drawn0.step)⟩
 ·
  rw [if_neg c3] at H
  have c3b0 : ((l0.length : Int) == (l1.length : Int)) = false := beq_eq_false_iff_ne.mpr c3
  have c3b1 : ((l0.length : Int) != (l1.length : Int)) = true := bne_iff_ne.mpr c3
  have c3b2 : (l0.length == l1.length) = false := by first | simpa using c3 | (simp at c3 ⊢; omega)
  obtain rfl := Option.some.inj H
  go_enter Tryd.func42, Tryd.ntmps42
  go_wp2
  repeat (go_quiet (fail); try go_wp2)
  go_ret
  exact ⟨by first | rfl | (simp; done) | (simp [*]; done), by repeat (first | exact Drawn0.refl _ | apply Drawn0.step)⟩

end Go.Proofs.YtfcedhejbnoinaaDoor.PM
