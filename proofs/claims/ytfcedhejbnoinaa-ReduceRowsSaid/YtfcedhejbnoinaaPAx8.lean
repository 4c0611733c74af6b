-- PRINTED by print.py (a twelfth state) out of the translation. Not trusted: Lean checks it.
import Derived.Test.YtfcedhejbnoinaaPAx0
import Derived.Test.YtfcedhejbnoinaaPAx5
namespace Go.Proofs.Ytfcedhejbnoinaa.PA
open Go.RowKit Go.Proofs.YtfcedhejbnoinaaW.PrintWords Go.Proofs.YtfcedhejbnoinaaW.PrintLast Go.Proofs.YtfcedhejbnoinaaW.PrintMore
open Bool renaming true → T, false → F
open List renaming setIfInBounds_toArray → q1, set_cons_zero → q2, set_cons_succ → q3
attribute [local go_sem] run_store_func max2_int min2_int max_two min_two max_three min_three max_four min_four   -- for this text's walks alone
set_option linter.unusedVariables false
set_option linter.unusedSimpArgs false

/-! ### downpourref01_From: function 57 -/
mutual
def downpourref01_From.l0 : Nat → List Int → Int → Int → List Int → Option (Int × List Int)
 | 0, _, _, _, _ => none
 | k + 1, x0, x4, x213000, x213001 => (downpourref01_words.f (x0.length : Int)).bind fun t213 => (if x4 < t213 then (downpourref01_From.l1 k x0 x4 0 63 x213000 x213001) else (some (x213000, x213001)))
def downpourref01_From.l1 : Nat → List Int → Int → Int → Int → Int → List Int → Option (Int × List Int)
 | 0, _, _, _, _, _, _ => none
 | k + 1, x0, x4, x5, x6, x213000, x213001 => if x6 ≥ 0 then (if (wrap64 ((wrap64 (64 * x4)) + x6)) < (x0.length : Int) then (if 0 ≤ (wrap64 ((wrap64 (64 * x4)) + x6)) then (if (rd x0 (wrap64 ((wrap64 (64 * x4)) + x6))) = 1 then (downpourref01_From.l1 k x0 x4 (IntKind.u64.wrap ((IntKind.u64.wrap (2 * x5)) + 1)) (wrap64 (x6 - 1)) x213000 x213001) else (downpourref01_From.l1 k x0 x4 (IntKind.u64.wrap (2 * x5)) (wrap64 (x6 - 1)) x213000 x213001)) else (none)) else (downpourref01_From.l1 k x0 x4 (IntKind.u64.wrap (2 * x5)) (wrap64 (x6 - 1)) x213000 x213001)) else (if x213001.length < 17592186044416 then (downpourref01_From.l0 k x0 (wrap64 (x4 + 1)) x213000 (x213001 ++ [x5])) else (none))
end
def downpourref01_From.f (k : Nat) (l0 : List Int) : Option (Int × List Int) := downpourref01_From.l0 k l0 0 (l0.length : Int) ([] : List Int)
theorem downpourref01_From.mono_l : ∀ k, (∀ y0 y1 y2 y3, LeO (downpourref01_From.l0 k y0 y1 y2 y3) (downpourref01_From.l0 (k + 1) y0 y1 y2 y3)) ∧ (∀ y0 y1 y2 y3 y4 y5, LeO (downpourref01_From.l1 k y0 y1 y2 y3 y4 y5) (downpourref01_From.l1 (k + 1) y0 y1 y2 y3 y4 y5))
 | 0 => ⟨fun _ _ _ _ r h => by simp [downpourref01_From.l0] at h, fun _ _ _ _ _ _ r h => by simp [downpourref01_From.l1] at h⟩
 | k + 1 => by
  obtain ⟨ih0, ih1⟩ := downpourref01_From.mono_l k
  refine ⟨?_, ?_⟩
  ·
   intro y0 y1 y2 y3
   unfold downpourref01_From.l0
   repeat' first
   | (with_reducible exact ih0 _ _ _ _)
   | (with_reducible exact ih1 _ _ _ _ _ _)
   | (with_reducible exact LeO.refl _)
   | (with_reducible exact LeO.none _)
   | (with_reducible refine LeO.ite ?_ ?_)
   | (with_reducible refine LeO.bind ?_ (fun _ => ?_))
   | exact ih0 _ _ _ _
   | exact ih1 _ _ _ _ _ _
   | exact LeO.none _
   | refine LeO.ite ?_ ?_
   | refine LeO.bind ?_ (fun _ => ?_)
  ·
   intro y0 y1 y2 y3 y4 y5
   unfold downpourref01_From.l1
   repeat' first
   | (with_reducible exact ih0 _ _ _ _)
   | (with_reducible exact ih1 _ _ _ _ _ _)
   | (with_reducible exact LeO.refl _)
   | (with_reducible exact LeO.none _)
   | (with_reducible refine LeO.ite ?_ ?_)
   | (with_reducible refine LeO.bind ?_ (fun _ => ?_))
   | exact ih0 _ _ _ _
   | exact ih1 _ _ _ _ _ _
   | exact LeO.none _
   | refine LeO.ite ?_ ?_
   | refine LeO.bind ?_ (fun _ => ?_)
theorem downpourref01_From.mono : ∀ a0 k, LeO (downpourref01_From.f k a0) (downpourref01_From.f (k + 1) a0) := by
 intro a0 k
 obtain ⟨ih0, ih1⟩ := downpourref01_From.mono_l k
 unfold downpourref01_From.f
 repeat' first
   | (with_reducible exact ih0 _ _ _ _)
   | (with_reducible exact ih1 _ _ _ _ _ _)
   | (with_reducible exact LeO.refl _)
   | (with_reducible exact LeO.none _)
   | (with_reducible refine LeO.ite ?_ ?_)
   | (with_reducible refine LeO.bind ?_ (fun _ => ?_))
   | exact ih0 _ _ _ _
   | exact ih1 _ _ _ _ _ _
   | exact LeO.none _
   | refine LeO.ite ?_ ?_
   | refine LeO.bind ?_ (fun _ => ?_)
set_option maxHeartbeats 8000000 in
set_option maxRecDepth 100000 in
theorem downpourref01_From.calls (k : Nat) (A0 : Option Addr) (c0 : Nat) (l0 : List Int) (r1 : Int) (r2 : List Int) (w : World) (hr0 : Kd.C (Kd.int .i64) w A0 l0.length l0) (hc0 : l0.length ≤ c0) (h : downpourref01_From.f k l0 = some (r1, r2)) :
  Calls Try.prog 57 #[.slice A0 l0.length c0] w fun e w' => ∃ v1_ : Value, e = .returned (.agg #[.int .i64 r1, v1_]) ∧ Kd.R (Kd.int .u64) 48 w' w.heap.size (fun _ => True) v1_ r2 ∧ Below w.heap.size w w' := by
 have hu40 := Try.underlying40
 have HR0 := Aside0.mk hr0
 have HC0 := Aside0.mk hc0
 clear hr0 hc0
 have HB := am (Below.refl w.heap.size w)
 have H : (downpourref01_From.l0 k l0 0 (l0.length : Int) ([] : List Int)) = some (r1, r2) := h
 clear h
 have H' := Aside0.mk H
 clear H
 go_enter Try.func57, Try.ntmps57
 go_wp2_with (first | ((with_reducible refine gate_dst (N := 2) rfl ?_); refine box_event ?hg (N := 2) ?hd (cs := #[.int .i64 0, .slice none 0 0]) (t := 40) ?hr ?_; (case hd => rfl); (case hg => rfl); (case hr => first | (go_simp; done) | (go_simp; rfl)); intro gb211 hg w2 hbox hb; have n0_ := am (below_step (pb HB) hb); have n1_ := am (hbox); have n2_ := am ((by rw [hg]; exact (below_size (pb HB)) : w.heap.size ≤ gb211)); have n3_ := am ((by rw [hg]; exact (below_size (pb HB)) : w.heap.size ≤ gb211)); clear HB; have HB := n0_; have BK211 := n1_; have GW211 := n2_; have GE211 := n3_; clear n0_ n1_ n2_ n3_ hb hbox hg) | ((with_reducible refine gate_dst (N := 3) rfl ?_); refine box_event ?hg (N := 3) ?hd (cs := #[.int .i64 0, .slice none 0 0]) (t := 40) ?hr ?_; (case hd => rfl); (case hg => rfl); (case hr => first | (go_simp; done) | (go_simp; rfl)); intro gb212 hg w3 hbox hb; have n0_ := bb BK211 hb; have n1_ := am (below_step (pb HB) hb); have n2_ := am (hbox); have n3_ := am ((by rw [hg]; exact (below_size (pb HB)) : w.heap.size ≤ gb212)); have n4_ := am ((by rw [hg]; exact (below_size (pb HB)) : w.heap.size ≤ gb212)); have n5_ := am ((by rw [hg]; exact Nat.ne_of_lt (bl BK211) : gb211 ≠ gb212)); have n6_ := am ((by rw [hg]; exact Nat.ne_of_gt (bl BK211) : gb212 ≠ gb211)); clear BK211 HB; have BK211 := n0_; have HB := n1_; have BK212 := n2_; have GW212 := n3_; have GE212 := n4_; have NB211_212 := n5_; have NB212_211 := n6_; clear n0_ n1_ n2_ n3_ n4_ n5_ n6_ hb hbox hg; have hnb4 := NB212_211.out; have hnc4 := NB211_212.out; have hcz5_0 : w3.cell? ⟨gb212, 0, none⟩ = some (.int .i64 0) := (blk_cell BK212.out 0).trans rfl; have hcz5_1 : w3.cell? ⟨gb212, 1, none⟩ = some (.slice none 0 0) := (blk_cell BK212.out 1).trans rfl; have hfz5_0 := blk_frozen BK212.out 0; have hfz5_1 := blk_frozen BK212.out 1))
 go_loopg [4] k (fun kq v4 w' => ∃ (x4_1 : Int) (x213001_1 : List Int) (u213001 : Value), v4 = .int .i64 x4_1 ∧ Aside0 (downpourref01_From.l0 kq l0 x4_1 (l0.length : Int) x213001_1 = some (r1, r2)) ∧ Aside0 (kq ≤ k) ∧ Aside0 (Kd.R (Kd.int .u64) 48 w' w.heap.size (fun _ => True) u213001 x213001_1) ∧ Aside0 (w'.heap[gb211]? = some (.cells #[.int .i64 0, (.slice none 0 0)] 40 (0, 0))) ∧ Aside0 (w'.heap[gb212]? = some (.cells #[.int .i64 (l0.length : Int), u213001] 40 (0, 0))) ∧ Aside0 (Below w.heap.size w w'))
 case atStart => exact ⟨(0), (([] : List Int)), (.slice none 0 0), (by first | rfl | (simp; done) | (simp [*]; done)), H', ⟨Nat.le_refl _⟩, ⟨by first | exact Kd.R_nil _ _ _ _ _ | exact Kd.N_nil _ _ _ _ _ | exact Kd.V_nil _ _ _ _ _ | exact Kd.Q_nil _ _ _ _ _ | exact Kd.S_nil _ _ _ _ _⟩, ⟨by (with_reducible repeat (first | refine blk_drewN ?_ _ | refine blk_drew ?_ | refine blk_alloc ?_ _)); refine blk_far ?_ NB211_212.out _; (with_reducible repeat (first | refine blk_drewN ?_ _ | refine blk_drew ?_ | refine blk_alloc ?_ _)); refine blk_far ?_ NB211_212.out _; (with_reducible repeat (first | refine blk_drewN ?_ _ | refine blk_drew ?_ | refine blk_alloc ?_ _)); exact BK211.out⟩, ⟨by (with_reducible repeat (first | refine blk_drewN ?_ _ | refine blk_drew ?_ | refine blk_alloc ?_ _)); refine blk_put (cs := #[.int .i64 (l0.length : Int), .slice none 0 0]) ?_ 1 _ rfl; (with_reducible repeat (first | refine blk_drewN ?_ _ | refine blk_drew ?_ | refine blk_alloc ?_ _)); refine blk_put (cs := #[.int .i64 0, .slice none 0 0]) ?_ 0 _ rfl; (with_reducible repeat (first | refine blk_drewN ?_ _ | refine blk_drew ?_ | refine blk_alloc ?_ _)); exact BK212.out⟩, ⟨pb HB⟩⟩
 case round =>
  clear H'
  try clear p2
  try clear c4
  try clear c5
  try clear hcz5_0
  try clear hcz5_1
  try clear hfz5_0
  try clear hfz5_1
  obtain ⟨x4_1, x213001_1, u213001, rfl, HA, HK1, HO_213001, BK211, BK212, HB⟩ := hrel
  cases gk with
  | zero => exact absurd HA.out (by simp [downpourref01_From.l0])
  | succ k1 =>
   have H := HA.out
   clear HA
   simp only [downpourref01_From.l0] at H
   replace H := Option.bind_eq_some_iff.mp H
   obtain ⟨t213, A60, H⟩ := H
   replace H : (if x4_1 < t213 then (downpourref01_From.l1 k1 l0 x4_1 0 63 (l0.length : Int) x213001_1) else (some ((l0.length : Int), x213001_1))) = some (r1, r2) := H
   have A6 := Aside0.mk A60
   clear A60
   by_cases c7 : x4_1 < t213
   ·
    rw [if_pos c7] at H
    have c7b0 : decide (x4_1 < t213) = true := decide_eq_true c7
    clear c7
    have H' := Aside0.mk H
    clear H
    go_wp2_with (first | ((with_reducible refine gate_callee (f := 38) rfl ?_); refine goesL_ (some 13) rfl rfl Try.func38 (by kernel_rfl) rfl #[.int .i64 (l0.length : Int)] rfl (by (try simp only [List.map_toArray, List.map_cons, List.map_nil]); first | done | rfl | (simp only [List.length_drop, List.length_take]; rfl)) ?_; (with_reducible refine (downpourref01_words.calls (l0.length : Int) t213 _ A6.out).mono ?_); rintro e w' ⟨rfl, ⟨nd, rfl⟩⟩; refine ⟨_, rfl, ?_⟩))
    go_loopg [5, 6] k1 (fun kq v5 v6 w' => ∃ (x5_2 : Int) (x6_2 : Int), v5 = .int .u64 x5_2 ∧ v6 = .int .i64 x6_2 ∧ Aside0 (downpourref01_From.l1 kq l0 x4_1 x5_2 x6_2 (l0.length : Int) x213001_1 = some (r1, r2)) ∧ Aside0 (kq ≤ k1) ∧ Aside0 (Kd.R (Kd.int .u64) 48 w' w.heap.size (fun _ => True) u213001 x213001_1) ∧ Aside0 (w'.heap[gb211]? = some (.cells #[.int .i64 0, (.slice none 0 0)] 40 (0, 0))) ∧ Aside0 (w'.heap[gb212]? = some (.cells #[.int .i64 (l0.length : Int), u213001] 40 (0, 0))) ∧ Aside0 (Below w.heap.size w w'))
    case atStart => exact ⟨(0), (63), (by first | rfl | (simp; done) | (simp [*]; done)), (by first | rfl | (simp; done) | (simp [*]; done)), H', ⟨Nat.le_refl _⟩, ⟨by (with_reducible repeat (first | apply Kd.R_alloc | apply Kd.R_drewN | apply Kd.R_drew)); exact HO_213001.out⟩, ⟨by (with_reducible repeat (first | refine blk_drewN ?_ _ | refine blk_drew ?_ | refine blk_alloc ?_ _)); exact BK211.out⟩, ⟨by (with_reducible repeat (first | refine blk_drewN ?_ _ | refine blk_drew ?_ | refine blk_alloc ?_ _)); exact BK212.out⟩, ⟨pb HB⟩⟩
    case round =>
     clear H'
     try clear p2
     try clear c3
     try clear c4
     try clear c5
     try clear c7
     try clear c7b0
     try clear hcz5_0
     try clear hcz5_1
     try clear hfz5_0
     try clear hfz5_1
     try clear p2
     obtain ⟨x5_2, x6_2, rfl, rfl, HA, HK2, HO_213001, BK211, BK212, HB⟩ := hrel
     cases gk with
     | zero => exact absurd HA.out (by simp [downpourref01_From.l1])
     | succ k2 =>
      have H := HA.out
      clear HA
      simp only [downpourref01_From.l1] at H
      by_cases c8 : x6_2 ≥ 0
      ·
       rw [if_pos c8] at H
       have c8b0 : decide (0 ≤ x6_2) = true := decide_eq_true c8
       clear c8
       by_cases c9 : (wrap64 ((wrap64 (64 * x4_1)) + x6_2)) < (l0.length : Int)
       ·
        rw [if_pos c9] at H
        have c9b0 : decide ((wrap64 ((wrap64 (64 * x4_1)) + x6_2)) < (l0.length : Int)) = true := decide_eq_true c9
        clear c9
        obtain ⟨ji10, hji10⟩ : ∃ j_ : Int, (wrap64 ((wrap64 (64 * x4_1)) + x6_2)) = j_ := ⟨_, rfl⟩
        replace H : (if 0 ≤ (ji10) then (if (rd l0 (ji10)) = 1 then (downpourref01_From.l1 k2 l0 x4_1 (IntKind.u64.wrap ((IntKind.u64.wrap (2 * x5_2)) + 1)) (wrap64 (x6_2 - 1)) (l0.length : Int) x213001_1) else (downpourref01_From.l1 k2 l0 x4_1 (IntKind.u64.wrap (2 * x5_2)) (wrap64 (x6_2 - 1)) (l0.length : Int) x213001_1)) else (none)) = some (r1, r2) := by first | (rw [hji10] at H; exact H) | (simp only [hji10] at H ⊢; exact H)
        (try rw [hji10] at c9b0)
        have hji10w : (IntKind.i64.wrap ((wrap64 (64 * x4_1)) + x6_2)) = ji10 := (i64_w _).trans hji10
        by_cases c11 : 0 ≤ (ji10)
        ·
         rw [if_pos c11] at H
         have c11b0 : decide (0 ≤ (ji10)) = true := decide_eq_true c11
         clear c11
         by_cases c12 : (rd l0 (ji10)) = 1
         ·
          rw [if_pos c12] at H
          have c12b0 : ((rd l0 (ji10)) == 1) = true := beq_iff_eq.mpr c12
          have c12b1 : ((rd l0 (ji10)) != 1) = false := bne_eq_false_iff_eq.mpr c12
          clear c12
          have H' := Aside0.mk H
          clear H
          have p214 : 0 ≤ ((ji10) : Int) := of_decide_eq_true (by first | (with_reducible assumption) | assumption)
          have q214 : (ji10) < (l0.length : Int) := of_decide_eq_true (by first | (with_reducible assumption) | assumption)
          obtain ⟨ad214, e214, hx214_0⟩ := Kd.at_int HR0.out (ji10) p214 q214
          cases e214
          replace hx214_0 := (HB.out.cell (World.block_lt_of_cell? w _ hx214_0)).trans hx214_0
          replace p214 := eq_true p214
          replace q214 := eq_true q214
          go_wp2
          go_roundg k2
          case measure => have := HK1.out; have := HK2.out; omega
          case rel => exact ⟨(IntKind.u64.wrap ((IntKind.u64.wrap (2 * x5_2)) + 1)), (wrap64 (x6_2 - 1)), (by first | rfl | (simp; done) | (simp [*]; done)), (by first | rfl | (simp; done) | (simp [*]; done)), H', ⟨by have := HK1.out; have := HK2.out; omega⟩, ⟨by (with_reducible repeat (first | apply Kd.R_alloc | apply Kd.R_drewN | apply Kd.R_drew)); exact HO_213001.out⟩, ⟨by (with_reducible repeat (first | refine blk_drewN ?_ _ | refine blk_drew ?_ | refine blk_alloc ?_ _)); exact BK211.out⟩, ⟨by (with_reducible repeat (first | refine blk_drewN ?_ _ | refine blk_drew ?_ | refine blk_alloc ?_ _)); exact BK212.out⟩, ⟨pb HB⟩⟩
         ·
          rw [if_neg c12] at H
          have c12b0 : ((rd l0 (ji10)) == 1) = false := beq_eq_false_iff_ne.mpr c12
          have c12b1 : ((rd l0 (ji10)) != 1) = true := bne_iff_ne.mpr c12
          have H' := Aside0.mk H
          clear H
          have p214 : 0 ≤ ((ji10) : Int) := of_decide_eq_true (by first | (with_reducible assumption) | assumption)
          have q214 : (ji10) < (l0.length : Int) := of_decide_eq_true (by first | (with_reducible assumption) | assumption)
          obtain ⟨ad214, e214, hx214_0⟩ := Kd.at_int HR0.out (ji10) p214 q214
          cases e214
          replace hx214_0 := (HB.out.cell (World.block_lt_of_cell? w _ hx214_0)).trans hx214_0
          replace p214 := eq_true p214
          replace q214 := eq_true q214
          go_wp2
          go_roundg k2
          case measure => have := HK1.out; have := HK2.out; omega
          case rel => exact ⟨(IntKind.u64.wrap (2 * x5_2)), (wrap64 (x6_2 - 1)), (by first | rfl | (simp; done) | (simp [*]; done)), (by first | rfl | (simp; done) | (simp [*]; done)), H', ⟨by have := HK1.out; have := HK2.out; omega⟩, ⟨by (with_reducible repeat (first | apply Kd.R_alloc | apply Kd.R_drewN | apply Kd.R_drew)); exact HO_213001.out⟩, ⟨by (with_reducible repeat (first | refine blk_drewN ?_ _ | refine blk_drew ?_ | refine blk_alloc ?_ _)); exact BK211.out⟩, ⟨by (with_reducible repeat (first | refine blk_drewN ?_ _ | refine blk_drew ?_ | refine blk_alloc ?_ _)); exact BK212.out⟩, ⟨pb HB⟩⟩
        ·
         rw [if_neg c11] at H
         exact absurd H (by simp)
       ·
        rw [if_neg c9] at H
        have c9b0 : decide ((wrap64 ((wrap64 (64 * x4_1)) + x6_2)) < (l0.length : Int)) = false := decide_eq_false c9
        clear c9
        have H' := Aside0.mk H
        clear H
        go_wp2
        go_roundg k2
        case measure => have := HK1.out; have := HK2.out; omega
        case rel => exact ⟨(IntKind.u64.wrap (2 * x5_2)), (wrap64 (x6_2 - 1)), (by first | rfl | (simp; done) | (simp [*]; done)), (by first | rfl | (simp; done) | (simp [*]; done)), H', ⟨by have := HK1.out; have := HK2.out; omega⟩, ⟨by (with_reducible repeat (first | apply Kd.R_alloc | apply Kd.R_drewN | apply Kd.R_drew)); exact HO_213001.out⟩, ⟨by (with_reducible repeat (first | refine blk_drewN ?_ _ | refine blk_drew ?_ | refine blk_alloc ?_ _)); exact BK211.out⟩, ⟨by (with_reducible repeat (first | refine blk_drewN ?_ _ | refine blk_drew ?_ | refine blk_alloc ?_ _)); exact BK212.out⟩, ⟨pb HB⟩⟩
      ·
       rw [if_neg c8] at H
       have c8b0 : decide (0 ≤ x6_2) = false := decide_eq_false c8
       clear c8
       by_cases c13 : x213001_1.length < 17592186044416
       ·
        rw [if_pos c13] at H
        have LMc13 := Aside0.mk c13
        clear c13
        obtain ⟨y215, hy215⟩ : ∃ y_ : List Int, y_ = (x213001_1 ++ [x5_2]) := ⟨_, rfl⟩
        replace H : (downpourref01_From.l0 k2 l0 (wrap64 (x4_1 + 1)) (l0.length : Int) y215) = some (r1, r2) := by first | (rw [hy215]; with_reducible exact H) | (have H2_ := (Option.bind_some _ _).symm.trans H; rw [hy215]; with_reducible exact H2_) | (have H2_ := (Option.bind_some _ _).symm.trans H; with_reducible exact H2_) | with_reducible exact H | (rw [hy215]; exact H) | exact H
        have Ny215 := Aside0.mk hy215
        clear hy215
        have H' := Aside0.mk H
        clear H
        have hnb14 := NB212_211.out
        have hnc14 := NB211_212.out
        have hcz15_0 : wr.cell? ⟨gb212, 0, none⟩ = some (.int .i64 (l0.length : Int)) := (blk_cell BK212.out 0).trans rfl
        have hcz15_1 : wr.cell? ⟨gb212, 1, none⟩ = some (u213001) := (blk_cell BK212.out 1).trans rfl
        have hfz15_0 := blk_frozen BK212.out 0
        have hfz15_1 := blk_frozen BK212.out 1
        go_wp2_with (first | ((with_reducible refine gate_builtin (b := .append) (xs := #[.tmp 43, .tmp 45]) rfl ?_); at_builtin; refine Kd.R_append (Kd.int .u64) (w0 := w) w.heap.size rfl (.tmp 43) (.tmp 45) 38 48 (.int .u64 0) 8 rfl Try.underlying38 info48 rfl (by decide) (by omega) u213001 x213001_1 x5_2 [.int .u64 x5_2] (fun _ => True) (fun _ => False) rfl rfl ?aP (fun _ hk => hk.elim) ?aF ?aO ?aB ?aS ?aL ?_; (case aP => exact rfl); (case aB => exact (pb HB)); (case aF => exact (fun _ _ => trivial)); (case aO => exact (pr HO_213001)); (case aS => exact (below_size (pb HB))); (case aL => have := LMc13.out; omega); intro v216 w16 ho hb hg hat; rw [← Ny215.out] at ho; have n0_ := am (blk_grown (g := gb211) (o := .cells #[.int .i64 0, .slice none 0 0] 40 (0, 0)) (pk BK211) hg (Kd.R_ne HO_213001.out BK211.out (by decide))); have n1_ := am (blk_grown (g := gb212) (o := .cells #[.int .i64 (l0.length : Int), u213001] 40 (0, 0)) (pk BK212) hg (Kd.R_ne HO_213001.out BK212.out (by decide))); have n2_ := am (hb); have n3_ := am (ho); clear BK211 BK212 HB HO_213001; have BK211 := n0_; have BK212 := n1_; have HB := n2_; have HO217 := n3_; clear n0_ n1_ n2_ n3_ ho hb hg hat; obtain ⟨Ao17, co17, eo17⟩ := Kd.R_slice HO217.out; subst eo17; have hcz18_0 : w16.cell? ⟨gb212, 0, none⟩ = some (.int .i64 (l0.length : Int)) := (blk_cell BK212.out 0).trans rfl; have hcz18_1 : w16.cell? ⟨gb212, 1, none⟩ = some (u213001) := (blk_cell BK212.out 1).trans rfl; have hfz18_0 := blk_frozen BK212.out 0; have hfz18_1 := blk_frozen BK212.out 1))
        go_roundg k2
        case measure => have := HK1.out; have := HK2.out; omega
        case rel => exact ⟨(wrap64 (x4_1 + 1)), (y215), (.slice Ao17 y215.length co17), (by first | rfl | (simp; done) | (simp [*]; done)), H', ⟨by have := HK1.out; have := HK2.out; omega⟩, ⟨by (with_reducible repeat (first | apply Kd.R_alloc | apply Kd.R_drewN | apply Kd.R_drew)); exact Kd.R_mono (Kd.R_far (p := ⟨gb212, 1, none⟩) (Kd.R_types HO217.out BK212.out (by decide)) (fun _ hk => hk.2) (.slice Ao17 y215.length co17)) (fun _ hk => trivial)⟩, ⟨by (with_reducible repeat (first | refine blk_drewN ?_ _ | refine blk_drew ?_ | refine blk_alloc ?_ _)); refine blk_far ?_ NB211_212.out _; (with_reducible repeat (first | refine blk_drewN ?_ _ | refine blk_drew ?_ | refine blk_alloc ?_ _)); exact BK211.out⟩, ⟨by (with_reducible repeat (first | refine blk_drewN ?_ _ | refine blk_drew ?_ | refine blk_alloc ?_ _)); refine blk_put (cs := #[.int .i64 (l0.length : Int), u213001]) ?_ 1 _ rfl; (with_reducible repeat (first | refine blk_drewN ?_ _ | refine blk_drew ?_ | refine blk_alloc ?_ _)); exact BK212.out⟩, ⟨pb HB⟩⟩
       ·
        rw [if_neg c13] at H
        exact absurd H (by simp)
   ·
    rw [if_neg c7] at H
    have c7b0 : decide (x4_1 < t213) = false := decide_eq_false c7
    clear c7
    simp only [Option.some.injEq, Prod.mk.injEq] at H
    obtain ⟨rfl, rfl⟩ := H
    go_wp2_with (first | ((with_reducible refine gate_callee (f := 38) rfl ?_); refine goesL_ (some 13) rfl rfl Try.func38 (by kernel_rfl) rfl #[.int .i64 (l0.length : Int)] rfl (by (try simp only [List.map_toArray, List.map_cons, List.map_nil]); first | done | rfl | (simp only [List.length_drop, List.length_take]; rfl)) ?_; (with_reducible refine (downpourref01_words.calls (l0.length : Int) t213 _ A6.out).mono ?_); rintro e w' ⟨rfl, ⟨nd, rfl⟩⟩; refine ⟨_, rfl, ?_⟩; (try (rw [drewN_self wr]; generalize hq_ : World.drewN wr _ = wr; have n0_ : Aside0 (Kd.R (Kd.int .u64) 48 wr w.heap.size (fun _ => True) u213001 x213001_1) := ⟨by rw [← hq_]; exact (pr HO_213001)⟩; have n1_ : Aside0 (wr.heap[gb211]? = some (.cells #[.int .i64 0, .slice none 0 0] 40 (0, 0))) := ⟨by rw [← hq_]; exact (pk BK211)⟩; have n2_ : Aside0 (wr.heap[gb212]? = some (.cells #[.int .i64 (l0.length : Int), u213001] 40 (0, 0))) := ⟨by rw [← hq_]; exact (pk BK212)⟩; have n3_ : Aside0 (Below w.heap.size w wr) := ⟨by rw [← hq_]; exact (pb HB)⟩; clear HO_213001 BK211 BK212 HB hq_; have HO_213001 := n0_; have BK211 := n1_; have BK212 := n2_; have HB := n3_; clear n0_ n1_ n2_ n3_)); have hnb19 := NB212_211.out; have hnc19 := NB211_212.out; have hcz20_0 : wr.cell? ⟨gb212, 0, none⟩ = some (.int .i64 (l0.length : Int)) := (blk_cell BK212.out 0).trans rfl; have hcz20_1 : wr.cell? ⟨gb212, 1, none⟩ = some (u213001) := (blk_cell BK212.out 1).trans rfl; have hfz20_0 := blk_frozen BK212.out 0; have hfz20_1 := blk_frozen BK212.out 1; have hcz21_0 : wr.cell? ⟨gb211, 0, none⟩ = some (.int .i64 0) := (blk_cell BK211.out 0).trans rfl; have hcz21_1 : wr.cell? ⟨gb211, 1, none⟩ = some (.slice none 0 0) := (blk_cell BK211.out 1).trans rfl; have hfz21_0 := blk_frozen BK211.out 0; have hfz21_1 := blk_frozen BK211.out 1; obtain ⟨Ao22, co22, eo22⟩ := Kd.R_slice HO_213001.out; subst eo22))
    refine bodyPost_ret (results_cell_row rfl _ _ gb211 40 #[.int .i64 (l0.length : Int), .slice Ao22 x213001_1.length co22] (0, 0) _ rfl (by (with_reducible repeat (first | refine blk_drewN ?_ _ | refine blk_drew ?_ | refine blk_alloc ?_ _)); refine blk_put (cs := #[.int .i64 (l0.length : Int), .slice none 0 0]) ?_ 1 _ rfl; (with_reducible repeat (first | refine blk_drewN ?_ _ | refine blk_drew ?_ | refine blk_alloc ?_ _)); refine blk_put (cs := #[.int .i64 0, .slice none 0 0]) ?_ 0 _ rfl; (with_reducible repeat (first | refine blk_drewN ?_ _ | refine blk_drew ?_ | refine blk_alloc ?_ _)); exact BK211.out) Try.underlying40 rfl (by kernel_rfl)) rfl ?_
    exact ⟨_, by first | rfl | (simp [errW_none, errW_some] <;> rfl) | (simp [*, errW_none, errW_some] <;> rfl), by (with_reducible repeat (first | apply Kd.R_alloc | apply Kd.R_drewN | apply Kd.R_drew)); exact Kd.R_mono (Kd.R_far (p := ⟨gb211, 1, none⟩) (Kd.R_far (p := ⟨gb211, 0, none⟩) (Kd.R_types HO_213001.out BK211.out (by decide)) (fun _ hk => hk.2) (.int .i64 (l0.length : Int))) (fun _ hk => hk.2) (.slice Ao22 x213001_1.length co22)) (fun _ hk => trivial), pb HB⟩

/-! ### downpourref01_Xor: function 50 -/
def downpourref01_Xor.l0 : Nat → List Int → Int → Int → List Int → Int → List Int → Option (Int × List Int)
 | 0, _, _, _, _, _, _ => none
 | k + 1, x5, x6, x219000, x219001, x220000, x220001 => if x6 < x219000 then ((downpourref01_Bit.f x219000 x219001 x6).bind fun t224 => ((downpourref01_Bit.f x220000 x220001 x6).bind fun t225 => (if x5.length < 17592186044416 then (downpourref01_Xor.l0 k (x5 ++ [Int.tmod (wrap64 (t224 + t225)) 2]) (wrap64 (x6 + 1)) x219000 x219001 x220000 x220001) else (none)))) else ((downpourref01_From.f k x5).bind fun bt229 => (some (bt229.1, bt229.2)))
def downpourref01_Xor.f (k : Nat) (a0_0 : Int) (l0_1 : List Int) (a1_0 : Int) (l1_1 : List Int) : Option (Int × List Int) := downpourref01_Xor.l0 k (([] : List Int)) 0 a0_0 l0_1 a1_0 l1_1
theorem downpourref01_Xor.mono_l : ∀ k, (∀ y0 y1 y2 y3 y4 y5, LeO (downpourref01_Xor.l0 k y0 y1 y2 y3 y4 y5) (downpourref01_Xor.l0 (k + 1) y0 y1 y2 y3 y4 y5))
 | 0 => fun _ _ _ _ _ _ r h => by simp [downpourref01_Xor.l0] at h
 | k + 1 => by
  have ih0 := downpourref01_Xor.mono_l k
  ·
   intro y0 y1 y2 y3 y4 y5
   unfold downpourref01_Xor.l0
   repeat' first
   | (with_reducible exact ih0 _ _ _ _ _ _)
   | (with_reducible exact downpourref01_From.mono _ _)
   | (with_reducible exact LeO.refl _)
   | (with_reducible exact LeO.none _)
   | (with_reducible refine LeO.ite ?_ ?_)
   | (with_reducible refine LeO.bind ?_ (fun _ => ?_))
   | exact ih0 _ _ _ _ _ _
   | exact downpourref01_From.mono _ _
   | exact LeO.none _
   | refine LeO.ite ?_ ?_
   | refine LeO.bind ?_ (fun _ => ?_)
theorem downpourref01_Xor.mono : ∀ a0 a1 a2 a3 k, LeO (downpourref01_Xor.f k a0 a1 a2 a3) (downpourref01_Xor.f (k + 1) a0 a1 a2 a3) := by
 intro a0 a1 a2 a3 k
 have ih0 := downpourref01_Xor.mono_l k
 unfold downpourref01_Xor.f
 repeat' first
   | (with_reducible exact ih0 _ _ _ _ _ _)
   | (with_reducible exact downpourref01_From.mono _ _)
   | (with_reducible exact LeO.refl _)
   | (with_reducible exact LeO.none _)
   | (with_reducible refine LeO.ite ?_ ?_)
   | (with_reducible refine LeO.bind ?_ (fun _ => ?_))
   | exact ih0 _ _ _ _ _ _
   | exact downpourref01_From.mono _ _
   | exact LeO.none _
   | refine LeO.ite ?_ ?_
   | refine LeO.bind ?_ (fun _ => ?_)
def downpourref01_Xor.T5 : Bool × List (List Nat × List Nat) := (true, [([], []), ([], []), ([], []), ([1, 2], [1, 2]), ([], []), ([], []), ([4, 5, 3], [4, 5]), ([3, 6], [3, 6]), ([7], [7]), ([8], [8]), ([0, 9, 6], [0, 9]), ([10, 10, 0, 1, 2, 3, 4, 5, 6, 7, 8, 9, 10], [0, 10])])
def downpourref01_Xor.B5 : List Nat := [0, 0, 0, 6, 0, 0, 62, 126, 254, 510, 1023, 2047]
theorem downpourref01_Xor.tab5 : rtab .any (opsOf Try.f50 5) = downpourref01_Xor.T5 := by kernel_rfl
theorem downpourref01_Xor.bits5 : waitsOk downpourref01_Xor.T5.2 downpourref01_Xor.B5 = true := by kernel_rfl
set_option maxHeartbeats 8000000 in
set_option maxRecDepth 100000 in
theorem downpourref01_Xor.calls (k : Nat) (a0_0 : Int) (A0_1 : Option Addr) (c0_1 : Nat) (l0_1 : List Int) (a1_0 : Int) (A1_1 : Option Addr) (c1_1 : Nat) (l1_1 : List Int) (r1 : Int) (r2 : List Int) (w : World) (hr0_1 : Kd.C (Kd.int .u64) w A0_1 l0_1.length l0_1) (hc0_1 : l0_1.length ≤ c0_1) (hr1_1 : Kd.C (Kd.int .u64) w A1_1 l1_1.length l1_1) (hc1_1 : l1_1.length ≤ c1_1) (h : downpourref01_Xor.f k a0_0 l0_1 a1_0 l1_1 = some (r1, r2)) :
  Calls Try.prog 50 #[.agg #[.int .i64 a0_0, .slice A0_1 l0_1.length c0_1], .agg #[.int .i64 a1_0, .slice A1_1 l1_1.length c1_1]] w fun e w' => ∃ v1_ : Value, e = .returned (.agg #[.int .i64 r1, v1_]) ∧ Kd.R (Kd.int .u64) 48 w' w.heap.size (fun _ => True) v1_ r2 ∧ Below w.heap.size w w' := by
 have hu40 := Try.underlying40
 have HR0_1 := Aside0.mk hr0_1
 have HC0_1 := Aside0.mk hc0_1
 clear hr0_1 hc0_1
 have HR1_1 := Aside0.mk hr1_1
 have HC1_1 := Aside0.mk hc1_1
 clear hr1_1 hc1_1
 have HB := am (Below.refl w.heap.size w)
 have H : (downpourref01_Xor.l0 k (([] : List Int)) 0 a0_0 l0_1 a1_0 l1_1) = some (r1, r2) := h
 clear h
 obtain ⟨y221, hy221⟩ : ∃ y_ : List Int, y_ = (([] : List Int)) := ⟨_, rfl⟩
 replace H : (downpourref01_Xor.l0 k y221 0 a0_0 l0_1 a1_0 l1_1) = some (r1, r2) := by first | (rw [hy221]; with_reducible exact H) | (have H2_ := (Option.bind_some _ _).symm.trans H; rw [hy221]; with_reducible exact H2_) | (have H2_ := (Option.bind_some _ _).symm.trans H; with_reducible exact H2_) | with_reducible exact H | (rw [hy221]; exact H) | exact H
 have Ny221 := Aside0.mk hy221
 clear hy221
 have H' := Aside0.mk H
 clear H
 go_enter Try.func50, Try.ntmps50
 go_wp2_with (first | ((with_reducible refine gate_dst (N := 2) rfl ?_); refine box_event ?hg (N := 2) ?hd (cs := #[.int .i64 a0_0, .slice A0_1 l0_1.length c0_1]) (t := 40) ?hr ?_; (case hd => rfl); (case hg => rfl); (case hr => first | (go_simp; done) | (go_simp; rfl)); intro gb218 hg w3 hbox hb; have n0_ := am (below_step (pb HB) hb); have n1_ := am (hbox); have n2_ := am ((by rw [hg]; exact (below_size (pb HB)) : w.heap.size ≤ gb218)); have n3_ := am ((by rw [hg]; exact (below_size (pb HB)) : w.heap.size ≤ gb218)); clear HB; have HB := n0_; have BK218 := n1_; have GW218 := n2_; have GE218 := n3_; clear n0_ n1_ n2_ n3_ hb hbox hg) | ((with_reducible refine gate_dst (N := 3) rfl ?_); refine box_event ?hg (N := 3) ?hd (cs := #[.int .i64 a1_0, .slice A1_1 l1_1.length c1_1]) (t := 40) ?hr ?_; (case hd => rfl); (case hg => rfl); (case hr => first | (go_simp; done) | (go_simp; rfl)); intro gb219 hg w4 hbox hb; have n0_ := bb BK218 hb; have n1_ := am (below_step (pb HB) hb); have n2_ := am (hbox); have n3_ := am ((by rw [hg]; exact (below_size (pb HB)) : w.heap.size ≤ gb219)); have n4_ := am ((by rw [hg]; exact (below_size (pb HB)) : w.heap.size ≤ gb219)); have n5_ := am ((by rw [hg]; exact Nat.ne_of_lt (bl BK218) : gb218 ≠ gb219)); have n6_ := am ((by rw [hg]; exact Nat.ne_of_gt (bl BK218) : gb219 ≠ gb218)); clear BK218 HB; have BK218 := n0_; have HB := n1_; have BK219 := n2_; have GW219 := n3_; have GE219 := n4_; have NB218_219 := n5_; have NB219_218 := n6_; clear n0_ n1_ n2_ n3_ n4_ n5_ n6_ hb hbox hg) | ((with_reducible refine gate_dst (N := 4) rfl ?_); refine box_event ?hg (N := 4) ?hd (cs := #[.int .i64 0, .slice none 0 0]) (t := 40) ?hr ?_; (case hd => rfl); (case hg => rfl); (case hr => first | (go_simp; done) | (go_simp; rfl)); intro gb220 hg w5 hbox hb; have n0_ := bb BK218 hb; have n1_ := bb BK219 hb; have n2_ := am (below_step (pb HB) hb); have n3_ := am (hbox); have n4_ := am ((by rw [hg]; exact (below_size (pb HB)) : w.heap.size ≤ gb220)); have n5_ := am ((by rw [hg]; exact (below_size (pb HB)) : w.heap.size ≤ gb220)); have n6_ := am ((by rw [hg]; exact Nat.ne_of_lt (bl BK218) : gb218 ≠ gb220)); have n7_ := am ((by rw [hg]; exact Nat.ne_of_gt (bl BK218) : gb220 ≠ gb218)); have n8_ := am ((by rw [hg]; exact Nat.ne_of_lt (bl BK219) : gb219 ≠ gb220)); have n9_ := am ((by rw [hg]; exact Nat.ne_of_gt (bl BK219) : gb220 ≠ gb219)); clear BK218 BK219 HB; have BK218 := n0_; have BK219 := n1_; have HB := n2_; have BK220 := n3_; have GW220 := n4_; have GE220 := n5_; have NB218_220 := n6_; have NB220_218 := n7_; have NB219_220 := n8_; have NB220_219 := n9_; clear n0_ n1_ n2_ n3_ n4_ n5_ n6_ n7_ n8_ n9_ hb hbox hg) | ((with_reducible refine gate_dst (N := 7) rfl ?_); refine Kd.R_lit (Kd.int .i64) _ 3 ?hg (N := 7) ?hd (xs := ([] : List Int)) (inner := []) (ok := fun _ => True) (okp := fun _ => True) ?hr ?hp (fun _ hk => hk) trivial (Below.refl _ _) (Nat.le_refl _) (by simp) ?_; (case hd => rfl); (case hg => rfl); (case hr => first | (go_simp; done) | (go_simp; rfl)); (case hp => exact (Reps.none _ _)); intro v222 w6 ho7 hb hg_ hnew_; clear hg_ hnew_; (first | rw [← Ny221.out] at ho7 | (simp only [Int.reduceToNat] at ho7; rw [← Ny221.out] at ho7)); have n0_ := am (Kd.R_lower ho7 (below_size (pb HB))); have n1_ := bb BK218 hb; have n2_ := bb BK219 hb; have n3_ := bb BK220 hb; have n4_ := am (below_step (pb HB) hb); clear BK218 BK219 BK220 HB; have HO223 := n0_; have BK218 := n1_; have BK219 := n2_; have BK220 := n3_; have HB := n4_; clear n0_ n1_ n2_ n3_ n4_ hb ho7))
 go_loopg [5, 6] k (fun kq v5 v6 w' => ∃ (x5_1 : List Int) (x6_1 : Int), v6 = .int .i64 x6_1 ∧ Aside0 (downpourref01_Xor.l0 kq x5_1 x6_1 a0_0 l0_1 a1_0 l1_1 = some (r1, r2)) ∧ Aside0 (kq ≤ k) ∧ Aside0 (Kd.R (Kd.int .i64) 3 w' w.heap.size (fun _ => True) v5 x5_1) ∧ Aside0 (w'.heap[gb218]? = some (.cells #[.int .i64 a0_0, (.slice A0_1 l0_1.length c0_1)] 40 (0, 0))) ∧ Aside0 (w'.heap[gb219]? = some (.cells #[.int .i64 a1_0, (.slice A1_1 l1_1.length c1_1)] 40 (0, 0))) ∧ Aside0 (w'.heap[gb220]? = some (.cells #[.int .i64 0, (.slice none 0 0)] 40 (0, 0))) ∧ Aside0 (Below w.heap.size w w'))
 case atStart => exact ⟨(y221), (0), (by first | rfl | (simp; done) | (simp [*]; done)), H', ⟨Nat.le_refl _⟩, ⟨by (with_reducible repeat (first | apply Kd.R_alloc | apply Kd.R_drewN | apply Kd.R_drew)); exact HO223.out⟩, ⟨by (with_reducible repeat (first | refine blk_drewN ?_ _ | refine blk_drew ?_ | refine blk_alloc ?_ _)); exact BK218.out⟩, ⟨by (with_reducible repeat (first | refine blk_drewN ?_ _ | refine blk_drew ?_ | refine blk_alloc ?_ _)); exact BK219.out⟩, ⟨by (with_reducible repeat (first | refine blk_drewN ?_ _ | refine blk_drew ?_ | refine blk_alloc ?_ _)); exact BK220.out⟩, ⟨pb HB⟩⟩
 case round =>
  clear H'
  try clear c1
  try clear p2
  try clear c5
  obtain ⟨x5_1, x6_1, rfl, HA, HK1, HO_5, BK218, BK219, BK220, HB⟩ := hrel
  cases gk with
  | zero => exact absurd HA.out (by simp [downpourref01_Xor.l0])
  | succ k1 =>
   have H := HA.out
   clear HA
   simp only [downpourref01_Xor.l0] at H
   by_cases c8 : x6_1 < a0_0
   ·
    rw [if_pos c8] at H
    have c8b0 : decide (x6_1 < a0_0) = true := decide_eq_true c8
    clear c8
    replace H := Option.bind_eq_some_iff.mp H
    obtain ⟨t224, A90, H⟩ := H
    replace H : ((downpourref01_Bit.f a1_0 l1_1 x6_1).bind fun t225 => (if x5_1.length < 17592186044416 then (downpourref01_Xor.l0 k1 (x5_1 ++ [Int.tmod (wrap64 (t224 + t225)) 2]) (wrap64 (x6_1 + 1)) a0_0 l0_1 a1_0 l1_1) else (none))) = some (r1, r2) := H
    have A9 := Aside0.mk A90
    clear A90
    replace H := Option.bind_eq_some_iff.mp H
    obtain ⟨t225, A100, H⟩ := H
    replace H : (if x5_1.length < 17592186044416 then (downpourref01_Xor.l0 k1 (x5_1 ++ [Int.tmod (wrap64 (t224 + t225)) 2]) (wrap64 (x6_1 + 1)) a0_0 l0_1 a1_0 l1_1) else (none)) = some (r1, r2) := H
    have A10 := Aside0.mk A100
    clear A100
    by_cases c11 : x5_1.length < 17592186044416
    ·
     rw [if_pos c11] at H
     have LMc11 := Aside0.mk c11
     clear c11
     obtain ⟨y226, hy226⟩ : ∃ y_ : List Int, y_ = (x5_1 ++ [Int.tmod (wrap64 (t224 + t225)) 2]) := ⟨_, rfl⟩
     replace H : (downpourref01_Xor.l0 k1 y226 (wrap64 (x6_1 + 1)) a0_0 l0_1 a1_0 l1_1) = some (r1, r2) := by first | (rw [hy226]; with_reducible exact H) | (have H2_ := (Option.bind_some _ _).symm.trans H; rw [hy226]; with_reducible exact H2_) | (have H2_ := (Option.bind_some _ _).symm.trans H; with_reducible exact H2_) | with_reducible exact H | (rw [hy226]; exact H) | exact H
     have Ny226 := Aside0.mk hy226
     clear hy226
     have H' := Aside0.mk H
     clear H
     have hnb12 := NB218_219.out
     have hnc12 := NB219_218.out
     have hnb13 := NB218_220.out
     have hnc13 := NB220_218.out
     have hcz14_0 : wr.cell? ⟨gb218, 0, none⟩ = some (.int .i64 a0_0) := (blk_cell BK218.out 0).trans rfl
     have hcz14_1 : wr.cell? ⟨gb218, 1, none⟩ = some (.slice A0_1 l0_1.length c0_1) := (blk_cell BK218.out 1).trans rfl
     have hfz14_0 := blk_frozen BK218.out 0
     have hfz14_1 := blk_frozen BK218.out 1
     try go_wp2
     have n0_ := am (Kd.R_drew HO_5.out)
     have n1_ := am (blk_drew BK218.out)
     have n2_ := am (blk_drew BK219.out)
     have n3_ := am (blk_drew BK220.out)
     have n4_ := am (below_drew1 HB.out)
     clear HO_5
     clear BK218
     clear BK219
     clear BK220
     clear HB
     have HO_5 := n0_
     have BK218 := n1_
     have BK219 := n2_
     have BK220 := n3_
     have HB := n4_
     clear n0_ n1_ n2_ n3_ n4_
     refine start_ (n := 12) (S := fun w' => w'.cell? ⟨gb218, 0, none⟩ = some (.int .i64 a0_0) ∧ w'.cell? ⟨gb218, 1, none⟩ = some (.slice A0_1 l0_1.length c0_1) ∧ w'.cell? ⟨gb219, 0, none⟩ = some (.int .i64 a1_0) ∧ w'.cell? ⟨gb219, 1, none⟩ = some (.slice A1_1 l1_1.length c1_1)) (ds := []) #[F, F, F, F, F, F, F, F, F, F, F, F] (by kernel_rfl) rfl rfl ⟨(blk_cell BK218.out 0).trans rfl, (blk_cell BK218.out 1).trans rfl, (blk_cell BK219.out 0).trans rfl, (blk_cell BK219.out 1).trans rfl⟩ (fun hHeld => ?_); refine with_tabW downpourref01_Xor.tab5 downpourref01_Xor.bits5 (fun HT_ HW_ => ?_)
     generalize wr.drew = w15 at HO_5 BK218 BK219 BK220 HB hHeld ⊢
     refine pure_ (i := 0) (N := some 14) (v := ?_) (a' := ?_) #[T, F, F, F, F, F, F, F, F, F, F, F] rfl rfl (any_of HT_.out (by kernel_rfl)) (fun _ _ _ h => h) (Or.inl ⟨by rfl, ?_⟩) ?_ ?_
     rotate_left
     ·
      intro w'
      go_simp
      with_reducible rfl
     rotate_left
     ·
      simp only [Act.put, q1, q2, q3, i64_w, i32_w]
      rfl
     refine pure_ (i := 2) (N := some 16) (v := ?_) (a' := ?_) #[T, F, T, F, F, F, F, F, F, F, F, F] rfl rfl (any_of HT_.out (by kernel_rfl)) (fun _ _ _ h => h) (Or.inl ⟨by rfl, ?_⟩) ?_ ?_
     rotate_left
     ·
      intro w'
      go_simp
      with_reducible rfl
     rotate_left
     ·
      simp only [Act.put, q1, q2, q3, i64_w, i32_w]
      rfl
     refine pure_ (i := 5) (N := some 19) (v := ?_) (a' := ?_) #[T, F, T, F, F, T, F, F, F, F, F, F] rfl rfl (any_of HT_.out (by kernel_rfl)) (fun _ _ _ h => h) (Or.inl ⟨by rfl, ?_⟩) ?_ ?_
     rotate_left
     ·
      intro w'
      go_simp
      with_reducible rfl
     rotate_left
     ·
      simp only [Act.put, q1, q2, q3, i64_w, i32_w]
      rfl
     refine take_ (i := 1) (N := some 15) (v := ?_) (a' := ?_) #[T, T, T, F, F, T, F, F, F, F, F, F] rfl rfl (take_ofW HT_.out HW_.out (by kernel_rfl)) (fun _ _ _ h => h) (Or.inl ⟨by rfl, ?_⟩) hHeld ?_ ?_
     rotate_left
     ·
      rintro w' ⟨s0, s1, s2, s3⟩
      go_simp
      with_reducible rfl
     rotate_left
     ·
      simp only [Act.put, q1, q2, q3, i64_w, i32_w]
      rfl
     refine take_ (i := 4) (N := some 18) (v := ?_) (a' := ?_) #[T, T, T, F, T, T, F, F, F, F, F, F] rfl rfl (take_ofW HT_.out HW_.out (by kernel_rfl)) (fun _ _ _ h => h) (Or.inl ⟨by rfl, ?_⟩) hHeld ?_ ?_
     rotate_left
     ·
      rintro w' ⟨s0, s1, s2, s3⟩
      go_simp
      with_reducible rfl
     rotate_left
     ·
      simp only [Act.put, q1, q2, q3, i64_w, i32_w]
      rfl
     refine one_ (i := 3) (N := some 17) #[T, T, T, T, T, T, F, F, F, F, F, F] rfl rfl (one_of HT_.out (by kernel_rfl)) (by decide) (fun K hK => ?_)
     refine goes_ Try.func39 (by kernel_rfl) rfl #[.agg #[.int .i64 a0_0, .slice A0_1 l0_1.length c0_1], .int .i64 x6_1] (by rfl) rfl rfl (by (try simp only [List.map_toArray, List.map_cons, List.map_nil]); first | done | rfl | (simp only [List.length_drop, List.length_take]; rfl)) ?_
     with_reducible refine (downpourref01_Bit.calls a0_0 _ _ l0_1 x6_1 t224 _ ?side1 ?side2 A9.out).mono ?_
     (case side1 => repeat (first | exact (Kd.C_below HR0_1.out HB.out) | (with_reducible refine Kd.C_alloc ?_ _) | (with_reducible refine Kd.C_drewN ?_ _) | (with_reducible refine Kd.C_drew ?_)))
     (case side2 => exact HC0_1.out)
     rintro e w16 ⟨rfl, hb⟩
     refine ⟨_, rfl, ?_⟩
     have n0_ := am (Kd.R_below (pr HO_5) hb)
     have n1_ := bb BK218 hb
     have n2_ := bb BK219 hb
     have n3_ := bb BK220 hb
     have n4_ := am (below_step (pb HB) hb)
     clear HO_5
     clear BK218
     clear BK219
     clear BK220
     clear HB
     have HO_5 := n0_
     have BK218 := n1_
     have BK219 := n2_
     have BK220 := n3_
     have HB := n4_
     clear n0_ n1_ n2_ n3_ n4_
     (try clear hb)
     (try clear hb2)
     (try clear hk)
     (try clear hi)
     refine hK.out _ _ ⟨(blk_cell BK218.out 0).trans rfl, (blk_cell BK218.out 1).trans rfl, (blk_cell BK219.out 0).trans rfl, (blk_cell BK219.out 1).trans rfl⟩ (fun hHeld => ?_)
     clear hK K
     refine norm_ (a' := ?_) ?_ ?_
     rotate_left
     ·
      show Act.put _ (some 17) _ = _
      simp only [Act.put, q1, q2, q3, i64_w, i32_w]
      rfl
     refine one_ (i := 6) (N := some 20) #[T, T, T, T, T, T, T, F, F, F, F, F] rfl rfl (one_of HT_.out (by kernel_rfl)) (by decide) (fun K hK => ?_)
     refine goes_ Try.func39 (by kernel_rfl) rfl #[.agg #[.int .i64 a1_0, .slice A1_1 l1_1.length c1_1], .int .i64 x6_1] (by rfl) rfl rfl (by (try simp only [List.map_toArray, List.map_cons, List.map_nil]); first | done | rfl | (simp only [List.length_drop, List.length_take]; rfl)) ?_
     with_reducible refine (downpourref01_Bit.calls a1_0 _ _ l1_1 x6_1 t225 _ ?side1 ?side2 A10.out).mono ?_
     (case side1 => repeat (first | exact (Kd.C_below HR1_1.out HB.out) | (with_reducible refine Kd.C_alloc ?_ _) | (with_reducible refine Kd.C_drewN ?_ _) | (with_reducible refine Kd.C_drew ?_)))
     (case side2 => exact HC1_1.out)
     rintro e w17 ⟨rfl, hb⟩
     refine ⟨_, rfl, ?_⟩
     have n0_ := am (Kd.R_below (pr HO_5) hb)
     have n1_ := bb BK218 hb
     have n2_ := bb BK219 hb
     have n3_ := bb BK220 hb
     have n4_ := am (below_step (pb HB) hb)
     clear HO_5
     clear BK218
     clear BK219
     clear BK220
     clear HB
     have HO_5 := n0_
     have BK218 := n1_
     have BK219 := n2_
     have BK220 := n3_
     have HB := n4_
     clear n0_ n1_ n2_ n3_ n4_
     (try clear hb)
     (try clear hb2)
     (try clear hk)
     (try clear hi)
     refine hK.out _ _ ⟨(blk_cell BK218.out 0).trans rfl, (blk_cell BK218.out 1).trans rfl, (blk_cell BK219.out 0).trans rfl, (blk_cell BK219.out 1).trans rfl⟩ (fun hHeld => ?_)
     clear hK K
     refine norm_ (a' := ?_) ?_ ?_
     rotate_left
     ·
      show Act.put _ (some 20) _ = _
      simp only [Act.put, q1, q2, q3, i64_w, i32_w]
      rfl
     refine pure_ (i := 7) (N := some 21) (v := ?_) (a' := ?_) #[T, T, T, T, T, T, T, T, F, F, F, F] rfl rfl (any_of HT_.out (by kernel_rfl)) (fun _ _ _ h => h) (Or.inl ⟨by rfl, ?_⟩) ?_ ?_
     rotate_left
     ·
      intro w'
      go_simp
      with_reducible rfl
     rotate_left
     ·
      simp only [Act.put, q1, q2, q3, i64_w, i32_w]
      rfl
     refine pure_ (i := 8) (N := some 22) (v := ?_) (a' := ?_) #[T, T, T, T, T, T, T, T, T, F, F, F] rfl rfl (any_of HT_.out (by kernel_rfl)) (fun _ _ _ h => h) (Or.inl ⟨by rfl, ?_⟩) ?_ ?_
     rotate_left
     ·
      intro w'
      go_simp
      with_reducible rfl
     rotate_left
     ·
      simp only [Act.put, q1, q2, q3, i64_w, i32_w]
      rfl
     refine one_ (i := 9) (N := some 23) #[T, T, T, T, T, T, T, T, T, T, F, F] rfl rfl (one_of HT_.out (by kernel_rfl)) (by decide) (fun K hK => ?_)
     refine value_ (w1 := ?_) (v := ?_) (by rfl) rfl ?_ ?_
     rotate_left 2
     ·
      go_simp
      constructor
      ·
       rfl
      ·
       rfl
     refine hK.out _ _ ⟨(blk_cell (blk_alloc BK218.out _) 0).trans rfl, (blk_cell (blk_alloc BK218.out _) 1).trans rfl, (blk_cell (blk_alloc BK219.out _) 0).trans rfl, (blk_cell (blk_alloc BK219.out _) 1).trans rfl⟩ (fun hHeld => ?_)
     clear hK K
     refine norm_ (a' := ?_) ?_ ?_
     rotate_left
     ·
      show Act.put _ (some 23) _ = _
      simp only [Act.put, q1, q2, q3, i64_w, i32_w]
      rfl
     refine one_ (i := 10) (N := some 24) #[T, T, T, T, T, T, T, T, T, T, T, F] rfl rfl (one_of HT_.out (by kernel_rfl)) (by decide) (fun K hK => ?_)
     refine Kd.R_append_step (Kd.int .i64) (w0 := w) w.heap.size (by rfl) (.tmp 14) (.tmp 23) 26 3 (.int .i64 0) 8 rfl Try.underlying26 info3 rfl (by decide) (by omega) u5 x5_1 (Int.tmod (wrap64 (t224 + t225)) 2) [.int .i64 (Int.tmod (wrap64 (t224 + t225)) 2)] (fun _ => True) (fun _ => False) rfl rfl ?aP (fun _ hk => hk.elim) ?aF ?aO ?aB ?aS ?aL ?_
     (case aP => exact rfl)
     (case aB => exact (pb HB))
     (case aF => exact (fun _ _ => trivial))
     (case aO => exact (pr HO_5))
     (case aS => exact (below_size (pb HB)))
     (case aL => have := LMc11.out; omega)
     intro v227 w18 ho hb hg hat
     rw [← Ny226.out] at ho
     have n0_ := am (blk_grown (g := gb218) (o := .cells #[.int .i64 a0_0, .slice A0_1 l0_1.length c0_1] 40 (0, 0)) (pk BK218) hg (Kd.R_ne HO_5.out BK218.out (by decide)))
     have n1_ := am (blk_grown (g := gb219) (o := .cells #[.int .i64 a1_0, .slice A1_1 l1_1.length c1_1] 40 (0, 0)) (pk BK219) hg (Kd.R_ne HO_5.out BK219.out (by decide)))
     have n2_ := am (blk_grown (g := gb220) (o := .cells #[.int .i64 0, .slice none 0 0] 40 (0, 0)) (pk BK220) hg (Kd.R_ne HO_5.out BK220.out (by decide)))
     have n3_ := am (hb)
     have n4_ := am (ho)
     clear BK218
     clear BK219
     clear BK220
     clear HB
     clear HO_5
     have BK218 := n0_
     have BK219 := n1_
     have BK220 := n2_
     have HB := n3_
     have HO228 := n4_
     clear n0_ n1_ n2_ n3_ n4_
     clear ho hb hg hat
     refine hK.out _ _ ⟨(blk_cell BK218.out 0).trans rfl, (blk_cell BK218.out 1).trans rfl, (blk_cell BK219.out 0).trans rfl, (blk_cell BK219.out 1).trans rfl⟩ (fun hHeld => ?_)
     clear hK K
     refine norm_ (a' := ?_) ?_ ?_
     rotate_left
     ·
      show Act.put _ (some 24) _ = _
      simp only [Act.put, q1, q2, q3, i64_w, i32_w]
      rfl
     refine pure_ (i := 11) (N := some 5) (v := ?_) (a' := ?_) #[T, T, T, T, T, T, T, T, T, T, T, T] rfl rfl (any_of HT_.out (by kernel_rfl)) (fun _ _ _ h => h) (Or.inl ⟨by rfl, ?_⟩) ?_ ?_
     rotate_left
     ·
      intro w'
      go_simp
      with_reducible rfl
     rotate_left
     ·
      simp only [Act.put, q1, q2, q3, i64_w, i32_w]
      rfl
     refine done_ (done_of HT_.out (by kernel_rfl)) ?_
     try go_wp2
     go_roundg k1
     case measure => have := HK1.out; omega
     case rel => exact ⟨(y226), (wrap64 (x6_1 + 1)), (by first | rfl | (simp; done) | (simp [*]; done)), H', ⟨by have := HK1.out; omega⟩, ⟨by (with_reducible repeat (first | apply Kd.R_alloc | apply Kd.R_drewN | apply Kd.R_drew)); exact HO228.out⟩, ⟨by (with_reducible repeat (first | refine blk_drewN ?_ _ | refine blk_drew ?_ | refine blk_alloc ?_ _)); exact BK218.out⟩, ⟨by (with_reducible repeat (first | refine blk_drewN ?_ _ | refine blk_drew ?_ | refine blk_alloc ?_ _)); exact BK219.out⟩, ⟨by (with_reducible repeat (first | refine blk_drewN ?_ _ | refine blk_drew ?_ | refine blk_alloc ?_ _)); exact BK220.out⟩, ⟨pb HB⟩⟩
    ·
     rw [if_neg c11] at H
     exact absurd H (by simp)
   ·
    rw [if_neg c8] at H
    have c8b0 : decide (x6_1 < a0_0) = false := decide_eq_false c8
    clear c8
    replace H := Option.bind_eq_some_iff.mp H
    obtain ⟨⟨t229, t230⟩, A190, H⟩ := H
    replace H : (some (t229, t230)) = some (r1, r2) := H
    have A19 := Aside0.mk A190
    clear A190
    simp only [Option.some.injEq, Prod.mk.injEq] at H
    obtain ⟨rfl, rfl⟩ := H
    have hnb20 := NB218_219.out
    have hnc20 := NB219_218.out
    have hnb21 := NB218_220.out
    have hnc21 := NB220_218.out
    have hcz22_0 : wr.cell? ⟨gb218, 0, none⟩ = some (.int .i64 a0_0) := (blk_cell BK218.out 0).trans rfl
    have hcz22_1 : wr.cell? ⟨gb218, 1, none⟩ = some (.slice A0_1 l0_1.length c0_1) := (blk_cell BK218.out 1).trans rfl
    have hfz22_0 := blk_frozen BK218.out 0
    have hfz22_1 := blk_frozen BK218.out 1
    obtain ⟨Ao23, co23, eo23⟩ := Kd.R_slice HO_5.out
    subst eo23
    go_wp2_with (first | ((with_reducible refine gate_callee (f := 57) rfl ?_); refine goesL_ (some 26) rfl rfl Try.func57 (by kernel_rfl) rfl #[.slice Ao23 x5_1.length co23] rfl (by (try simp only [List.map_toArray, List.map_cons, List.map_nil]); first | done | rfl | (simp only [List.length_drop, List.length_take]; rfl)) ?_; (with_reducible refine (downpourref01_From.calls k1 _ _ x5_1 t229 t230 _ ?side1 ?side2 A19.out).mono ?_); (case side1 => repeat (first | exact (Kd.R_reads' HO_5.out).2.2 | (with_reducible refine Kd.C_alloc ?_ _) | (with_reducible refine Kd.C_drewN ?_ _) | (with_reducible refine Kd.C_drew ?_))); (case side2 => exact (Kd.R_reads' HO_5.out).2.1); rintro e w24 ⟨v231, rfl, ho0, hb⟩; refine ⟨_, rfl, ?_⟩; have n0_ := am (Kd.R_below (pr HO_5) hb); have n1_ := am (Kd.R_lower ho0 (below_size (pb HB))); have n2_ := bb BK218 hb; have n3_ := bb BK219 hb; have n4_ := bb BK220 hb; have n5_ := am (below_step (pb HB) hb); clear HO_5 BK218 BK219 BK220 HB; have HO_5 := n0_; have HO232 := n1_; have BK218 := n2_; have BK219 := n3_; have BK220 := n4_; have HB := n5_; clear n0_ n1_ n2_ n3_ n4_ n5_; (try clear hb); (try clear hb2); (try clear hk); (try clear hi); (try clear ho0); have hnb25 := NB220_219.out; have hnc25 := NB219_220.out; have hcz26_0 : w24.cell? ⟨gb220, 0, none⟩ = some (.int .i64 0) := (blk_cell BK220.out 0).trans rfl; have hcz26_1 : w24.cell? ⟨gb220, 1, none⟩ = some (.slice none 0 0) := (blk_cell BK220.out 1).trans rfl; have hfz26_0 := blk_frozen BK220.out 0; have hfz26_1 := blk_frozen BK220.out 1; obtain ⟨Ao27, co27, eo27⟩ := Kd.R_slice HO232.out; subst eo27))
    refine bodyPost_ret (results_cell_row rfl _ _ gb220 40 #[.int .i64 t229, .slice Ao27 t230.length co27] (0, 0) _ rfl (by (with_reducible repeat (first | refine blk_drewN ?_ _ | refine blk_drew ?_ | refine blk_alloc ?_ _)); refine blk_put (cs := #[.int .i64 t229, .slice none 0 0]) ?_ 1 _ rfl; (with_reducible repeat (first | refine blk_drewN ?_ _ | refine blk_drew ?_ | refine blk_alloc ?_ _)); refine blk_put (cs := #[.int .i64 0, .slice none 0 0]) ?_ 0 _ rfl; (with_reducible repeat (first | refine blk_drewN ?_ _ | refine blk_drew ?_ | refine blk_alloc ?_ _)); exact BK220.out) Try.underlying40 rfl (by kernel_rfl)) rfl ?_
    exact ⟨_, by first | rfl | (simp [errW_none, errW_some] <;> rfl) | (simp [*, errW_none, errW_some] <;> rfl), by (with_reducible repeat (first | apply Kd.R_alloc | apply Kd.R_drewN | apply Kd.R_drew)); exact Kd.R_mono (Kd.R_far (p := ⟨gb220, 1, none⟩) (Kd.R_far (p := ⟨gb220, 0, none⟩) (Kd.R_types HO232.out BK220.out (by decide)) (fun _ hk => hk.2) (.int .i64 t229)) (fun _ hk => hk.2) (.slice Ao27 t230.length co27)) (fun _ hk => trivial), pb HB⟩

end Go.Proofs.Ytfcedhejbnoinaa.PA
