-- PRINTED by print.py (a twelfth state) out of the translation. Not trusted: Lean checks it.
import Derived.Test.YtfcedhejbnoinaaDoorPRx0
import Derived.Test.YtfcedhejbnoinaaDoorPRx1
import Derived.Test.YtfcedhejbnoinaaDoorPRx5
import Derived.Test.YtfcedhejbnoinaaDoorPRx6
import Derived.Test.YtfcedhejbnoinaaDoorPRx8
namespace Go.Proofs.YtfcedhejbnoinaaDoor.PR
open Go.RowKit Go.Proofs.YtfcedhejbnoinaaDoorW.PrintWords Go.Proofs.YtfcedhejbnoinaaDoorW.PrintLast Go.Proofs.YtfcedhejbnoinaaDoorW.PrintMore
open Bool renaming true → T, false → F
open List renaming setIfInBounds_toArray → q1, set_cons_zero → q2, set_cons_succ → q3
attribute [local go_sem] run_store_func max2_int min2_int max_two min_two max_three min_three max_four min_four   -- for this text's walks alone
set_option linter.unusedVariables false
set_option linter.unusedSimpArgs false

/-! ### matrix_table_column: function 76 -/
def matrix_table_column.l0 : Nat → Int → List Int → List (S25) → Int → Int → Int → List (S25) → Option (Int × List Int)
 | 0, _, _, _, _, _, _, _ => none
 | k + 1, x1, x5, x13, x14, x15, x308000, x308001 => if x15 < x14 then (if 0 ≤ x15 then (if x15 < (x13.length : Int) then ((bitrow_Get.f ((rd_T25 x13 x15).f0) ((rd_T25 x13 x15).f1) x1).bind fun bt311 => (if bt311.1 = 1 then (if x5.length < 17592186044416 then (matrix_table_column.l0 k x1 (x5 ++ [x15]) x13 x14 (wrap64 (x15 + 1)) x308000 x308001) else (none)) else (matrix_table_column.l0 k x1 x5 x13 x14 (wrap64 (x15 + 1)) x308000 x308001))) else (none)) else (none)) else ((bitrow_Of.f k (x308001.length : Int) x5).bind fun bt316 => (some (bt316.1, bt316.2.1)))
def matrix_table_column.f (k : Nat) (a0_0 : Int) (l0_1 : List (S25)) (a1 : Int) : Option (Int × List Int) := matrix_table_column.l0 k a1 ([] : List Int) l0_1 (l0_1.length : Int) 0 a0_0 l0_1
theorem matrix_table_column.mono_l : ∀ k, (∀ y0 y1 y2 y3 y4 y5 y6, LeO (matrix_table_column.l0 k y0 y1 y2 y3 y4 y5 y6) (matrix_table_column.l0 (k + 1) y0 y1 y2 y3 y4 y5 y6))
 | 0 => fun _ _ _ _ _ _ _ r h => by simp [matrix_table_column.l0] at h
 | k + 1 => by
  have ih0 := matrix_table_column.mono_l k
  ·
   intro y0 y1 y2 y3 y4 y5 y6
   unfold matrix_table_column.l0
   repeat' first
   | (with_reducible exact ih0 _ _ _ _ _ _ _)
   | (with_reducible exact bitrow_Of.mono _ _ _)
   | (with_reducible exact LeO.refl _)
   | (with_reducible exact LeO.none _)
   | (with_reducible refine LeO.ite ?_ ?_)
   | (with_reducible refine LeO.bind ?_ (fun _ => ?_))
   | exact ih0 _ _ _ _ _ _ _
   | exact bitrow_Of.mono _ _ _
   | exact LeO.none _
   | refine LeO.ite ?_ ?_
   | refine LeO.bind ?_ (fun _ => ?_)
theorem matrix_table_column.mono : ∀ a0 a1 a2 k, LeO (matrix_table_column.f k a0 a1 a2) (matrix_table_column.f (k + 1) a0 a1 a2) := by
 intro a0 a1 a2 k
 have ih0 := matrix_table_column.mono_l k
 unfold matrix_table_column.f
 repeat' first
   | (with_reducible exact ih0 _ _ _ _ _ _ _)
   | (with_reducible exact bitrow_Of.mono _ _ _)
   | (with_reducible exact LeO.refl _)
   | (with_reducible exact LeO.none _)
   | (with_reducible refine LeO.ite ?_ ?_)
   | (with_reducible refine LeO.bind ?_ (fun _ => ?_))
   | exact ih0 _ _ _ _ _ _ _
   | exact bitrow_Of.mono _ _ _
   | exact LeO.none _
   | refine LeO.ite ?_ ?_
   | refine LeO.bind ?_ (fun _ => ?_)
set_option maxHeartbeats 8000000 in
set_option maxRecDepth 100000 in
theorem matrix_table_column.calls (k : Nat) (a0_0 : Int) (A0_1 : Option Addr) (c0_1 : Nat) (l0_1 : List (S25)) (a1 : Int) (r1 : Int) (r2 : List Int) (w : World) (hr0_1 : Kd.C k25 w A0_1 l0_1.length l0_1) (hc0_1 : l0_1.length ≤ c0_1) (h : matrix_table_column.f k a0_0 l0_1 a1 = some (r1, r2)) :
  Calls Tryd.prog 76 #[.agg #[.int .i64 a0_0, .slice A0_1 l0_1.length c0_1], .int .i64 a1] w fun e w' => ∃ v1_ : Value, e = .returned (.agg #[.int .i64 r1, v1_]) ∧ Kd.R (Kd.int .u64) 90 w' w.heap.size (fun _ => True) v1_ r2 ∧ Below w.heap.size w w' := by
 have hu97 := Tryd.underlying97
 have hu25 := Tryd.underlying25
 have HR0_1 := Aside0.mk hr0_1
 have HC0_1 := Aside0.mk hc0_1
 clear hr0_1 hc0_1
 have HB := am (Below.refl w.heap.size w)
 have H : (matrix_table_column.l0 k a1 ([] : List Int) l0_1 (l0_1.length : Int) 0 a0_0 l0_1) = some (r1, r2) := h
 clear h
 have H' := Aside0.mk H
 clear H
 go_enter Tryd.func76, Tryd.ntmps76
 go_wp2_with (first | ((with_reducible refine gate_dst (N := 2) rfl ?_); refine box_event ?hg (N := 2) ?hd (cs := #[.int .i64 a0_0, .slice A0_1 l0_1.length c0_1]) (t := 97) ?hr ?_; (case hd => rfl); (case hg => rfl); (case hr => first | (go_simp; done) | (go_simp; rfl)); intro gb307 hg w3 hbox hb; have n0_ := am (below_step (pb HB) hb); have n1_ := am (hbox); have n2_ := am ((by rw [hg]; exact (below_size (pb HB)) : w.heap.size ≤ gb307)); have n3_ := am ((by rw [hg]; exact (below_size (pb HB)) : w.heap.size ≤ gb307)); clear HB; have HB := n0_; have BK307 := n1_; have GW307 := n2_; have GE307 := n3_; clear n0_ n1_ n2_ n3_ hb hbox hg) | ((with_reducible refine gate_dst (N := 4) rfl ?_); refine box_event ?hg (N := 4) ?hd (cs := #[.int .i64 0, .slice none 0 0]) (t := 25) ?hr ?_; (case hd => rfl); (case hg => rfl); (case hr => first | (go_simp; done) | (go_simp; rfl)); intro gb308 hg w4 hbox hb; have n0_ := bb BK307 hb; have n1_ := am (below_step (pb HB) hb); have n2_ := am (hbox); have n3_ := am ((by rw [hg]; exact (below_size (pb HB)) : w.heap.size ≤ gb308)); have n4_ := am ((by rw [hg]; exact (below_size (pb HB)) : w.heap.size ≤ gb308)); have n5_ := am ((by rw [hg]; exact Nat.ne_of_lt (bl BK307) : gb307 ≠ gb308)); have n6_ := am ((by rw [hg]; exact Nat.ne_of_gt (bl BK307) : gb308 ≠ gb307)); clear BK307 HB; have BK307 := n0_; have HB := n1_; have BK308 := n2_; have GW308 := n3_; have GE308 := n4_; have NB307_308 := n5_; have NB308_307 := n6_; clear n0_ n1_ n2_ n3_ n4_ n5_ n6_ hb hbox hg; have hnb5 := NB307_308.out; have hnc5 := NB308_307.out; have hcz6_0 : w4.cell? ⟨gb307, 0, none⟩ = some (.int .i64 a0_0) := (blk_cell BK307.out 0).trans rfl; have hcz6_1 : w4.cell? ⟨gb307, 1, none⟩ = some (.slice A0_1 l0_1.length c0_1) := (blk_cell BK307.out 1).trans rfl; have hfz6_0 := blk_frozen BK307.out 0; have hfz6_1 := blk_frozen BK307.out 1))
 go_loopg [5, 15] k (fun kq v5 v15 w' => ∃ (x5_1 : List Int) (x15_1 : Int), v15 = .int .i64 x15_1 ∧ Aside0 (matrix_table_column.l0 kq a1 x5_1 l0_1 (l0_1.length : Int) x15_1 a0_0 l0_1 = some (r1, r2)) ∧ Aside0 (kq ≤ k) ∧ Aside0 (Kd.R (Kd.int .i64) 3 w' w.heap.size (fun _ => True) v5 x5_1) ∧ Aside0 (w'.heap[gb307]? = some (.cells #[.int .i64 a0_0, (.slice A0_1 l0_1.length c0_1)] 97 (0, 0))) ∧ Aside0 (w'.heap[gb308]? = some (.cells #[.int .i64 0, (.slice none 0 0)] 25 (0, 0))) ∧ Aside0 (Below w.heap.size w w'))
 case atStart => exact ⟨(([] : List Int)), (0), (by first | rfl | (simp; done) | (simp [*]; done)), H', ⟨Nat.le_refl _⟩, ⟨by first | exact Kd.R_nil _ _ _ _ _ | exact Kd.N_nil _ _ _ _ _ | exact Kd.V_nil _ _ _ _ _ | exact Kd.Q_nil _ _ _ _ _ | exact Kd.S_nil _ _ _ _ _⟩, ⟨by (with_reducible repeat (first | refine blk_drewN ?_ _ | refine blk_drew ?_ | refine blk_alloc ?_ _)); exact BK307.out⟩, ⟨by (with_reducible repeat (first | refine blk_drewN ?_ _ | refine blk_drew ?_ | refine blk_alloc ?_ _)); exact BK308.out⟩, ⟨pb HB⟩⟩
 case round =>
  clear H'
  try clear p2
  try clear c5
  try clear hcz6_0
  try clear hcz6_1
  try clear hfz6_0
  try clear hfz6_1
  obtain ⟨x5_1, x15_1, rfl, HA, HK1, HO_5, BK307, BK308, HB⟩ := hrel
  cases gk with
  | zero => exact absurd HA.out (by simp [matrix_table_column.l0])
  | succ k1 =>
   have H := HA.out
   clear HA
   simp only [matrix_table_column.l0] at H
   by_cases c7 : x15_1 < (l0_1.length : Int)
   ·
    rw [if_pos c7] at H
    have c7b0 : decide (x15_1 < (l0_1.length : Int)) = true := decide_eq_true c7
    clear c7
    by_cases c8 : 0 ≤ x15_1
    ·
     rw [if_pos c8] at H
     have c8b0 : decide (0 ≤ x15_1) = true := decide_eq_true c8
     clear c8
     by_cases c9 : x15_1 < (l0_1.length : Int)
     ·
      rw [if_pos c9] at H
      have c9b0 : decide (x15_1 < (l0_1.length : Int)) = true := decide_eq_true c9
      clear c9
      replace H := Option.bind_eq_some_iff.mp H
      obtain ⟨⟨t311, t312⟩, A100, H⟩ := H
      replace H : (if t311 = 1 then (if x5_1.length < 17592186044416 then (matrix_table_column.l0 k1 a1 (x5_1 ++ [x15_1]) l0_1 (l0_1.length : Int) (wrap64 (x15_1 + 1)) a0_0 l0_1) else (none)) else (matrix_table_column.l0 k1 a1 x5_1 l0_1 (l0_1.length : Int) (wrap64 (x15_1 + 1)) a0_0 l0_1)) = some (r1, r2) := H
      have A10 := Aside0.mk A100
      clear A100
      by_cases c11 : t311 = 1
      ·
       rw [if_pos c11] at H
       have c11b0 : (t311 == 1) = true := beq_iff_eq.mpr c11
       have c11b1 : (t311 != 1) = false := bne_eq_false_iff_eq.mpr c11
       clear c11
       by_cases c12 : x5_1.length < 17592186044416
       ·
        rw [if_pos c12] at H
        have LMc12 := Aside0.mk c12
        clear c12
        obtain ⟨y313, hy313⟩ : ∃ y_ : List Int, y_ = (x5_1 ++ [x15_1]) := ⟨_, rfl⟩
        replace H : (matrix_table_column.l0 k1 a1 y313 l0_1 (l0_1.length : Int) (wrap64 (x15_1 + 1)) a0_0 l0_1) = some (r1, r2) := by first | (rw [hy313]; with_reducible exact H) | (have H2_ := (Option.bind_some _ _).symm.trans H; rw [hy313]; with_reducible exact H2_) | (have H2_ := (Option.bind_some _ _).symm.trans H; with_reducible exact H2_) | with_reducible exact H | (rw [hy313]; exact H) | exact H
        have Ny313 := Aside0.mk hy313
        clear hy313
        have H' := Aside0.mk H
        clear H
        have p309 : 0 ≤ (x15_1 : Int) := of_decide_eq_true (by first | (with_reducible assumption) | assumption)
        have q309 : x15_1 < (l0_1.length : Int) := of_decide_eq_true (by first | (with_reducible assumption) | assumption)
        obtain ⟨ad309, A309_1, c309_1, e309, hx309_0, hx309_1, hl309_1, hi309_1⟩ := at_T25 HR0_1.out x15_1 p309 q309
        cases e309
        replace hx309_0 := (HB.out.cell (World.block_lt_of_cell? w _ hx309_0)).trans hx309_0
        replace hx309_1 := (HB.out.cell (World.block_lt_of_cell? w _ hx309_1)).trans hx309_1
        have HR309_1 := Aside0.mk hi309_1
        have HC309_1 := Aside0.mk hl309_1
        clear hi309_1 hl309_1
        replace p309 := eq_true p309
        replace q309 := eq_true q309
        go_wp2_with (first | ((with_reducible refine gate_dst (N := 7) rfl ?_); refine box_event ?hg (N := 7) ?hd (cs := #[.int .i64 0, .slice none 0 0]) (t := 25) ?hr ?_; (case hd => rfl); (case hg => rfl); (case hr => first | (go_simp; done) | (go_simp; rfl)); intro gb310 hg w13 hbox hb; have n0_ := am (Kd.R_below (pr HO_5) hb); have n1_ := bb BK307 hb; have n2_ := bb BK308 hb; have n3_ := am (below_step (pb HB) hb); have n4_ := am (hbox); have n5_ := am ((by rw [hg]; exact (below_size (pb HB)) : w.heap.size ≤ gb310)); have n6_ := am ((by rw [hg]; exact (below_size (pb HB)) : w.heap.size ≤ gb310)); have n7_ := am ((by rw [hg]; exact Nat.ne_of_lt (bl BK307) : gb307 ≠ gb310)); have n8_ := am ((by rw [hg]; exact Nat.ne_of_gt (bl BK307) : gb310 ≠ gb307)); have n9_ := am ((by rw [hg]; exact Nat.ne_of_lt (bl BK308) : gb308 ≠ gb310)); have n10_ := am ((by rw [hg]; exact Nat.ne_of_gt (bl BK308) : gb310 ≠ gb308)); clear HO_5 BK307 BK308 HB; have HO_5 := n0_; have BK307 := n1_; have BK308 := n2_; have HB := n3_; have BK310 := n4_; have GW310 := n5_; have GE310 := n6_; have NB307_310 := n7_; have NB310_307 := n8_; have NB308_310 := n9_; have NB310_308 := n10_; clear n0_ n1_ n2_ n3_ n4_ n5_ n6_ n7_ n8_ n9_ n10_ hb hbox hg; have hnb14 := NB310_307.out; have hnc14 := NB307_310.out; have hnb15 := NB310_308.out; have hnc15 := NB308_310.out; have hcz16_0 : w13.cell? ⟨gb310, 0, none⟩ = some (.int .i64 0) := (blk_cell BK310.out 0).trans rfl; have hcz16_1 : w13.cell? ⟨gb310, 1, none⟩ = some (.slice none 0 0) := (blk_cell BK310.out 1).trans rfl; have hfz16_0 := blk_frozen BK310.out 0; have hfz16_1 := blk_frozen BK310.out 1) | ((with_reducible refine gate_callee (f := 22) rfl ?_); refine goesL_ (some 23) rfl rfl Tryd.func22 (by kernel_rfl) rfl #[.agg #[.int .i64 ((rd_T25 l0_1 x15_1).f0), .slice A309_1 ((rd_T25 l0_1 x15_1).f1).length c309_1], .int .i64 a1] rfl (by (try simp only [List.map_toArray, List.map_cons, List.map_nil]); first | done | rfl | (simp only [List.length_drop, List.length_take]; rfl)) ?_; (with_reducible refine (bitrow_Get.calls ((rd_T25 l0_1 x15_1).f0) _ _ ((rd_T25 l0_1 x15_1).f1) a1 t311 t312 _ ?side1 ?side2 A10.out).mono ?_); (case side1 => exact Kd.C_below HR309_1.out (pb HB)); (case side2 => exact HC309_1.out); rintro e w17 ⟨rfl, hb⟩; refine ⟨_, rfl, ?_⟩; have n0_ := am (Kd.R_below (by (with_reducible repeat (first | apply Kd.R_alloc | apply Kd.R_drewN | apply Kd.R_drew)); exact (Kd.R_mono (Kd.R_far (p := ⟨gb310, 1, none⟩) (Kd.R_far (p := ⟨gb310, 0, none⟩) (Kd.R_types HO_5.out BK310.out (by decide)) (fun _ hk => hk.2) (.int .i64 ((rd_T25 l0_1 x15_1).f0))) (fun _ hk => hk.2) (.slice A309_1 ((rd_T25 l0_1 x15_1).f1).length c309_1)) (fun _ h_ => h_.1))) hb); have n1_ := am (blk_below (g := gb307) (o := .cells #[.int .i64 a0_0, .slice (some ad309) l0_1.length c0_1] 97 (0, 0)) (by (with_reducible repeat (first | refine blk_drewN ?_ _ | refine blk_drew ?_ | refine blk_alloc ?_ _)); refine blk_far ?_ NB307_310.out _; (with_reducible repeat (first | refine blk_drewN ?_ _ | refine blk_drew ?_ | refine blk_alloc ?_ _)); refine blk_far ?_ NB307_310.out _; (with_reducible repeat (first | refine blk_drewN ?_ _ | refine blk_drew ?_ | refine blk_alloc ?_ _)); exact BK307.out) hb); have n2_ := am (blk_below (g := gb308) (o := .cells #[.int .i64 0, .slice none 0 0] 25 (0, 0)) (by (with_reducible repeat (first | refine blk_drewN ?_ _ | refine blk_drew ?_ | refine blk_alloc ?_ _)); refine blk_far ?_ NB308_310.out _; (with_reducible repeat (first | refine blk_drewN ?_ _ | refine blk_drew ?_ | refine blk_alloc ?_ _)); refine blk_far ?_ NB308_310.out _; (with_reducible repeat (first | refine blk_drewN ?_ _ | refine blk_drew ?_ | refine blk_alloc ?_ _)); exact BK308.out) hb); have n3_ := am (blk_below (g := gb310) (o := .cells #[.int .i64 ((rd_T25 l0_1 x15_1).f0), .slice A309_1 ((rd_T25 l0_1 x15_1).f1).length c309_1] 25 (0, 0)) (by (with_reducible repeat (first | refine blk_drewN ?_ _ | refine blk_drew ?_ | refine blk_alloc ?_ _)); refine blk_put (cs := #[.int .i64 ((rd_T25 l0_1 x15_1).f0), .slice none 0 0]) ?_ 1 _ rfl; (with_reducible repeat (first | refine blk_drewN ?_ _ | refine blk_drew ?_ | refine blk_alloc ?_ _)); refine blk_put (cs := #[.int .i64 0, .slice none 0 0]) ?_ 0 _ rfl; (with_reducible repeat (first | refine blk_drewN ?_ _ | refine blk_drew ?_ | refine blk_alloc ?_ _)); exact BK310.out) hb); have n4_ := am (below_step (pb HB) hb); clear HO_5 BK307 BK308 BK310 HB; have HO_5 := n0_; have BK307 := n1_; have BK308 := n2_; have BK310 := n3_; have HB := n4_; clear n0_ n1_ n2_ n3_ n4_; (try clear hb); (try clear hb2); (try clear hk); (try clear hi)) | ((with_reducible refine gate_builtin (b := .append) (xs := #[.tmp 28, .tmp 30]) rfl ?_); at_builtin; refine Kd.R_append (Kd.int .i64) (w0 := w) w.heap.size rfl (.tmp 28) (.tmp 30) 34 3 (.int .i64 0) 8 rfl Tryd.underlying34 info3 rfl (by decide) (by omega) u5 x5_1 x15_1 [.int .i64 x15_1] (fun _ => True) (fun _ => False) rfl rfl ?aP (fun _ hk => hk.elim) ?aF ?aO ?aB ?aS ?aL ?_; (case aP => exact rfl); (case aB => exact (pb HB)); (case aF => exact (fun _ _ => trivial)); (case aO => exact (pr HO_5)); (case aS => exact (below_size (pb HB))); (case aL => have := LMc12.out; omega); intro v314 w18 ho hb hg hat; rw [← Ny313.out] at ho; have n0_ := am (blk_grown (g := gb307) (o := .cells #[.int .i64 a0_0, .slice (some ad309) l0_1.length c0_1] 97 (0, 0)) (pk BK307) hg (Kd.R_ne HO_5.out BK307.out (by decide))); have n1_ := am (blk_grown (g := gb308) (o := .cells #[.int .i64 0, .slice none 0 0] 25 (0, 0)) (pk BK308) hg (Kd.R_ne HO_5.out BK308.out (by decide))); have n2_ := am (blk_grown (g := gb310) (o := .cells #[.int .i64 ((rd_T25 l0_1 x15_1).f0), .slice A309_1 ((rd_T25 l0_1 x15_1).f1).length c309_1] 25 (0, 0)) (pk BK310) hg (Kd.R_ne HO_5.out BK310.out (by decide))); have n3_ := am (hb); have n4_ := am (ho); clear BK307 BK308 BK310 HB HO_5; have BK307 := n0_; have BK308 := n1_; have BK310 := n2_; have HB := n3_; have HO315 := n4_; clear n0_ n1_ n2_ n3_ n4_ ho hb hg hat))
        go_roundg k1
        case measure => have := HK1.out; omega
        case rel => exact ⟨(y313), (wrap64 (x15_1 + 1)), (by first | rfl | (simp; done) | (simp [*]; done)), H', ⟨by have := HK1.out; omega⟩, ⟨by (with_reducible repeat (first | apply Kd.R_alloc | apply Kd.R_drewN | apply Kd.R_drew)); exact HO315.out⟩, ⟨by (with_reducible repeat (first | refine blk_drewN ?_ _ | refine blk_drew ?_ | refine blk_alloc ?_ _)); exact BK307.out⟩, ⟨by (with_reducible repeat (first | refine blk_drewN ?_ _ | refine blk_drew ?_ | refine blk_alloc ?_ _)); exact BK308.out⟩, ⟨pb HB⟩⟩
       ·
        rw [if_neg c12] at H
        exact absurd H (by simp)
      ·
       rw [if_neg c11] at H
       have c11b0 : (t311 == 1) = false := beq_eq_false_iff_ne.mpr c11
       have c11b1 : (t311 != 1) = true := bne_iff_ne.mpr c11
       have H' := Aside0.mk H
       clear H
       have p309 : 0 ≤ (x15_1 : Int) := of_decide_eq_true (by first | (with_reducible assumption) | assumption)
       have q309 : x15_1 < (l0_1.length : Int) := of_decide_eq_true (by first | (with_reducible assumption) | assumption)
       obtain ⟨ad309, A309_1, c309_1, e309, hx309_0, hx309_1, hl309_1, hi309_1⟩ := at_T25 HR0_1.out x15_1 p309 q309
       cases e309
       replace hx309_0 := (HB.out.cell (World.block_lt_of_cell? w _ hx309_0)).trans hx309_0
       replace hx309_1 := (HB.out.cell (World.block_lt_of_cell? w _ hx309_1)).trans hx309_1
       have HR309_1 := Aside0.mk hi309_1
       have HC309_1 := Aside0.mk hl309_1
       clear hi309_1 hl309_1
       replace p309 := eq_true p309
       replace q309 := eq_true q309
       go_wp2_with (first | ((with_reducible refine gate_dst (N := 7) rfl ?_); refine box_event ?hg (N := 7) ?hd (cs := #[.int .i64 0, .slice none 0 0]) (t := 25) ?hr ?_; (case hd => rfl); (case hg => rfl); (case hr => first | (go_simp; done) | (go_simp; rfl)); intro gb310 hg w19 hbox hb; have n0_ := am (Kd.R_below (pr HO_5) hb); have n1_ := bb BK307 hb; have n2_ := bb BK308 hb; have n3_ := am (below_step (pb HB) hb); have n4_ := am (hbox); have n5_ := am ((by rw [hg]; exact (below_size (pb HB)) : w.heap.size ≤ gb310)); have n6_ := am ((by rw [hg]; exact (below_size (pb HB)) : w.heap.size ≤ gb310)); have n7_ := am ((by rw [hg]; exact Nat.ne_of_lt (bl BK307) : gb307 ≠ gb310)); have n8_ := am ((by rw [hg]; exact Nat.ne_of_gt (bl BK307) : gb310 ≠ gb307)); have n9_ := am ((by rw [hg]; exact Nat.ne_of_lt (bl BK308) : gb308 ≠ gb310)); have n10_ := am ((by rw [hg]; exact Nat.ne_of_gt (bl BK308) : gb310 ≠ gb308)); clear HO_5 BK307 BK308 HB; have HO_5 := n0_; have BK307 := n1_; have BK308 := n2_; have HB := n3_; have BK310 := n4_; have GW310 := n5_; have GE310 := n6_; have NB307_310 := n7_; have NB310_307 := n8_; have NB308_310 := n9_; have NB310_308 := n10_; clear n0_ n1_ n2_ n3_ n4_ n5_ n6_ n7_ n8_ n9_ n10_ hb hbox hg; have hnb20 := NB310_307.out; have hnc20 := NB307_310.out; have hnb21 := NB310_308.out; have hnc21 := NB308_310.out; have hcz22_0 : w19.cell? ⟨gb310, 0, none⟩ = some (.int .i64 0) := (blk_cell BK310.out 0).trans rfl; have hcz22_1 : w19.cell? ⟨gb310, 1, none⟩ = some (.slice none 0 0) := (blk_cell BK310.out 1).trans rfl; have hfz22_0 := blk_frozen BK310.out 0; have hfz22_1 := blk_frozen BK310.out 1) | ((with_reducible refine gate_callee (f := 22) rfl ?_); refine goesL_ (some 23) rfl rfl Tryd.func22 (by kernel_rfl) rfl #[.agg #[.int .i64 ((rd_T25 l0_1 x15_1).f0), .slice A309_1 ((rd_T25 l0_1 x15_1).f1).length c309_1], .int .i64 a1] rfl (by (try simp only [List.map_toArray, List.map_cons, List.map_nil]); first | done | rfl | (simp only [List.length_drop, List.length_take]; rfl)) ?_; (with_reducible refine (bitrow_Get.calls ((rd_T25 l0_1 x15_1).f0) _ _ ((rd_T25 l0_1 x15_1).f1) a1 t311 t312 _ ?side1 ?side2 A10.out).mono ?_); (case side1 => exact Kd.C_below HR309_1.out (pb HB)); (case side2 => exact HC309_1.out); rintro e w23 ⟨rfl, hb⟩; refine ⟨_, rfl, ?_⟩; have n0_ := am (Kd.R_below (by (with_reducible repeat (first | apply Kd.R_alloc | apply Kd.R_drewN | apply Kd.R_drew)); exact (Kd.R_mono (Kd.R_far (p := ⟨gb310, 1, none⟩) (Kd.R_far (p := ⟨gb310, 0, none⟩) (Kd.R_types HO_5.out BK310.out (by decide)) (fun _ hk => hk.2) (.int .i64 ((rd_T25 l0_1 x15_1).f0))) (fun _ hk => hk.2) (.slice A309_1 ((rd_T25 l0_1 x15_1).f1).length c309_1)) (fun _ h_ => h_.1))) hb); have n1_ := am (blk_below (g := gb307) (o := .cells #[.int .i64 a0_0, .slice (some ad309) l0_1.length c0_1] 97 (0, 0)) (by (with_reducible repeat (first | refine blk_drewN ?_ _ | refine blk_drew ?_ | refine blk_alloc ?_ _)); refine blk_far ?_ NB307_310.out _; (with_reducible repeat (first | refine blk_drewN ?_ _ | refine blk_drew ?_ | refine blk_alloc ?_ _)); refine blk_far ?_ NB307_310.out _; (with_reducible repeat (first | refine blk_drewN ?_ _ | refine blk_drew ?_ | refine blk_alloc ?_ _)); exact BK307.out) hb); have n2_ := am (blk_below (g := gb308) (o := .cells #[.int .i64 0, .slice none 0 0] 25 (0, 0)) (by (with_reducible repeat (first | refine blk_drewN ?_ _ | refine blk_drew ?_ | refine blk_alloc ?_ _)); refine blk_far ?_ NB308_310.out _; (with_reducible repeat (first | refine blk_drewN ?_ _ | refine blk_drew ?_ | refine blk_alloc ?_ _)); refine blk_far ?_ NB308_310.out _; (with_reducible repeat (first | refine blk_drewN ?_ _ | refine blk_drew ?_ | refine blk_alloc ?_ _)); exact BK308.out) hb); have n3_ := am (blk_below (g := gb310) (o := .cells #[.int .i64 ((rd_T25 l0_1 x15_1).f0), .slice A309_1 ((rd_T25 l0_1 x15_1).f1).length c309_1] 25 (0, 0)) (by (with_reducible repeat (first | refine blk_drewN ?_ _ | refine blk_drew ?_ | refine blk_alloc ?_ _)); refine blk_put (cs := #[.int .i64 ((rd_T25 l0_1 x15_1).f0), .slice none 0 0]) ?_ 1 _ rfl; (with_reducible repeat (first | refine blk_drewN ?_ _ | refine blk_drew ?_ | refine blk_alloc ?_ _)); refine blk_put (cs := #[.int .i64 0, .slice none 0 0]) ?_ 0 _ rfl; (with_reducible repeat (first | refine blk_drewN ?_ _ | refine blk_drew ?_ | refine blk_alloc ?_ _)); exact BK310.out) hb); have n4_ := am (below_step (pb HB) hb); clear HO_5 BK307 BK308 BK310 HB; have HO_5 := n0_; have BK307 := n1_; have BK308 := n2_; have BK310 := n3_; have HB := n4_; clear n0_ n1_ n2_ n3_ n4_; (try clear hb); (try clear hb2); (try clear hk); (try clear hi)))
       go_roundg k1
       case measure => have := HK1.out; omega
       case rel => exact ⟨(x5_1), (wrap64 (x15_1 + 1)), (by first | rfl | (simp; done) | (simp [*]; done)), H', ⟨by have := HK1.out; omega⟩, ⟨by (with_reducible repeat (first | apply Kd.R_alloc | apply Kd.R_drewN | apply Kd.R_drew)); exact HO_5.out⟩, ⟨by (with_reducible repeat (first | refine blk_drewN ?_ _ | refine blk_drew ?_ | refine blk_alloc ?_ _)); exact BK307.out⟩, ⟨by (with_reducible repeat (first | refine blk_drewN ?_ _ | refine blk_drew ?_ | refine blk_alloc ?_ _)); exact BK308.out⟩, ⟨pb HB⟩⟩
     ·
      rw [if_neg c9] at H
      exact absurd H (by simp)
    ·
     rw [if_neg c8] at H
     exact absurd H (by simp)
   ·
    rw [if_neg c7] at H
    have c7b0 : decide (x15_1 < (l0_1.length : Int)) = false := decide_eq_false c7
    clear c7
    replace H := Option.bind_eq_some_iff.mp H
    obtain ⟨⟨t316, t317, t320⟩, A240, H⟩ := H
    replace H : (some (t316, t317)) = some (r1, r2) := H
    have A24 := Aside0.mk A240
    clear A240
    simp only [Option.some.injEq, Prod.mk.injEq] at H
    obtain ⟨rfl, rfl⟩ := H
    have hnb25 := NB307_308.out
    have hnc25 := NB308_307.out
    have hcz26_0 : wr.cell? ⟨gb307, 0, none⟩ = some (.int .i64 a0_0) := (blk_cell BK307.out 0).trans rfl
    have hcz26_1 : wr.cell? ⟨gb307, 1, none⟩ = some (.slice A0_1 l0_1.length c0_1) := (blk_cell BK307.out 1).trans rfl
    have hfz26_0 := blk_frozen BK307.out 0
    have hfz26_1 := blk_frozen BK307.out 1
    obtain ⟨Ao27, co27, eo27⟩ := Kd.R_slice HO_5.out
    subst eo27
    go_wp2_with (first | ((with_reducible refine gate_callee (f := 27) rfl ?_); refine goesL_ (some 38) rfl rfl Tryd.func27 (by kernel_rfl) rfl #[.int .i64 (l0_1.length : Int), .slice Ao27 x5_1.length co27] rfl (by (try simp only [List.map_toArray, List.map_cons, List.map_nil]); first | done | rfl | (simp only [List.length_drop, List.length_take]; rfl)) ?_; (with_reducible refine (bitrow_Of.calls k1 (l0_1.length : Int) _ _ x5_1 t316 t317 t320 _ ?side1 ?side2 A24.out).mono ?_); (case side1 => repeat (first | exact (Kd.R_reads' HO_5.out).2.2 | (with_reducible refine Kd.C_alloc ?_ _) | (with_reducible refine Kd.C_drewN ?_ _) | (with_reducible refine Kd.C_drew ?_))); (case side2 => exact (Kd.R_reads' HO_5.out).2.1); rintro e w28 ⟨v318, rfl, ho0, hb⟩; refine ⟨_, rfl, ?_⟩; have n0_ := am (Kd.R_below (pr HO_5) hb); have n1_ := am (Kd.R_lower ho0 (below_size (pb HB))); have n2_ := bb BK307 hb; have n3_ := bb BK308 hb; have n4_ := am (below_step (pb HB) hb); clear HO_5 BK307 BK308 HB; have HO_5 := n0_; have HO319 := n1_; have BK307 := n2_; have BK308 := n3_; have HB := n4_; clear n0_ n1_ n2_ n3_ n4_; (try clear hb); (try clear hb2); (try clear hk); (try clear hi); (try clear ho0)) | ((with_reducible refine gate_dst (N := 10) rfl ?_); refine box_event ?hg (N := 10) ?hd (cs := #[.int .i64 0, .slice none 0 0]) (t := 25) ?hr ?_; (case hd => rfl); (case hg => rfl); (case hr => first | (go_simp; done) | (go_simp; rfl)); intro gb321 hg w29 hbox hb; have n0_ := am (Kd.R_below (pr HO_5) hb); have n1_ := am (Kd.R_below (pr HO319) hb); have n2_ := bb BK307 hb; have n3_ := bb BK308 hb; have n4_ := am (below_step (pb HB) hb); have n5_ := am (hbox); have n6_ := am ((by rw [hg]; exact (below_size (pb HB)) : w.heap.size ≤ gb321)); have n7_ := am ((by rw [hg]; exact (below_size (pb HB)) : w.heap.size ≤ gb321)); have n8_ := am ((by rw [hg]; exact Nat.ne_of_lt (bl BK307) : gb307 ≠ gb321)); have n9_ := am ((by rw [hg]; exact Nat.ne_of_gt (bl BK307) : gb321 ≠ gb307)); have n10_ := am ((by rw [hg]; exact Nat.ne_of_lt (bl BK308) : gb308 ≠ gb321)); have n11_ := am ((by rw [hg]; exact Nat.ne_of_gt (bl BK308) : gb321 ≠ gb308)); clear HO_5 HO319 BK307 BK308 HB; have HO_5 := n0_; have HO319 := n1_; have BK307 := n2_; have BK308 := n3_; have HB := n4_; have BK321 := n5_; have GW321 := n6_; have GE321 := n7_; have NB307_321 := n8_; have NB321_307 := n9_; have NB308_321 := n10_; have NB321_308 := n11_; clear n0_ n1_ n2_ n3_ n4_ n5_ n6_ n7_ n8_ n9_ n10_ n11_ hb hbox hg; have hnb30 := NB321_307.out; have hnc30 := NB307_321.out; have hnb31 := NB321_308.out; have hnc31 := NB308_321.out; have hcz32_0 : w29.cell? ⟨gb321, 0, none⟩ = some (.int .i64 0) := (blk_cell BK321.out 0).trans rfl; have hcz32_1 : w29.cell? ⟨gb321, 1, none⟩ = some (.slice none 0 0) := (blk_cell BK321.out 1).trans rfl; have hfz32_0 := blk_frozen BK321.out 0; have hfz32_1 := blk_frozen BK321.out 1; obtain ⟨Ao33, co33, eo33⟩ := Kd.R_slice HO319.out; subst eo33; have hcz34_0 : w29.cell? ⟨gb308, 0, none⟩ = some (.int .i64 0) := (blk_cell BK308.out 0).trans rfl; have hcz34_1 : w29.cell? ⟨gb308, 1, none⟩ = some (.slice none 0 0) := (blk_cell BK308.out 1).trans rfl; have hfz34_0 := blk_frozen BK308.out 0; have hfz34_1 := blk_frozen BK308.out 1))
    refine bodyPost_ret (results_cell_row rfl _ _ gb308 25 #[.int .i64 t316, .slice Ao33 t317.length co33] (0, 0) _ rfl (by (with_reducible repeat (first | refine blk_drewN ?_ _ | refine blk_drew ?_ | refine blk_alloc ?_ _)); refine blk_put (cs := #[.int .i64 t316, .slice none 0 0]) ?_ 1 _ rfl; (with_reducible repeat (first | refine blk_drewN ?_ _ | refine blk_drew ?_ | refine blk_alloc ?_ _)); refine blk_put (cs := #[.int .i64 0, .slice none 0 0]) ?_ 0 _ rfl; (with_reducible repeat (first | refine blk_drewN ?_ _ | refine blk_drew ?_ | refine blk_alloc ?_ _)); refine blk_far ?_ NB308_321.out _; (with_reducible repeat (first | refine blk_drewN ?_ _ | refine blk_drew ?_ | refine blk_alloc ?_ _)); refine blk_far ?_ NB308_321.out _; (with_reducible repeat (first | refine blk_drewN ?_ _ | refine blk_drew ?_ | refine blk_alloc ?_ _)); exact BK308.out) Tryd.underlying25 rfl (by kernel_rfl)) rfl ?_
    exact ⟨_, by first | rfl | (simp [errW_none, errW_some] <;> rfl) | (simp [*, errW_none, errW_some] <;> rfl), by (with_reducible repeat (first | apply Kd.R_alloc | apply Kd.R_drewN | apply Kd.R_drew)); exact Kd.R_mono (Kd.R_far (p := ⟨gb308, 1, none⟩) (Kd.R_far (p := ⟨gb308, 0, none⟩) (Kd.R_far (p := ⟨gb321, 1, none⟩) (Kd.R_far (p := ⟨gb321, 0, none⟩) (Kd.R_types (Kd.R_types HO319.out BK321.out (by decide)) BK308.out (by decide)) (fun _ hk => hk.1.2) (.int .i64 t316)) (fun _ hk => hk.1.2) (.slice Ao33 t317.length co33)) (fun _ hk => hk.2) (.int .i64 t316)) (fun _ hk => hk.2) (.slice Ao33 t317.length co33)) (fun _ hk => trivial), pb HB⟩

/-! ### matrix_Turn_1: function 79 -/
def matrix_Turn_1.f (k : Nat) (a0 : Int) (a1_0 : Unit) (a2_0 : Int) (l2_1 : List (S25)) : Option (Int × List Int) := (matrix_table_column.f k a2_0 l2_1 a0).bind fun bt325 => (some (bt325.1, bt325.2))
theorem matrix_Turn_1.mono : ∀ a0 a1 a2 a3 k, LeO (matrix_Turn_1.f k a0 a1 a2 a3) (matrix_Turn_1.f (k + 1) a0 a1 a2 a3) := by
 intro a0 a1 a2 a3 k
 unfold matrix_Turn_1.f
 repeat' first
   | (with_reducible exact matrix_table_column.mono _ _ _ _)
   | (with_reducible exact LeO.refl _)
   | (with_reducible exact LeO.none _)
   | (with_reducible refine LeO.ite ?_ ?_)
   | (with_reducible refine LeO.bind ?_ (fun _ => ?_))
   | exact matrix_table_column.mono _ _ _ _
   | exact LeO.none _
   | refine LeO.ite ?_ ?_
   | refine LeO.bind ?_ (fun _ => ?_)
set_option maxHeartbeats 8000000 in
set_option maxRecDepth 100000 in
theorem matrix_Turn_1.calls (k : Nat) (a0 : Int) (gb1_ : Nat) (a1_0 : Unit) (gb2_ : Nat) (a2_0 : Int) (A2_1 : Option Addr) (c2_1 : Nat) (l2_1 : List (S25)) (r1 : Int) (r2 : List Int) (w : World) (hb1_ : w.heap[gb1_]? = some (.cells #[.func (.func 76) #[] #[]] 100 (0, 0))) (hb2_ : w.heap[gb2_]? = some (.cells #[.int .i64 a2_0, .slice A2_1 l2_1.length c2_1] 55 (0, 0))) (hr2_1 : Kd.C k25 w A2_1 l2_1.length l2_1) (hc2_1 : l2_1.length ≤ c2_1) (h : matrix_Turn_1.f k a0 a1_0 a2_0 l2_1 = some (r1, r2)) :
  Calls Tryd.prog 79 #[.int .i64 a0, .pointer (some ⟨gb1_, 0, none⟩), .pointer (some ⟨gb2_, 0, none⟩)] w fun e w' => ∃ v1_ : Value, e = .returned (.agg #[.int .i64 r1, v1_]) ∧ Kd.R (Kd.int .u64) 90 w' w.heap.size (fun _ => True) v1_ r2 ∧ Below w.heap.size w w' := by
 have hu25 := Tryd.underlying25
 have hu55 := Tryd.underlying55
 have HR2_1 := Aside0.mk hr2_1
 have HC2_1 := Aside0.mk hc2_1
 clear hr2_1 hc2_1
 have BK322 := Aside0.mk hb1_
 clear hb1_
 have BK323 := Aside0.mk hb2_
 clear hb2_
 have HB := am (Below.refl w.heap.size w)
 have H : ((matrix_table_column.f k a2_0 l2_1 a0).bind fun bt325 => (some (bt325.1, bt325.2))) = some (r1, r2) := h
 clear h
 replace H := Option.bind_eq_some_iff.mp H
 obtain ⟨⟨t325, t326⟩, A40, H⟩ := H
 replace H : (some (t325, t326)) = some (r1, r2) := H
 have A4 := Aside0.mk A40
 clear A40
 simp only [Option.some.injEq, Prod.mk.injEq] at H
 obtain ⟨rfl, rfl⟩ := H
 go_enter Tryd.func79, Tryd.ntmps79
 go_wp2_with (first | ((with_reducible refine gate_dst (N := 4) rfl ?_); refine box_event ?hg (N := 4) ?hd (cs := #[.int .i64 0, .slice none 0 0]) (t := 25) ?hr ?_; (case hd => rfl); (case hg => rfl); (case hr => first | (go_simp; done) | (go_simp; rfl)); intro gb324 hg w5 hbox hb; have n0_ := am (blk_below (g := gb1_) (o := .cells #[.func (.func 76) #[] #[]] 100 (0, 0)) (pk BK322) hb); have n1_ := am (blk_below (g := gb2_) (o := .cells #[.int .i64 a2_0, .slice A2_1 l2_1.length c2_1] 55 (0, 0)) (pk BK323) hb); have n2_ := am (below_step (pb HB) hb); have n3_ := am (hbox); have n4_ := am ((by rw [hg]; exact (below_size (pb HB)) : w.heap.size ≤ gb324)); have n5_ := am ((by rw [hg]; exact (below_size (pb HB)) : w.heap.size ≤ gb324)); have n6_ := am ((by rw [hg]; exact Nat.ne_of_lt (blk_lt (g := gb1_) (o := .cells #[.func (.func 76) #[] #[]] 100 (0, 0)) (pk BK322)) : gb1_ ≠ gb324)); have n7_ := am ((by rw [hg]; exact Nat.ne_of_gt (blk_lt (g := gb1_) (o := .cells #[.func (.func 76) #[] #[]] 100 (0, 0)) (pk BK322)) : gb324 ≠ gb1_)); have n8_ := am ((by rw [hg]; exact Nat.ne_of_lt (blk_lt (g := gb2_) (o := .cells #[.int .i64 a2_0, .slice A2_1 l2_1.length c2_1] 55 (0, 0)) (pk BK323)) : gb2_ ≠ gb324)); have n9_ := am ((by rw [hg]; exact Nat.ne_of_gt (blk_lt (g := gb2_) (o := .cells #[.int .i64 a2_0, .slice A2_1 l2_1.length c2_1] 55 (0, 0)) (pk BK323)) : gb324 ≠ gb2_)); clear BK322 BK323 HB; have BK322 := n0_; have BK323 := n1_; have HB := n2_; have BK324 := n3_; have GW324 := n4_; have GE324 := n5_; have NB322_324 := n6_; have NB324_322 := n7_; have NB323_324 := n8_; have NB324_323 := n9_; clear n0_ n1_ n2_ n3_ n4_ n5_ n6_ n7_ n8_ n9_ hb hbox hg; have hnb6 := NB322_324.out; have hnc6 := NB324_322.out; have hcz7_0 : w5.cell? ⟨gb1_, 0, none⟩ = some (.func (.func 76) #[] #[]) := (blk_cell BK322.out 0).trans rfl; have hfz7_0 := blk_frozen BK322.out 0; have hnb8 := NB323_324.out; have hnc8 := NB324_323.out; have hcz9_0 : w5.cell? ⟨gb2_, 0, none⟩ = some (.int .i64 a2_0) := (blk_cell BK323.out 0).trans rfl; have hcz9_1 : w5.cell? ⟨gb2_, 1, none⟩ = some (.slice A2_1 l2_1.length c2_1) := (blk_cell BK323.out 1).trans rfl; have hfz9_0 := blk_frozen BK323.out 0; have hfz9_1 := blk_frozen BK323.out 1) | ((with_reducible refine gate_calleeT (t := 5) rfl ?_); refine goesLT_ 5 (some 8) rfl rfl Tryd.func76 (by kernel_rfl) rfl #[.agg #[.int .i64 a2_0, .slice A2_1 l2_1.length c2_1], .int .i64 a0] #[] #[.agg #[.int .i64 a2_0, .slice A2_1 l2_1.length c2_1], .int .i64 a0] rfl (by rfl) (by (try simp only [List.map_toArray, List.map_cons, List.map_nil]); first | done | rfl | (simp only [List.length_drop, List.length_take]; rfl)) (by rfl) ?_; (with_reducible refine (matrix_table_column.calls k a2_0 _ _ l2_1 a0 t325 t326 _ ?side1 ?side2 A4.out).mono ?_); (case side1 => repeat (first | exact (Kd.C_below HR2_1.out HB.out) | (with_reducible refine Kd.C_alloc ?_ _) | (with_reducible refine Kd.C_drewN ?_ _) | (with_reducible refine Kd.C_drew ?_))); (case side2 => exact HC2_1.out); rintro e w10 ⟨v327, rfl, ho0, hb⟩; refine ⟨_, rfl, ?_⟩; have n0_ := am (Kd.R_lower ho0 (below_size (pb HB))); have n1_ := am (blk_below (g := gb1_) (o := .cells #[.func (.func 76) #[] #[]] 100 (0, 0)) (pk BK322) hb); have n2_ := am (blk_below (g := gb2_) (o := .cells #[.int .i64 a2_0, .slice A2_1 l2_1.length c2_1] 55 (0, 0)) (pk BK323) hb); have n3_ := bb BK324 hb; have n4_ := am (below_step (pb HB) hb); clear BK322 BK323 BK324 HB; have HO328 := n0_; have BK322 := n1_; have BK323 := n2_; have BK324 := n3_; have HB := n4_; clear n0_ n1_ n2_ n3_ n4_; (try clear hb); (try clear hb2); (try clear hk); (try clear hi); (try clear ho0); have hcz11_0 : w10.cell? ⟨gb324, 0, none⟩ = some (.int .i64 0) := (blk_cell BK324.out 0).trans rfl; have hcz11_1 : w10.cell? ⟨gb324, 1, none⟩ = some (.slice none 0 0) := (blk_cell BK324.out 1).trans rfl; have hfz11_0 := blk_frozen BK324.out 0; have hfz11_1 := blk_frozen BK324.out 1; obtain ⟨Ao12, co12, eo12⟩ := Kd.R_slice HO328.out; subst eo12))
 refine bodyPost_ret (results_cell_row rfl _ _ gb324 25 #[.int .i64 t325, .slice Ao12 t326.length co12] (0, 0) _ rfl (by (with_reducible repeat (first | refine blk_drewN ?_ _ | refine blk_drew ?_ | refine blk_alloc ?_ _)); refine blk_put (cs := #[.int .i64 t325, .slice none 0 0]) ?_ 1 _ rfl; (with_reducible repeat (first | refine blk_drewN ?_ _ | refine blk_drew ?_ | refine blk_alloc ?_ _)); refine blk_put (cs := #[.int .i64 0, .slice none 0 0]) ?_ 0 _ rfl; (with_reducible repeat (first | refine blk_drewN ?_ _ | refine blk_drew ?_ | refine blk_alloc ?_ _)); exact BK324.out) Tryd.underlying25 rfl (by kernel_rfl)) rfl ?_
 exact ⟨_, by first | rfl | (simp [errW_none, errW_some] <;> rfl) | (simp [*, errW_none, errW_some] <;> rfl), by (with_reducible repeat (first | apply Kd.R_alloc | apply Kd.R_drewN | apply Kd.R_drew)); exact Kd.R_mono (Kd.R_far (p := ⟨gb324, 1, none⟩) (Kd.R_far (p := ⟨gb324, 0, none⟩) (Kd.R_types HO328.out BK324.out (by decide)) (fun _ hk => hk.2) (.int .i64 t325)) (fun _ hk => hk.2) (.slice Ao12 t326.length co12)) (fun _ hk => trivial), pb HB⟩

/-! ### matrix_each_int_79: function 77 -/
def matrix_each_int_79.l0 : Nat → List Int → Int → Int → Unit → Int → List (S25) → Int → List (S25) → Option (Int × (List (S25)))
 | 0, _, _, _, _, _, _, _, _ => none
 | k + 1, x12, x13, x14, x330000, x331000, x331001, x333000, x333001 => if x14 < x13 then (if 0 ≤ x14 then (if x14 < (x12.length : Int) then ((matrix_Turn_1.f k (rd x12 x14) x330000 x331000 x331001).bind fun bt334 => (if x333001.length < 4398046511104 then (matrix_each_int_79.l0 k x12 x13 (wrap64 (x14 + 1)) x330000 x331000 x331001 x333000 (x333001 ++ [(⟨bt334.1, bt334.2⟩ : S25)])) else (none))) else (none)) else (none)) else (some (x333000, x333001))
def matrix_each_int_79.f (k : Nat) (a0 : Int) (l1 : List Int)  (a3_0 : Unit) (a4_0 : Int) (l4_1 : List (S25)) : Option (Int × (List (S25))) := matrix_each_int_79.l0 k l1 (l1.length : Int) 0 a3_0 a4_0 l4_1 a0 ([] : List (S25))
theorem matrix_each_int_79.mono_l : ∀ k, (∀ y0 y1 y2 y3 y4 y5 y6 y7, LeO (matrix_each_int_79.l0 k y0 y1 y2 y3 y4 y5 y6 y7) (matrix_each_int_79.l0 (k + 1) y0 y1 y2 y3 y4 y5 y6 y7))
 | 0 => fun _ _ _ _ _ _ _ _ r h => by simp [matrix_each_int_79.l0] at h
 | k + 1 => by
  have ih0 := matrix_each_int_79.mono_l k
  ·
   intro y0 y1 y2 y3 y4 y5 y6 y7
   unfold matrix_each_int_79.l0
   repeat' first
   | (with_reducible exact ih0 _ _ _ _ _ _ _ _)
   | (with_reducible exact matrix_Turn_1.mono _ _ _ _ _)
   | (with_reducible exact LeO.refl _)
   | (with_reducible exact LeO.none _)
   | (with_reducible refine LeO.ite ?_ ?_)
   | (with_reducible refine LeO.bind ?_ (fun _ => ?_))
   | exact ih0 _ _ _ _ _ _ _ _
   | exact matrix_Turn_1.mono _ _ _ _ _
   | exact LeO.none _
   | refine LeO.ite ?_ ?_
   | refine LeO.bind ?_ (fun _ => ?_)
theorem matrix_each_int_79.mono : ∀ a0 a1 a2 a3 a4 k, LeO (matrix_each_int_79.f k a0 a1 a2 a3 a4) (matrix_each_int_79.f (k + 1) a0 a1 a2 a3 a4) := by
 intro a0 a1 a2 a3 a4 k
 have ih0 := matrix_each_int_79.mono_l k
 unfold matrix_each_int_79.f
 repeat' first
   | (with_reducible exact ih0 _ _ _ _ _ _ _ _)
   | (with_reducible exact matrix_Turn_1.mono _ _ _ _ _)
   | (with_reducible exact LeO.refl _)
   | (with_reducible exact LeO.none _)
   | (with_reducible refine LeO.ite ?_ ?_)
   | (with_reducible refine LeO.bind ?_ (fun _ => ?_))
   | exact ih0 _ _ _ _ _ _ _ _
   | exact matrix_Turn_1.mono _ _ _ _ _
   | exact LeO.none _
   | refine LeO.ite ?_ ?_
   | refine LeO.bind ?_ (fun _ => ?_)
def matrix_each_int_79.T5 : Bool × List (List Nat × List Nat) := (true, [([], []), ([0], [0]), ([], []), ([], []), ([2, 3], [2, 3]), ([4], [4]), ([1, 5, 4], [1, 5]), ([0, 1, 2, 3, 4, 5, 6], []), ([7, 6, 6, 0, 1, 2, 3, 4, 5, 6], [6, 7])])
def matrix_each_int_79.B5 : List Nat := [0, 1, 0, 0, 12, 28, 63, 127, 255]
theorem matrix_each_int_79.tab5 : rtab .any (opsOf Tryd.f77 5) = matrix_each_int_79.T5 := by kernel_rfl
theorem matrix_each_int_79.bits5 : waitsOk matrix_each_int_79.T5.2 matrix_each_int_79.B5 = true := by kernel_rfl
set_option maxHeartbeats 8000000 in
set_option maxRecDepth 100000 in
theorem matrix_each_int_79.calls (k : Nat) (a0 : Int) (A1 : Option Addr) (c1 : Nat) (l1 : List Int)  (gb3_ : Nat) (a3_0 : Unit) (gb4_ : Nat) (a4_0 : Int) (A4_1 : Option Addr) (c4_1 : Nat) (l4_1 : List (S25)) (r1 : Int) (r2 : List (S25)) (w : World) (hr1 : Kd.C (Kd.int .i64) w A1 l1.length l1) (hc1 : l1.length ≤ c1) (hb3_ : w.heap[gb3_]? = some (.cells #[.func (.func 76) #[] #[]] 100 (0, 0))) (hb4_ : w.heap[gb4_]? = some (.cells #[.int .i64 a4_0, .slice A4_1 l4_1.length c4_1] 55 (0, 0))) (hr4_1 : Kd.C k25 w A4_1 l4_1.length l4_1) (hc4_1 : l4_1.length ≤ c4_1) (h : matrix_each_int_79.f k a0 l1 a3_0 a4_0 l4_1 = some (r1, r2)) :
  Calls Tryd.prog 77 #[.int .i64 a0, .slice A1 l1.length c1, (.func (.func 79) #[] #[.pointer (some ⟨gb3_, 0, none⟩), .pointer (some ⟨gb4_, 0, none⟩)])] w fun e w' => ∃ v1_ : Value, e = .returned (.agg #[.int .i64 r1, v1_]) ∧ Kd.S k25 25 w' w.heap.size (fun _ => True) v1_ r2 ∧ Below w.heap.size w w' := by
 have hu55 := Tryd.underlying55
 have HR1 := Aside0.mk hr1
 have HC1 := Aside0.mk hc1
 clear hr1 hc1
 have HR4_1 := Aside0.mk hr4_1
 have HC4_1 := Aside0.mk hc4_1
 clear hr4_1 hc4_1
 have BK329 := Aside0.mk hb3_
 clear hb3_
 have BK330 := Aside0.mk hb4_
 clear hb4_
 have HB := am (Below.refl w.heap.size w)
 have H : (matrix_each_int_79.l0 k l1 (l1.length : Int) 0 a3_0 a4_0 l4_1 a0 ([] : List (S25))) = some (r1, r2) := h
 clear h
 have H' := Aside0.mk H
 clear H
 go_enter Tryd.func77, Tryd.ntmps77
 go_wp2_with (first | ((with_reducible refine gate_dst (N := 6) rfl ?_); refine box_event ?hg (N := 6) ?hd (cs := #[.int .i64 0, .slice none 0 0]) (t := 55) ?hr ?_; (case hd => rfl); (case hg => rfl); (case hr => first | (go_simp; done) | (go_simp; rfl)); intro gb331 hg w6 hbox hb; have n0_ := am (blk_below (g := gb3_) (o := .cells #[.func (.func 76) #[] #[]] 100 (0, 0)) (pk BK329) hb); have n1_ := am (blk_below (g := gb4_) (o := .cells #[.int .i64 a4_0, .slice A4_1 l4_1.length c4_1] 55 (0, 0)) (pk BK330) hb); have n2_ := am (below_step (pb HB) hb); have n3_ := am (hbox); have n4_ := am ((by rw [hg]; exact (below_size (pb HB)) : w.heap.size ≤ gb331)); have n5_ := am ((by rw [hg]; exact (below_size (pb HB)) : w.heap.size ≤ gb331)); have n6_ := am ((by rw [hg]; exact Nat.ne_of_lt (blk_lt (g := gb3_) (o := .cells #[.func (.func 76) #[] #[]] 100 (0, 0)) (pk BK329)) : gb3_ ≠ gb331)); have n7_ := am ((by rw [hg]; exact Nat.ne_of_gt (blk_lt (g := gb3_) (o := .cells #[.func (.func 76) #[] #[]] 100 (0, 0)) (pk BK329)) : gb331 ≠ gb3_)); have n8_ := am ((by rw [hg]; exact Nat.ne_of_lt (blk_lt (g := gb4_) (o := .cells #[.int .i64 a4_0, .slice A4_1 l4_1.length c4_1] 55 (0, 0)) (pk BK330)) : gb4_ ≠ gb331)); have n9_ := am ((by rw [hg]; exact Nat.ne_of_gt (blk_lt (g := gb4_) (o := .cells #[.int .i64 a4_0, .slice A4_1 l4_1.length c4_1] 55 (0, 0)) (pk BK330)) : gb331 ≠ gb4_)); clear BK329 BK330 HB; have BK329 := n0_; have BK330 := n1_; have HB := n2_; have BK331 := n3_; have GW331 := n4_; have GE331 := n5_; have NB329_331 := n6_; have NB331_329 := n7_; have NB330_331 := n8_; have NB331_330 := n9_; clear n0_ n1_ n2_ n3_ n4_ n5_ n6_ n7_ n8_ n9_ hb hbox hg) | ((with_reducible refine gate_dst (N := 7) rfl ?_); refine box_event ?hg (N := 7) ?hd (cs := #[.int .i64 0, .slice none 0 0]) (t := 55) ?hr ?_; (case hd => rfl); (case hg => rfl); (case hr => first | (go_simp; done) | (go_simp; rfl)); intro gb332 hg w7 hbox hb; have n0_ := am (blk_below (g := gb3_) (o := .cells #[.func (.func 76) #[] #[]] 100 (0, 0)) (pk BK329) hb); have n1_ := am (blk_below (g := gb4_) (o := .cells #[.int .i64 a4_0, .slice A4_1 l4_1.length c4_1] 55 (0, 0)) (pk BK330) hb); have n2_ := bb BK331 hb; have n3_ := am (below_step (pb HB) hb); have n4_ := am (hbox); have n5_ := am ((by rw [hg]; exact (below_size (pb HB)) : w.heap.size ≤ gb332)); have n6_ := am ((by rw [hg]; exact (below_size (pb HB)) : w.heap.size ≤ gb332)); have n7_ := am ((by rw [hg]; exact Nat.ne_of_lt (blk_lt (g := gb3_) (o := .cells #[.func (.func 76) #[] #[]] 100 (0, 0)) (pk BK329)) : gb3_ ≠ gb332)); have n8_ := am ((by rw [hg]; exact Nat.ne_of_gt (blk_lt (g := gb3_) (o := .cells #[.func (.func 76) #[] #[]] 100 (0, 0)) (pk BK329)) : gb332 ≠ gb3_)); have n9_ := am ((by rw [hg]; exact Nat.ne_of_lt (blk_lt (g := gb4_) (o := .cells #[.int .i64 a4_0, .slice A4_1 l4_1.length c4_1] 55 (0, 0)) (pk BK330)) : gb4_ ≠ gb332)); have n10_ := am ((by rw [hg]; exact Nat.ne_of_gt (blk_lt (g := gb4_) (o := .cells #[.int .i64 a4_0, .slice A4_1 l4_1.length c4_1] 55 (0, 0)) (pk BK330)) : gb332 ≠ gb4_)); have n11_ := am ((by rw [hg]; exact Nat.ne_of_lt (bl BK331) : gb331 ≠ gb332)); have n12_ := am ((by rw [hg]; exact Nat.ne_of_gt (bl BK331) : gb332 ≠ gb331)); clear BK329 BK330 BK331 HB; have BK329 := n0_; have BK330 := n1_; have BK331 := n2_; have HB := n3_; have BK332 := n4_; have GW332 := n5_; have GE332 := n6_; have NB329_332 := n7_; have NB332_329 := n8_; have NB330_332 := n9_; have NB332_330 := n10_; have NB331_332 := n11_; have NB332_331 := n12_; clear n0_ n1_ n2_ n3_ n4_ n5_ n6_ n7_ n8_ n9_ n10_ n11_ n12_ hb hbox hg; have hnb8 := NB332_329.out; have hnc8 := NB329_332.out; have hnb9 := NB332_330.out; have hnc9 := NB330_332.out; have hnb10 := NB332_331.out; have hnc10 := NB331_332.out; have hcz11_0 : w7.cell? ⟨gb332, 0, none⟩ = some (.int .i64 0) := (blk_cell BK332.out 0).trans rfl; have hcz11_1 : w7.cell? ⟨gb332, 1, none⟩ = some (.slice none 0 0) := (blk_cell BK332.out 1).trans rfl; have hfz11_0 := blk_frozen BK332.out 0; have hfz11_1 := blk_frozen BK332.out 1))
 go_loopg [14] k (fun kq v14 w' => ∃ (x14_1 : Int) (x333001_1 : List (S25)) (u333001 : Value), v14 = .int .i64 x14_1 ∧ Aside0 (matrix_each_int_79.l0 kq l1 (l1.length : Int) x14_1 a3_0 a4_0 l4_1 a0 x333001_1 = some (r1, r2)) ∧ Aside0 (kq ≤ k) ∧ Aside0 (Kd.S k25 25 w' w.heap.size (fun _ => True) u333001 x333001_1) ∧ Aside0 (w'.heap[gb3_]? = some (.cells #[.func (.func 76) #[] #[]] 100 (0, 0))) ∧ Aside0 (w'.heap[gb4_]? = some (.cells #[.int .i64 a4_0, (.slice A4_1 l4_1.length c4_1)] 55 (0, 0))) ∧ Aside0 (w'.heap[gb331]? = some (.cells #[.int .i64 0, (.slice none 0 0)] 55 (0, 0))) ∧ Aside0 (w'.heap[gb332]? = some (.cells #[.int .i64 a0, u333001] 55 (0, 0))) ∧ Aside0 (Below w.heap.size w w'))
 case atStart => exact ⟨(0), (([] : List (S25))), (.slice none 0 0), (by first | rfl | (simp; done) | (simp [*]; done)), H', ⟨Nat.le_refl _⟩, ⟨by first | exact Kd.S_nil _ _ _ _ _ | exact Kd.N_nil _ _ _ _ _ | exact Kd.V_nil _ _ _ _ _ | exact Kd.Q_nil _ _ _ _ _ | exact Kd.R_nil _ _ _ _ _⟩, ⟨by (with_reducible repeat (first | refine blk_drewN ?_ _ | refine blk_drew ?_ | refine blk_alloc ?_ _)); refine blk_far ?_ NB329_332.out _; (with_reducible repeat (first | refine blk_drewN ?_ _ | refine blk_drew ?_ | refine blk_alloc ?_ _)); refine blk_far ?_ NB329_332.out _; (with_reducible repeat (first | refine blk_drewN ?_ _ | refine blk_drew ?_ | refine blk_alloc ?_ _)); exact BK329.out⟩, ⟨by (with_reducible repeat (first | refine blk_drewN ?_ _ | refine blk_drew ?_ | refine blk_alloc ?_ _)); refine blk_far ?_ NB330_332.out _; (with_reducible repeat (first | refine blk_drewN ?_ _ | refine blk_drew ?_ | refine blk_alloc ?_ _)); refine blk_far ?_ NB330_332.out _; (with_reducible repeat (first | refine blk_drewN ?_ _ | refine blk_drew ?_ | refine blk_alloc ?_ _)); exact BK330.out⟩, ⟨by (with_reducible repeat (first | refine blk_drewN ?_ _ | refine blk_drew ?_ | refine blk_alloc ?_ _)); refine blk_far ?_ NB331_332.out _; (with_reducible repeat (first | refine blk_drewN ?_ _ | refine blk_drew ?_ | refine blk_alloc ?_ _)); refine blk_far ?_ NB331_332.out _; (with_reducible repeat (first | refine blk_drewN ?_ _ | refine blk_drew ?_ | refine blk_alloc ?_ _)); exact BK331.out⟩, ⟨by (with_reducible repeat (first | refine blk_drewN ?_ _ | refine blk_drew ?_ | refine blk_alloc ?_ _)); refine blk_put (cs := #[.int .i64 a0, .slice none 0 0]) ?_ 1 _ rfl; (with_reducible repeat (first | refine blk_drewN ?_ _ | refine blk_drew ?_ | refine blk_alloc ?_ _)); refine blk_put (cs := #[.int .i64 0, .slice none 0 0]) ?_ 0 _ rfl; (with_reducible repeat (first | refine blk_drewN ?_ _ | refine blk_drew ?_ | refine blk_alloc ?_ _)); exact BK332.out⟩, ⟨pb HB⟩⟩
 case round =>
  clear H'
  try clear c1
  try clear p2
  try clear c4
  try clear c8
  try clear c9
  try clear c10
  try clear hcz11_0
  try clear hcz11_1
  try clear hfz11_0
  try clear hfz11_1
  obtain ⟨x14_1, x333001_1, u333001, rfl, HA, HK1, HO_333001, BK329, BK330, BK331, BK332, HB⟩ := hrel
  cases gk with
  | zero => exact absurd HA.out (by simp [matrix_each_int_79.l0])
  | succ k1 =>
   have H := HA.out
   clear HA
   simp only [matrix_each_int_79.l0] at H
   by_cases c12 : x14_1 < (l1.length : Int)
   ·
    rw [if_pos c12] at H
    have c12b0 : decide (x14_1 < (l1.length : Int)) = true := decide_eq_true c12
    clear c12
    by_cases c13 : 0 ≤ x14_1
    ·
     rw [if_pos c13] at H
     have c13b0 : decide (0 ≤ x14_1) = true := decide_eq_true c13
     clear c13
     by_cases c14 : x14_1 < (l1.length : Int)
     ·
      rw [if_pos c14] at H
      have c14b0 : decide (x14_1 < (l1.length : Int)) = true := decide_eq_true c14
      clear c14
      replace H := Option.bind_eq_some_iff.mp H
      obtain ⟨⟨t334, t335⟩, A150, H⟩ := H
      replace H : (if x333001_1.length < 4398046511104 then (matrix_each_int_79.l0 k1 l1 (l1.length : Int) (wrap64 (x14_1 + 1)) a3_0 a4_0 l4_1 a0 (x333001_1 ++ [(⟨t334, t335⟩ : S25)])) else (none)) = some (r1, r2) := H
      have A15 := Aside0.mk A150
      clear A150
      by_cases c16 : x333001_1.length < 4398046511104
      ·
       rw [if_pos c16] at H
       have LMc16 := Aside0.mk c16
       clear c16
       obtain ⟨y338, hy338⟩ : ∃ y_ : List (S25), y_ = (x333001_1 ++ [(⟨t334, t335⟩ : S25)]) := ⟨_, rfl⟩
       replace H : (matrix_each_int_79.l0 k1 l1 (l1.length : Int) (wrap64 (x14_1 + 1)) a3_0 a4_0 l4_1 a0 y338) = some (r1, r2) := by first | (rw [hy338]; with_reducible exact H) | (have H2_ := (Option.bind_some _ _).symm.trans H; rw [hy338]; with_reducible exact H2_) | (have H2_ := (Option.bind_some _ _).symm.trans H; with_reducible exact H2_) | with_reducible exact H | (rw [hy338]; exact H) | exact H
       have Ny338 := Aside0.mk hy338
       clear hy338
       have H' := Aside0.mk H
       clear H
       have p333 : 0 ≤ (x14_1 : Int) := of_decide_eq_true (by first | (with_reducible assumption) | assumption)
       have q333 : x14_1 < (l1.length : Int) := of_decide_eq_true (by first | (with_reducible assumption) | assumption)
       obtain ⟨ad333, e333, hx333_0⟩ := Kd.at_int HR1.out x14_1 p333 q333
       cases e333
       replace hx333_0 := (HB.out.cell (World.block_lt_of_cell? w _ hx333_0)).trans hx333_0
       replace p333 := eq_true p333
       replace q333 := eq_true q333
       try go_wp2
       have n0_ := am (Kd.S_drew HO_333001.out)
       have n1_ := am (blk_drew BK329.out)
       have n2_ := am (blk_drew BK330.out)
       have n3_ := am (blk_drew BK331.out)
       have n4_ := am (blk_drew BK332.out)
       have n5_ := am (below_drew1 HB.out)
       clear HO_333001
       clear BK329
       clear BK330
       clear BK331
       clear BK332
       clear HB
       have HO_333001 := n0_
       have BK329 := n1_
       have BK330 := n2_
       have BK331 := n3_
       have BK332 := n4_
       have HB := n5_
       clear n0_ n1_ n2_ n3_ n4_ n5_
       refine start_ (n := 9) (S := fun w' => w'.cell? ⟨gb332, 0, none⟩ = some (.int .i64 a0) ∧ w'.cell? ⟨gb332, 1, none⟩ = some (u333001)) (ds := [8]) #[F, F, F, F, F, F, F, F, F] (by kernel_rfl) rfl rfl ⟨(blk_cell BK332.out 0).trans rfl, (blk_cell BK332.out 1).trans rfl⟩ (fun hHeld => ?_); refine with_tabW matrix_each_int_79.tab5 matrix_each_int_79.bits5 (fun HT_ HW_ => ?_)
       generalize wr.drew = w17 at HO_333001 BK329 BK330 BK331 BK332 HB hHeld ⊢
       refine pure_ (i := 0) (N := some 18) (v := ?_) (a' := ?_) #[T, F, F, F, F, F, F, F, F] rfl rfl (any_of HT_.out (by kernel_rfl)) (fun _ _ _ h => h) (Or.inl ⟨by rfl, ?_⟩) ?_ ?_
       rotate_left
       ·
        intro w'
        go_simp
        with_reducible rfl
       rotate_left
       ·
        simp only [Act.put, q1, q2, q3, i64_w, i32_w]
        rfl
       refine pure_ (i := 2) (N := some 20) (v := ?_) (a' := ?_) #[T, F, T, F, F, F, F, F, F] rfl rfl (any_of HT_.out (by kernel_rfl)) (fun _ _ _ h => h) (Or.inl ⟨by rfl, ?_⟩) ?_ ?_
       rotate_left
       ·
        intro w'
        go_simp
        with_reducible rfl
       rotate_left
       ·
        simp only [Act.put, q1, q2, q3, i64_w, i32_w]
        rfl
       refine pure_ (i := 3) (N := some 21) (v := ?_) (a' := ?_) #[T, F, T, T, F, F, F, F, F] rfl rfl (any_of HT_.out (by kernel_rfl)) (fun _ _ _ h => h) (Or.inl ⟨by rfl, ?_⟩) ?_ ?_
       rotate_left
       ·
        intro w'
        go_simp
        with_reducible rfl
       rotate_left
       ·
        simp only [Act.put, q1, q2, q3, i64_w, i32_w]
        rfl
       refine take_ (i := 1) (N := some 19) (v := ?_) (a' := ?_) #[T, T, T, T, F, F, F, F, F] rfl rfl (take_ofW HT_.out HW_.out (by kernel_rfl)) (fun _ _ _ h => h) (Or.inl ⟨by rfl, ?_⟩) hHeld ?_ ?_
       rotate_left
       ·
        rintro w' ⟨s0, s1⟩
        go_simp
        with_reducible rfl
       rotate_left
       ·
        simp only [Act.put, q1, q2, q3, i64_w, i32_w]
        rfl
       refine one_ (i := 4) (N := some 22) #[T, T, T, T, T, F, F, F, F] rfl rfl (one_of HT_.out (by kernel_rfl)) (by decide) (fun K hK => ?_)
       refine goesT_ 20 Tryd.func79 (by kernel_rfl) rfl #[.int .i64 (rd l1 x14_1)] #[.pointer (some ⟨gb3_, 0, none⟩), .pointer (some ⟨gb4_, 0, none⟩)] #[.int .i64 (rd l1 x14_1), .pointer (some ⟨gb3_, 0, none⟩), .pointer (some ⟨gb4_, 0, none⟩)] (by rfl) rfl rfl (by rfl) (by (try simp only [List.map_toArray, List.map_cons, List.map_nil]); first | done | rfl | (simp only [List.length_drop, List.length_take]; rfl)) (by rfl) ?_
       with_reducible refine (matrix_Turn_1.calls k1 (rd l1 x14_1) gb3_ a3_0 gb4_ a4_0 A4_1 c4_1 l4_1 t334 t335 _ ?side1 ?side2 ?side3 ?side4 A15.out).mono ?_
       (case side1 => (with_reducible repeat (first | refine blk_drewN ?_ _ | refine blk_drew ?_ | refine blk_alloc ?_ _)); exact BK329.out)
       (case side2 => (with_reducible repeat (first | refine blk_drewN ?_ _ | refine blk_drew ?_ | refine blk_alloc ?_ _)); exact BK330.out)
       (case side3 => repeat (first | exact (Kd.C_below HR4_1.out HB.out) | (with_reducible refine Kd.C_alloc ?_ _) | (with_reducible refine Kd.C_drewN ?_ _) | (with_reducible refine Kd.C_drew ?_)))
       (case side4 => exact HC4_1.out)
       rintro e w18 ⟨v336, rfl, ho0, hb⟩
       refine ⟨_, rfl, ?_⟩
       have n0_ := am (Kd.S_elder' (by (with_reducible repeat (first | apply Kd.S_alloc | apply Kd.S_drewN | apply Kd.S_drew)); exact HO_333001.out) (Kd.R_base ho0) hb)
       have n1_ := am (Kd.R_lower ho0 (below_size (pb HB)))
       have n2_ := am (blk_below (g := gb3_) (o := .cells #[.func (.func 76) #[] #[]] 100 (0, 0)) (pk BK329) hb)
       have n3_ := am (blk_below (g := gb4_) (o := .cells #[.int .i64 a4_0, .slice A4_1 l4_1.length c4_1] 55 (0, 0)) (pk BK330) hb)
       have n4_ := bb BK331 hb
       have n5_ := bb BK332 hb
       have n6_ := am (below_step (pb HB) hb)
       clear HO_333001
       clear BK329
       clear BK330
       clear BK331
       clear BK332
       clear HB
       have HO_333001 := n0_
       have HO337 := n1_
       have BK329 := n2_
       have BK330 := n3_
       have BK331 := n4_
       have BK332 := n5_
       have HB := n6_
       clear n0_ n1_ n2_ n3_ n4_ n5_ n6_
       (try clear hb)
       (try clear hb2)
       (try clear hk)
       (try clear hi)
       (try clear ho0)
       obtain ⟨Ao20, co20, eo20⟩ := Kd.R_slice HO337.out
       (first | subst eo20 | (injection eo20 with f1_ f2_ f3_; have f4_ := f1_.symm; have f5_ := f3_.symm; clear f1_ f2_ f3_; subst f4_; subst f5_))
       refine hK.out _ _ ⟨(blk_cell BK332.out 0).trans rfl, (blk_cell BK332.out 1).trans rfl⟩ (fun hHeld => ?_)
       clear hK K
       refine norm_ (a' := ?_) ?_ ?_
       rotate_left
       ·
        show Act.put _ (some 22) _ = _
        simp only [Act.put, q1, q2, q3, i64_w, i32_w]
        rfl
       refine one_ (i := 5) (N := some 23) #[T, T, T, T, T, T, F, F, F] rfl rfl (one_of HT_.out (by kernel_rfl)) (by decide) (fun K hK => ?_)
       refine value_ (w1 := ?_) (v := ?_) (by rfl) rfl ?_ ?_
       rotate_left 2
       ·
        go_simp
        constructor
        ·
         rfl
        ·
         rfl
       refine hK.out _ _ ⟨(blk_cell (blk_alloc BK332.out _) 0).trans rfl, (blk_cell (blk_alloc BK332.out _) 1).trans rfl⟩ (fun hHeld => ?_)
       clear hK K
       refine norm_ (a' := ?_) ?_ ?_
       rotate_left
       ·
        show Act.put _ (some 23) _ = _
        simp only [Act.put, q1, q2, q3, i64_w, i32_w]
        rfl
       refine one_ (i := 6) (N := some 24) #[T, T, T, T, T, T, T, F, F] rfl rfl (one_of HT_.out (by kernel_rfl)) (by decide) (fun K hK => ?_)
       refine Kd.S_append_step k25 (w0 := w) w.heap.size (by rfl) (.tmp 19) (.tmp 23) 53 25 (.agg #[(.int .i64 0), (.slice none 0 0)]) 32 rfl Tryd.underlying53 info25 rfl (by decide) (by omega) u333001 x333001_1 (⟨t334, t335⟩ : S25) [.int .i64 t334, .slice Ao20 t335.length co20] (fun _ => True) (fun k_ => some k_ = (.slice Ao20 t335.length co20 : Value).ownBlock) rfl rfl ?aP (fun k_ hk_ => ((Kd.R_mono (ok' := fun k_ => ((fun _ => True)) k_ ∧ some k_ ≠ (u333001 : Value).ownBlock) (Kd.R_apart' (HO337.out) (Kd.S_typed HO_333001.out) (by decide)) (fun k_ hk => ⟨trivial, hk.2⟩))).1 k_ hk_.symm) ?aF ?aO ?aB ?aS ?aL ?_
       (case aP => exact k25_mkM _ _ _ (⟨t334, t335⟩ : S25) (Kd.R_mono (Kd.R_tight rfl (Kd.R_mono (ok' := fun k_ => ((fun _ => True)) k_ ∧ some k_ ≠ (u333001 : Value).ownBlock) (Kd.R_apart' (HO337.out) (Kd.S_typed HO_333001.out) (by decide)) (fun k_ hk => ⟨trivial, hk.2⟩))) (fun _ h_ => h_)))
       (case aB => exact (pb HB))
       (case aF => exact (fun _ _ => trivial))
       (case aO => exact (by (with_reducible repeat (first | apply Kd.S_alloc | apply Kd.S_drewN | apply Kd.S_drew)); exact Kd.S_mono HO_333001.out (fun k_ hk => ⟨trivial, fun e_ => hk.2 e_⟩)))
       (case aS => exact (below_size (pb HB)))
       (case aL => have := LMc16.out; omega)
       intro v339 w19 ho hb hg hat
       rw [← Ny338.out] at ho
       have n0_ := am (blk_grown (g := gb3_) (o := .cells #[.func (.func 76) #[] #[]] 100 (0, 0)) (pk BK329) hg (Kd.S_ne HO_333001.out BK329.out (by decide)))
       have n1_ := am (blk_grown (g := gb4_) (o := .cells #[.int .i64 a4_0, .slice A4_1 l4_1.length c4_1] 55 (0, 0)) (pk BK330) hg (Kd.S_ne HO_333001.out BK330.out (by decide)))
       have n2_ := am (blk_grown (g := gb331) (o := .cells #[.int .i64 0, .slice none 0 0] 55 (0, 0)) (pk BK331) hg (Kd.S_ne HO_333001.out BK331.out (by decide)))
       have n3_ := am (blk_grown (g := gb332) (o := .cells #[.int .i64 a0, u333001] 55 (0, 0)) (pk BK332) hg (Kd.S_ne HO_333001.out BK332.out (by decide)))
       have n4_ := am (hb)
       have n5_ := am (ho)
       clear BK329
       clear BK330
       clear BK331
       clear BK332
       clear HB
       clear HO_333001
       clear HO337
       have BK329 := n0_
       have BK330 := n1_
       have BK331 := n2_
       have BK332 := n3_
       have HB := n4_
       have HO340 := n5_
       clear n0_ n1_ n2_ n3_ n4_ n5_
       clear ho hb hg hat
       obtain ⟨Ao21, co21, eo21⟩ := Kd.S_slice HO340.out
       (first | subst eo21 | (injection eo21 with f1_ f2_ f3_; have f4_ := f1_.symm; have f5_ := f3_.symm; clear f1_ f2_ f3_; subst f4_; subst f5_))
       refine hK.out _ _ ⟨(blk_cell BK332.out 0).trans rfl, (blk_cell BK332.out 1).trans rfl⟩ (fun hHeld => ?_)
       clear hK K
       refine norm_ (a' := ?_) ?_ ?_
       rotate_left
       ·
        show Act.put _ (some 24) _ = _
        simp only [Act.put, q1, q2, q3, i64_w, i32_w]
        rfl
       refine pure_ (i := 7) (N := some 25) (v := ?_) (a' := ?_) #[T, T, T, T, T, T, T, T, F] rfl rfl (any_of HT_.out (by kernel_rfl)) (fun _ _ _ h => h) (Or.inl ⟨by rfl, ?_⟩) ?_ ?_
       rotate_left
       ·
        intro w'
        go_simp
        with_reducible rfl
       rotate_left
       ·
        simp only [Act.put, q1, q2, q3, i64_w, i32_w]
        rfl
       refine last_ (i := 8) (N := none) #[T, T, T, T, T, T, T, T, T] rfl rfl (one_of HT_.out (by kernel_rfl)) (by decide) (fun K hK => ?_)
       have hs22 : w19.cell? ⟨gb332, 1, none⟩ = some (u333001) := (blk_cell BK332.out 1).trans rfl
       have hfs22 := blk_frozen BK332.out 1
       have hns22_0 := NB329_332.out
       have hns22_1 := NB330_332.out
       have hns22_2 := NB331_332.out
       have hms22_0 := NB332_329.out
       have hms22_1 := NB332_330.out
       have hms22_2 := NB332_331.out
       refine skip_ (w1 := ?_) (by rfl) rfl ?_ ?_
       rotate_left
       ·
        go_simp
        rfl
       refine hK.out _ _ ?_
       clear hK K
       refine done_ (done_of HT_.out (by kernel_rfl)) ?_
       try go_wp2
       go_roundg k1
       case measure => have := HK1.out; omega
       case rel => exact ⟨(wrap64 (x14_1 + 1)), (y338), (.slice Ao21 y338.length co21), (by first | rfl | (simp; done) | (simp [*]; done)), H', ⟨by have := HK1.out; omega⟩, ⟨by (with_reducible repeat (first | apply Kd.S_alloc | apply Kd.S_drewN | apply Kd.S_drew)); exact Kd.S_mono (Kd.S_far (p := ⟨gb332, 1, none⟩) (Kd.S_types HO340.out BK332.out (by decide)) (fun _ hk => hk.2) (.slice Ao21 y338.length co21)) (fun _ hk => trivial)⟩, ⟨by (with_reducible repeat (first | refine blk_drewN ?_ _ | refine blk_drew ?_ | refine blk_alloc ?_ _)); refine blk_far ?_ NB329_332.out _; (with_reducible repeat (first | refine blk_drewN ?_ _ | refine blk_drew ?_ | refine blk_alloc ?_ _)); exact BK329.out⟩, ⟨by (with_reducible repeat (first | refine blk_drewN ?_ _ | refine blk_drew ?_ | refine blk_alloc ?_ _)); refine blk_far ?_ NB330_332.out _; (with_reducible repeat (first | refine blk_drewN ?_ _ | refine blk_drew ?_ | refine blk_alloc ?_ _)); exact BK330.out⟩, ⟨by (with_reducible repeat (first | refine blk_drewN ?_ _ | refine blk_drew ?_ | refine blk_alloc ?_ _)); refine blk_far ?_ NB331_332.out _; (with_reducible repeat (first | refine blk_drewN ?_ _ | refine blk_drew ?_ | refine blk_alloc ?_ _)); exact BK331.out⟩, ⟨by (with_reducible repeat (first | refine blk_drewN ?_ _ | refine blk_drew ?_ | refine blk_alloc ?_ _)); refine blk_put (cs := #[.int .i64 a0, u333001]) ?_ 1 _ rfl; (with_reducible repeat (first | refine blk_drewN ?_ _ | refine blk_drew ?_ | refine blk_alloc ?_ _)); exact BK332.out⟩, ⟨pb HB⟩⟩
      ·
       rw [if_neg c16] at H
       exact absurd H (by simp)
     ·
      rw [if_neg c14] at H
      exact absurd H (by simp)
    ·
     rw [if_neg c13] at H
     exact absurd H (by simp)
   ·
    rw [if_neg c12] at H
    have c12b0 : decide (x14_1 < (l1.length : Int)) = false := decide_eq_false c12
    clear c12
    simp only [Option.some.injEq, Prod.mk.injEq] at H
    obtain ⟨rfl, rfl⟩ := H
    have hnb23 := NB332_329.out
    have hnc23 := NB329_332.out
    have hnb24 := NB332_330.out
    have hnc24 := NB330_332.out
    have hnb25 := NB332_331.out
    have hnc25 := NB331_332.out
    have hcz26_0 : wr.cell? ⟨gb332, 0, none⟩ = some (.int .i64 a0) := (blk_cell BK332.out 0).trans rfl
    have hcz26_1 : wr.cell? ⟨gb332, 1, none⟩ = some (u333001) := (blk_cell BK332.out 1).trans rfl
    have hfz26_0 := blk_frozen BK332.out 0
    have hfz26_1 := blk_frozen BK332.out 1
    have hnb27 := NB331_329.out
    have hnc27 := NB329_331.out
    have hnb28 := NB331_330.out
    have hnc28 := NB330_331.out
    have hcz29_0 : wr.cell? ⟨gb331, 0, none⟩ = some (.int .i64 0) := (blk_cell BK331.out 0).trans rfl
    have hcz29_1 : wr.cell? ⟨gb331, 1, none⟩ = some (.slice none 0 0) := (blk_cell BK331.out 1).trans rfl
    have hfz29_0 := blk_frozen BK331.out 0
    have hfz29_1 := blk_frozen BK331.out 1
    obtain ⟨Ao30, co30, eo30⟩ := Kd.S_slice HO_333001.out
    subst eo30
    go_wp2
    refine bodyPost_ret (results_cell_row rfl _ _ gb331 55 #[.int .i64 a0, .slice Ao30 x333001_1.length co30] (0, 0) _ rfl (by (with_reducible repeat (first | refine blk_drewN ?_ _ | refine blk_drew ?_ | refine blk_alloc ?_ _)); refine blk_put (cs := #[.int .i64 a0, .slice none 0 0]) ?_ 1 _ rfl; (with_reducible repeat (first | refine blk_drewN ?_ _ | refine blk_drew ?_ | refine blk_alloc ?_ _)); refine blk_put (cs := #[.int .i64 0, .slice none 0 0]) ?_ 0 _ rfl; (with_reducible repeat (first | refine blk_drewN ?_ _ | refine blk_drew ?_ | refine blk_alloc ?_ _)); exact BK331.out) Tryd.underlying55 rfl (by kernel_rfl)) rfl ?_
    exact ⟨_, by first | rfl | (simp [errW_none, errW_some] <;> rfl) | (simp [*, errW_none, errW_some] <;> rfl), by (with_reducible repeat (first | apply Kd.S_alloc | apply Kd.S_drewN | apply Kd.S_drew)); exact Kd.S_mono (Kd.S_far (p := ⟨gb331, 1, none⟩) (Kd.S_far (p := ⟨gb331, 0, none⟩) (Kd.S_types HO_333001.out BK331.out (by decide)) (fun _ hk => hk.2) (.int .i64 a0)) (fun _ hk => hk.2) (.slice Ao30 x333001_1.length co30)) (fun _ hk => trivial), pb HB⟩

/-! ### matrix_Turn: function 44 -/
def matrix_Turn.f (k : Nat) (a0_0 : Int) (l0_1 : List (S25)) : Option (Int × (List (S25)) × Int) := (matrix_Right.f k a0_0 l0_1).bind fun t343 => (if t343 = true then ((matrix_numbers.f k a0_0).bind fun t345 => ((matrix_each_int_79.f k (l0_1.length : Int) t345 () a0_0 l0_1).bind fun bt348 => (some (bt348.1, bt348.2, 0)))) else (some (0, ([] : List (S25)), 1)))
theorem matrix_Turn.mono : ∀ a0 a1 k, LeO (matrix_Turn.f k a0 a1) (matrix_Turn.f (k + 1) a0 a1) := by
 intro a0 a1 k
 unfold matrix_Turn.f
 repeat' first
   | (with_reducible exact matrix_Right.mono _ _ _)
   | (with_reducible exact matrix_each_int_79.mono _ _ _ _ _ _)
   | (with_reducible exact matrix_numbers.mono _ _)
   | (with_reducible exact LeO.refl _)
   | (with_reducible exact LeO.none _)
   | (with_reducible refine LeO.ite ?_ ?_)
   | (with_reducible refine LeO.bind ?_ (fun _ => ?_))
   | exact matrix_Right.mono _ _ _
   | exact matrix_each_int_79.mono _ _ _ _ _ _
   | exact matrix_numbers.mono _ _
   | exact LeO.none _
   | refine LeO.ite ?_ ?_
   | refine LeO.bind ?_ (fun _ => ?_)
def matrix_Turn.T4 : Bool × List (List Nat × List Nat) := (true, [([], []), ([0], [0]), ([1], [1]), ([], []), ([3], [3]), ([4], [4]), ([], []), ([2, 5, 6, 5], [2, 5, 6]), ([7, 7, 0, 1, 2, 3, 4, 5, 6, 7], [7]), ([8, 0, 1, 2, 3, 4, 5, 6, 7, 8], [])])
def matrix_Turn.B4 : List Nat := [0, 1, 3, 0, 8, 24, 0, 127, 255, 511]
theorem matrix_Turn.tab4 : rtab .any (opsOf Tryd.f44 4) = matrix_Turn.T4 := by kernel_rfl
theorem matrix_Turn.bits4 : waitsOk matrix_Turn.T4.2 matrix_Turn.B4 = true := by kernel_rfl
set_option maxHeartbeats 8000000 in
set_option maxRecDepth 100000 in
theorem matrix_Turn.calls (k : Nat) (a0_0 : Int) (A0_1 : Option Addr) (c0_1 : Nat) (l0_1 : List (S25)) (r1 : Int) (r2 : List (S25)) (r3 : Int) (w : World) (hr0_1 : Kd.C k25 w A0_1 l0_1.length l0_1) (hc0_1 : l0_1.length ≤ c0_1) (h : matrix_Turn.f k a0_0 l0_1 = some (r1, r2, r3)) :
  Calls Tryd.prog 44 #[.agg #[.int .i64 a0_0, .slice A0_1 l0_1.length c0_1]] w fun e w' => ∃ v1_ : Value, e = .returned (.tuple #[.agg #[.int .i64 r1, v1_], .int .i64 r3]) ∧ Kd.S k25 25 w' w.heap.size (fun _ => True) v1_ r2 ∧ Below w.heap.size w w' := by
 have hu55 := Tryd.underlying55
 have HR0_1 := Aside0.mk hr0_1
 have HC0_1 := Aside0.mk hc0_1
 clear hr0_1 hc0_1
 have HB := am (Below.refl w.heap.size w)
 have H : ((matrix_Right.f k a0_0 l0_1).bind fun t343 => (if t343 = true then ((matrix_numbers.f k a0_0).bind fun t345 => ((matrix_each_int_79.f k (l0_1.length : Int) t345 () a0_0 l0_1).bind fun bt348 => (some (bt348.1, bt348.2, 0)))) else (some (0, ([] : List (S25)), 1)))) = some (r1, r2, r3) := h
 clear h
 replace H := Option.bind_eq_some_iff.mp H
 obtain ⟨t343, A20, H⟩ := H
 replace H : (if t343 = true then ((matrix_numbers.f k a0_0).bind fun t345 => ((matrix_each_int_79.f k (l0_1.length : Int) t345 () a0_0 l0_1).bind fun bt348 => (some (bt348.1, bt348.2, 0)))) else (some (0, ([] : List (S25)), 1))) = some (r1, r2, r3) := H
 have A2 := Aside0.mk A20
 clear A20
 by_cases c3 : t343 = true
 ·
  subst c3
  have H1 : ((matrix_numbers.f k a0_0).bind fun t345 => ((matrix_each_int_79.f k (l0_1.length : Int) t345 () a0_0 l0_1).bind fun bt348 => (some (bt348.1, bt348.2, 0)))) = some (r1, r2, r3) := by rw [if_pos rfl] at H; exact H
  clear H
  have H := H1
  clear H1
  replace H := Option.bind_eq_some_iff.mp H
  obtain ⟨t345, A40, H⟩ := H
  replace H : ((matrix_each_int_79.f k (l0_1.length : Int) t345 () a0_0 l0_1).bind fun bt348 => (some (bt348.1, bt348.2, 0))) = some (r1, r2, r3) := H
  have A4 := Aside0.mk A40
  clear A40
  replace H := Option.bind_eq_some_iff.mp H
  obtain ⟨⟨t348, t349⟩, A50, H⟩ := H
  replace H : (some (t348, t349, 0)) = some (r1, r2, r3) := H
  have A5 := Aside0.mk A50
  clear A50
  simp only [Option.some.injEq, Prod.mk.injEq] at H
  obtain ⟨rfl, rfl, rfl⟩ := H
  go_enter Tryd.func44, Tryd.ntmps44
  try go_wp2_with (first | ((with_reducible refine gate_dst (N := 1) rfl ?_); refine box_event ?hg (N := 1) ?hd (cs := #[.int .i64 a0_0, .slice A0_1 l0_1.length c0_1]) (t := 55) ?hr ?_; (case hd => rfl); (case hg => rfl); (case hr => first | (go_simp; done) | (go_simp; rfl)); intro gb341 hg w6 hbox hb; have n0_ := am (below_step (pb HB) hb); have n1_ := am (hbox); have n2_ := am ((by rw [hg]; exact (below_size (pb HB)) : w.heap.size ≤ gb341)); have n3_ := am ((by rw [hg]; exact (below_size (pb HB)) : w.heap.size ≤ gb341)); clear HB; have HB := n0_; have BK341 := n1_; have GW341 := n2_; have GE341 := n3_; clear n0_ n1_ n2_ n3_ hb hbox hg) | ((with_reducible refine gate_dst (N := 2) rfl ?_); refine box_event ?hg (N := 2) ?hd (cs := #[.int .i64 0, .slice none 0 0]) (t := 55) ?hr ?_; (case hd => rfl); (case hg => rfl); (case hr => first | (go_simp; done) | (go_simp; rfl)); intro gb342 hg w7 hbox hb; have n0_ := bb BK341 hb; have n1_ := am (below_step (pb HB) hb); have n2_ := am (hbox); have n3_ := am ((by rw [hg]; exact (below_size (pb HB)) : w.heap.size ≤ gb342)); have n4_ := am ((by rw [hg]; exact (below_size (pb HB)) : w.heap.size ≤ gb342)); have n5_ := am ((by rw [hg]; exact Nat.ne_of_lt (bl BK341) : gb341 ≠ gb342)); have n6_ := am ((by rw [hg]; exact Nat.ne_of_gt (bl BK341) : gb342 ≠ gb341)); clear BK341 HB; have BK341 := n0_; have HB := n1_; have BK342 := n2_; have GW342 := n3_; have GE342 := n4_; have NB341_342 := n5_; have NB342_341 := n6_; clear n0_ n1_ n2_ n3_ n4_ n5_ n6_ hb hbox hg; have hnb8 := NB341_342.out; have hnc8 := NB342_341.out; have hcz9_0 : w7.cell? ⟨gb341, 0, none⟩ = some (.int .i64 a0_0) := (blk_cell BK341.out 0).trans rfl; have hcz9_1 : w7.cell? ⟨gb341, 1, none⟩ = some (.slice A0_1 l0_1.length c0_1) := (blk_cell BK341.out 1).trans rfl; have hfz9_0 := blk_frozen BK341.out 0; have hfz9_1 := blk_frozen BK341.out 1) | ((with_reducible refine gate_callee (f := 71) rfl ?_); refine goesL_ (some 6) rfl rfl Tryd.func71 (by kernel_rfl) rfl #[.agg #[.int .i64 a0_0, .slice A0_1 l0_1.length c0_1]] rfl (by (try simp only [List.map_toArray, List.map_cons, List.map_nil]); first | done | rfl | (simp only [List.length_drop, List.length_take]; rfl)) ?_; (with_reducible refine (matrix_Right.calls k a0_0 _ _ l0_1 true _ ?side1 ?side2 A2.out).mono ?_); (case side1 => repeat (first | exact (Kd.C_below HR0_1.out HB.out) | (with_reducible refine Kd.C_alloc ?_ _) | (with_reducible refine Kd.C_drewN ?_ _) | (with_reducible refine Kd.C_drew ?_))); (case side2 => exact HC0_1.out); rintro e w10 ⟨rfl, hb⟩; refine ⟨_, rfl, ?_⟩; have n0_ := bb BK341 hb; have n1_ := bb BK342 hb; have n2_ := am (below_step (pb HB) hb); clear BK341 BK342 HB; have BK341 := n0_; have BK342 := n1_; have HB := n2_; clear n0_ n1_ n2_; (try clear hb); (try clear hb2); (try clear hk); (try clear hi)) | ((with_reducible refine gate_dst (N := 4) rfl ?_); refine box_event ?hg (N := 4) ?hd (cs := #[.nilFunc]) (t := 100) ?hr ?_; (case hd => rfl); (case hg => rfl); (case hr => first | (go_simp; done) | (go_simp; rfl)); intro gb344 hg w11 hbox hb; have n0_ := bb BK341 hb; have n1_ := bb BK342 hb; have n2_ := am (below_step (pb HB) hb); have n3_ := am (hbox); have n4_ := am ((by rw [hg]; exact (below_size (pb HB)) : w.heap.size ≤ gb344)); have n5_ := am ((by rw [hg]; exact (below_size (pb HB)) : w.heap.size ≤ gb344)); have n6_ := am ((by rw [hg]; exact Nat.ne_of_lt (bl BK341) : gb341 ≠ gb344)); have n7_ := am ((by rw [hg]; exact Nat.ne_of_gt (bl BK341) : gb344 ≠ gb341)); have n8_ := am ((by rw [hg]; exact Nat.ne_of_lt (bl BK342) : gb342 ≠ gb344)); have n9_ := am ((by rw [hg]; exact Nat.ne_of_gt (bl BK342) : gb344 ≠ gb342)); clear BK341 BK342 HB; have BK341 := n0_; have BK342 := n1_; have HB := n2_; have BK344 := n3_; have GW344 := n4_; have GE344 := n5_; have NB341_344 := n6_; have NB344_341 := n7_; have NB342_344 := n8_; have NB344_342 := n9_; clear n0_ n1_ n2_ n3_ n4_ n5_ n6_ n7_ n8_ n9_ hb hbox hg; have hnb12 := NB344_341.out; have hnc12 := NB341_344.out; have hnb13 := NB344_342.out; have hnc13 := NB342_344.out; have hcz14_0 : w11.cell? ⟨gb344, 0, none⟩ = some (.nilFunc) := (blk_cell BK344.out 0).trans rfl; have hfz14_0 := blk_frozen BK344.out 0))
  have n0_ : Aside0 ((w11.setCell ⟨gb344, 0, none⟩ (.func (.func 76) #[] #[])).heap[gb341]? = some (.cells #[.int .i64 a0_0, .slice A0_1 l0_1.length c0_1] 55 (0, 0))) := ⟨by (with_reducible repeat (first | refine blk_drewN ?_ _ | refine blk_drew ?_ | refine blk_alloc ?_ _)); refine blk_far ?_ NB341_344.out _; (with_reducible repeat (first | refine blk_drewN ?_ _ | refine blk_drew ?_ | refine blk_alloc ?_ _)); exact BK341.out⟩
  have n1_ : Aside0 ((w11.setCell ⟨gb344, 0, none⟩ (.func (.func 76) #[] #[])).heap[gb342]? = some (.cells #[.int .i64 0, .slice none 0 0] 55 (0, 0))) := ⟨by (with_reducible repeat (first | refine blk_drewN ?_ _ | refine blk_drew ?_ | refine blk_alloc ?_ _)); refine blk_far ?_ NB342_344.out _; (with_reducible repeat (first | refine blk_drewN ?_ _ | refine blk_drew ?_ | refine blk_alloc ?_ _)); exact BK342.out⟩
  have n2_ : Aside0 ((w11.setCell ⟨gb344, 0, none⟩ (.func (.func 76) #[] #[])).heap[gb344]? = some (.cells #[.func (.func 76) #[] #[]] 100 (0, 0))) := ⟨by (with_reducible repeat (first | refine blk_drewN ?_ _ | refine blk_drew ?_ | refine blk_alloc ?_ _)); refine blk_put (cs := #[.nilFunc]) ?_ 0 _ rfl; (with_reducible repeat (first | refine blk_drewN ?_ _ | refine blk_drew ?_ | refine blk_alloc ?_ _)); exact BK344.out⟩
  have n3_ : Aside0 (Below w.heap.size w (w11.setCell ⟨gb344, 0, none⟩ (.func (.func 76) #[] #[]))) := ⟨pb HB⟩
  (try clear BK341)
  (try clear BK342)
  (try clear BK344)
  (try clear HB)
  generalize (w11.setCell ⟨gb344, 0, none⟩ (.func (.func 76) #[] #[])) = w15 at n0_ n1_ n2_ n3_ ⊢
  have BK341 := n0_
  have BK342 := n1_
  have BK344 := n2_
  have HB := n3_
  clear n0_ n1_ n2_ n3_
  have n0_ := am (blk_drew BK341.out)
  have n1_ := am (blk_drew BK342.out)
  have n2_ := am (blk_drew BK344.out)
  have n3_ := am (below_drew1 HB.out)
  clear BK341
  clear BK342
  clear BK344
  clear HB
  have BK341 := n0_
  have BK342 := n1_
  have BK344 := n2_
  have HB := n3_
  clear n0_ n1_ n2_ n3_
  refine start_ (n := 10) (S := fun w' => w'.cell? ⟨gb341, 0, none⟩ = some (.int .i64 a0_0) ∧ w'.cell? ⟨gb341, 1, none⟩ = some (.slice A0_1 l0_1.length c0_1)) (ds := []) #[F, F, F, F, F, F, F, F, F, F] (by kernel_rfl) rfl rfl ⟨(blk_cell BK341.out 0).trans rfl, (blk_cell BK341.out 1).trans rfl⟩ (fun hHeld => ?_); refine with_tabW matrix_Turn.tab4 matrix_Turn.bits4 (fun HT_ HW_ => ?_)
  generalize w15.drew = w16 at BK341 BK342 BK344 HB hHeld ⊢
  refine pure_ (i := 0) (N := some 9) (v := ?_) (a' := ?_) #[T, F, F, F, F, F, F, F, F, F] rfl rfl (any_of HT_.out (by kernel_rfl)) (fun _ _ _ h => h) (Or.inl ⟨by rfl, ?_⟩) ?_ ?_
  rotate_left
  ·
   intro w'
   go_simp
   with_reducible rfl
  rotate_left
  ·
   simp only [Act.put, q1, q2, q3, i64_w, i32_w]
   rfl
  refine pure_ (i := 3) (N := some 12) (v := ?_) (a' := ?_) #[T, F, F, T, F, F, F, F, F, F] rfl rfl (any_of HT_.out (by kernel_rfl)) (fun _ _ _ h => h) (Or.inl ⟨by rfl, ?_⟩) ?_ ?_
  rotate_left
  ·
   intro w'
   go_simp
   with_reducible rfl
  rotate_left
  ·
   simp only [Act.put, q1, q2, q3, i64_w, i32_w]
   rfl
  refine pure_ (i := 6) (N := some 15) (v := ?_) (a' := ?_) #[T, F, F, T, F, F, T, F, F, F] rfl rfl (any_of HT_.out (by kernel_rfl)) (fun _ _ _ h => h) (Or.inl ⟨by rfl, ?_⟩) ?_ ?_
  rotate_left
  ·
   intro w'
   go_simp
   with_reducible rfl
  rotate_left
  ·
   simp only [Act.put, q1, q2, q3, i64_w, i32_w]
   rfl
  refine take_ (i := 1) (N := some 10) (v := ?_) (a' := ?_) #[T, T, F, T, F, F, T, F, F, F] rfl rfl (take_ofW HT_.out HW_.out (by kernel_rfl)) (fun _ _ _ h => h) (Or.inl ⟨by rfl, ?_⟩) hHeld ?_ ?_
  rotate_left
  ·
   rintro w' ⟨s0, s1⟩
   go_simp
   with_reducible rfl
  rotate_left
  ·
   simp only [Act.put, q1, q2, q3, i64_w, i32_w]
   rfl
  refine pure_ (i := 2) (N := some 11) (v := ?_) (a' := ?_) #[T, T, T, T, F, F, T, F, F, F] rfl rfl (any_of HT_.out (by kernel_rfl)) (fun _ _ _ h => h) (Or.inl ⟨by rfl, ?_⟩) ?_ ?_
  rotate_left
  ·
   intro w'
   go_simp
   with_reducible rfl
  rotate_left
  ·
   simp only [Act.put, q1, q2, q3, i64_w, i32_w]
   rfl
  refine take_ (i := 4) (N := some 13) (v := ?_) (a' := ?_) #[T, T, T, T, T, F, T, F, F, F] rfl rfl (take_ofW HT_.out HW_.out (by kernel_rfl)) (fun _ _ _ h => h) (Or.inl ⟨by rfl, ?_⟩) hHeld ?_ ?_
  rotate_left
  ·
   rintro w' ⟨s0, s1⟩
   go_simp
   with_reducible rfl
  rotate_left
  ·
   simp only [Act.put, q1, q2, q3, i64_w, i32_w]
   rfl
  refine one_ (i := 5) (N := some 14) #[T, T, T, T, T, T, T, F, F, F] rfl rfl (one_of HT_.out (by kernel_rfl)) (by decide) (fun K hK => ?_)
  refine goes_ Tryd.func78 (by kernel_rfl) rfl #[.int .i64 a0_0] (by rfl) rfl rfl (by (try simp only [List.map_toArray, List.map_cons, List.map_nil]); first | done | rfl | (simp only [List.length_drop, List.length_take]; rfl)) ?_
  with_reducible refine (matrix_numbers.calls k a0_0 t345 _ A4.out).mono ?_
  rintro e w17 ⟨v346, rfl, ho0, hb⟩
  refine ⟨_, rfl, ?_⟩
  have n0_ := am (Kd.R_lower ho0 (below_size (pb HB)))
  have n1_ := bb BK341 hb
  have n2_ := bb BK342 hb
  have n3_ := bb BK344 hb
  have n4_ := am (below_step (pb HB) hb)
  clear BK341
  clear BK342
  clear BK344
  clear HB
  have HO347 := n0_
  have BK341 := n1_
  have BK342 := n2_
  have BK344 := n3_
  have HB := n4_
  clear n0_ n1_ n2_ n3_ n4_
  (try clear hb)
  (try clear hb2)
  (try clear hk)
  (try clear hi)
  (try clear ho0)
  obtain ⟨Ao18, co18, eo18⟩ := Kd.R_slice HO347.out
  (first | subst eo18 | (injection eo18 with f1_ f2_ f3_; have f4_ := f1_.symm; have f5_ := f3_.symm; clear f1_ f2_ f3_; subst f4_; subst f5_))
  refine hK.out _ _ ⟨(blk_cell BK341.out 0).trans rfl, (blk_cell BK341.out 1).trans rfl⟩ (fun hHeld => ?_)
  clear hK K
  refine norm_ (a' := ?_) ?_ ?_
  rotate_left
  ·
   show Act.put _ (some 14) _ = _
   simp only [Act.put, q1, q2, q3, i64_w, i32_w]
   rfl
  refine one_ (i := 7) (N := some 16) #[T, T, T, T, T, T, T, T, F, F] rfl rfl (one_of HT_.out (by kernel_rfl)) (by decide) (fun K hK => ?_)
  refine goes_ Tryd.func77 (by kernel_rfl) rfl #[.int .i64 (l0_1.length : Int), .slice Ao18 t345.length co18, (.func (.func 79) #[] #[.pointer (some ⟨gb344, 0, none⟩), .pointer (some ⟨gb341, 0, none⟩)])] (by rfl) rfl rfl (by (try simp only [List.map_toArray, List.map_cons, List.map_nil]); first | done | rfl | (simp only [List.length_drop, List.length_take]; rfl)) ?_
  with_reducible refine (matrix_each_int_79.calls k (l0_1.length : Int) _ _ t345  gb344 () gb341 a0_0 A0_1 c0_1 l0_1 t348 t349 _ ?side1 ?side2 ?side3 ?side4 ?side5 ?side6 A5.out).mono ?_
  (case side1 => repeat (first | exact (Kd.R_reads' HO347.out).2.2 | (with_reducible refine Kd.C_alloc ?_ _) | (with_reducible refine Kd.C_drewN ?_ _) | (with_reducible refine Kd.C_drew ?_)))
  (case side2 => exact (Kd.R_reads' HO347.out).2.1)
  (case side3 => (with_reducible repeat (first | refine blk_drewN ?_ _ | refine blk_drew ?_ | refine blk_alloc ?_ _)); exact BK344.out)
  (case side4 => (with_reducible repeat (first | refine blk_drewN ?_ _ | refine blk_drew ?_ | refine blk_alloc ?_ _)); exact BK341.out)
  (case side5 => repeat (first | exact (Kd.C_below HR0_1.out HB.out) | (with_reducible refine Kd.C_alloc ?_ _) | (with_reducible refine Kd.C_drewN ?_ _) | (with_reducible refine Kd.C_drew ?_)))
  (case side6 => exact HC0_1.out)
  rintro e w19 ⟨v350, rfl, ho0, hb⟩
  refine ⟨_, rfl, ?_⟩
  have n0_ := am (Kd.R_below (pr HO347) hb)
  have n1_ := am (Kd.S_lower ho0 (below_size (pb HB)))
  have n2_ := bb BK341 hb
  have n3_ := bb BK342 hb
  have n4_ := bb BK344 hb
  have n5_ := am (below_step (pb HB) hb)
  clear HO347
  clear BK341
  clear BK342
  clear BK344
  clear HB
  have HO347 := n0_
  have HO351 := n1_
  have BK341 := n2_
  have BK342 := n3_
  have BK344 := n4_
  have HB := n5_
  clear n0_ n1_ n2_ n3_ n4_ n5_
  (try clear hb)
  (try clear hb2)
  (try clear hk)
  (try clear hi)
  (try clear ho0)
  obtain ⟨Ao21, co21, eo21⟩ := Kd.S_slice HO351.out
  (first | subst eo21 | (injection eo21 with f1_ f2_ f3_; have f4_ := f1_.symm; have f5_ := f3_.symm; clear f1_ f2_ f3_; subst f4_; subst f5_))
  refine hK.out _ _ ⟨(blk_cell BK341.out 0).trans rfl, (blk_cell BK341.out 1).trans rfl⟩ (fun hHeld => ?_)
  clear hK K
  refine norm_ (a' := ?_) ?_ ?_
  rotate_left
  ·
   show Act.put _ (some 16) _ = _
   simp only [Act.put, q1, q2, q3, i64_w, i32_w]
   rfl
  refine one_ (i := 8) (N := none) #[T, T, T, T, T, T, T, T, T, F] rfl rfl (one_of HT_.out (by kernel_rfl)) (by decide) (fun K hK => ?_)
  have hs20 : w19.cell? ⟨gb342, 0, none⟩ = some (.int .i64 0) := (blk_cell BK342.out 0).trans rfl
  have hfs20 := blk_frozen BK342.out 0
  have hns20_0 := NB341_342.out
  have hns20_2 := NB344_342.out
  have hms20_0 := NB342_341.out
  have hms20_2 := NB342_344.out
  have hs22 : w19.cell? ⟨gb342, 1, none⟩ = some (.slice none 0 0) := (blk_cell BK342.out 1).trans rfl
  have hfs22 := blk_frozen BK342.out 1
  have hns22_0 := NB341_342.out
  have hns22_2 := NB344_342.out
  have hms22_0 := NB342_341.out
  have hms22_2 := NB342_344.out
  refine skip_ (w1 := ?_) (by rfl) rfl ?_ ?_
  rotate_left
  ·
   go_simp
   rfl
  refine hK.out _ _ ⟨((cell_far (p := ⟨gb342, _, none⟩) NB341_342.out _).trans (((cell_far (p := ⟨gb342, _, none⟩) NB341_342.out _).trans (hHeld.1)))), ((cell_far (p := ⟨gb342, _, none⟩) NB341_342.out _).trans (((cell_far (p := ⟨gb342, _, none⟩) NB341_342.out _).trans (hHeld.2))))⟩ (fun hHeld => ?_)
  clear hK K
  refine pure_ (i := 9) (N := some 3) (v := ?_) (a' := ?_) #[T, T, T, T, T, T, T, T, T, T] rfl rfl (any_of HT_.out (by kernel_rfl)) (fun _ _ _ h => h) (Or.inl ⟨by rfl, ?_⟩) ?_ ?_
  rotate_left
  ·
   intro w'
   go_simp
   with_reducible rfl
  rotate_left
  ·
   simp only [Act.put, q1, q2, q3, i64_w, i32_w]
   rfl
  refine done_ (done_of HT_.out (by kernel_rfl)) ?_
  try go_wp2
  refine bodyPost_ret (results_ct rfl _ _ gb342 55 #[.int .i64 t348, .slice Ao21 t349.length co21] (0, 0) _ rfl (by (with_reducible repeat (first | refine blk_drewN ?_ _ | refine blk_drew ?_ | refine blk_alloc ?_ _)); refine blk_put (cs := #[.int .i64 t348, .slice none 0 0]) ?_ 1 _ rfl; (with_reducible repeat (first | refine blk_drewN ?_ _ | refine blk_drew ?_ | refine blk_alloc ?_ _)); refine blk_put (cs := #[.int .i64 0, .slice none 0 0]) ?_ 0 _ rfl; (with_reducible repeat (first | refine blk_drewN ?_ _ | refine blk_drew ?_ | refine blk_alloc ?_ _)); exact BK342.out) Tryd.underlying55 rfl (by kernel_rfl)) rfl ?_
  exact ⟨_, by first | rfl | (simp [errW_none, errW_some] <;> rfl) | (simp [*, errW_none, errW_some] <;> rfl), by (with_reducible repeat (first | apply Kd.S_alloc | apply Kd.S_drewN | apply Kd.S_drew)); exact Kd.S_mono (Kd.S_far (p := ⟨gb342, 1, none⟩) (Kd.S_far (p := ⟨gb342, 0, none⟩) (Kd.S_types HO351.out BK342.out (by decide)) (fun _ hk => hk.2) (.int .i64 t348)) (fun _ hk => hk.2) (.slice Ao21 t349.length co21)) (fun _ hk => trivial), pb HB⟩
 ·
  replace c3 := Bool.eq_false_iff.mpr c3
  subst c3
  have H1 : (some (0, ([] : List (S25)), 1)) = some (r1, r2, r3) := by rw [if_neg (show ¬ (false = true) by decide)] at H; exact H
  clear H
  have H := H1
  clear H1
  simp only [Option.some.injEq, Prod.mk.injEq] at H
  obtain ⟨rfl, rfl, rfl⟩ := H
  go_enter Tryd.func44, Tryd.ntmps44
  go_wp2_with (first | ((with_reducible refine gate_dst (N := 1) rfl ?_); refine box_event ?hg (N := 1) ?hd (cs := #[.int .i64 a0_0, .slice A0_1 l0_1.length c0_1]) (t := 55) ?hr ?_; (case hd => rfl); (case hg => rfl); (case hr => first | (go_simp; done) | (go_simp; rfl)); intro gb341 hg w23 hbox hb; have n0_ := am (below_step (pb HB) hb); have n1_ := am (hbox); have n2_ := am ((by rw [hg]; exact (below_size (pb HB)) : w.heap.size ≤ gb341)); have n3_ := am ((by rw [hg]; exact (below_size (pb HB)) : w.heap.size ≤ gb341)); clear HB; have HB := n0_; have BK341 := n1_; have GW341 := n2_; have GE341 := n3_; clear n0_ n1_ n2_ n3_ hb hbox hg) | ((with_reducible refine gate_dst (N := 2) rfl ?_); refine box_event ?hg (N := 2) ?hd (cs := #[.int .i64 0, .slice none 0 0]) (t := 55) ?hr ?_; (case hd => rfl); (case hg => rfl); (case hr => first | (go_simp; done) | (go_simp; rfl)); intro gb342 hg w24 hbox hb; have n0_ := bb BK341 hb; have n1_ := am (below_step (pb HB) hb); have n2_ := am (hbox); have n3_ := am ((by rw [hg]; exact (below_size (pb HB)) : w.heap.size ≤ gb342)); have n4_ := am ((by rw [hg]; exact (below_size (pb HB)) : w.heap.size ≤ gb342)); have n5_ := am ((by rw [hg]; exact Nat.ne_of_lt (bl BK341) : gb341 ≠ gb342)); have n6_ := am ((by rw [hg]; exact Nat.ne_of_gt (bl BK341) : gb342 ≠ gb341)); clear BK341 HB; have BK341 := n0_; have HB := n1_; have BK342 := n2_; have GW342 := n3_; have GE342 := n4_; have NB341_342 := n5_; have NB342_341 := n6_; clear n0_ n1_ n2_ n3_ n4_ n5_ n6_ hb hbox hg; have hnb25 := NB341_342.out; have hnc25 := NB342_341.out; have hcz26_0 : w24.cell? ⟨gb341, 0, none⟩ = some (.int .i64 a0_0) := (blk_cell BK341.out 0).trans rfl; have hcz26_1 : w24.cell? ⟨gb341, 1, none⟩ = some (.slice A0_1 l0_1.length c0_1) := (blk_cell BK341.out 1).trans rfl; have hfz26_0 := blk_frozen BK341.out 0; have hfz26_1 := blk_frozen BK341.out 1) | ((with_reducible refine gate_callee (f := 71) rfl ?_); refine goesL_ (some 6) rfl rfl Tryd.func71 (by kernel_rfl) rfl #[.agg #[.int .i64 a0_0, .slice A0_1 l0_1.length c0_1]] rfl (by (try simp only [List.map_toArray, List.map_cons, List.map_nil]); first | done | rfl | (simp only [List.length_drop, List.length_take]; rfl)) ?_; (with_reducible refine (matrix_Right.calls k a0_0 _ _ l0_1 false _ ?side1 ?side2 A2.out).mono ?_); (case side1 => repeat (first | exact (Kd.C_below HR0_1.out HB.out) | (with_reducible refine Kd.C_alloc ?_ _) | (with_reducible refine Kd.C_drewN ?_ _) | (with_reducible refine Kd.C_drew ?_))); (case side2 => exact HC0_1.out); rintro e w27 ⟨rfl, hb⟩; refine ⟨_, rfl, ?_⟩; have n0_ := bb BK341 hb; have n1_ := bb BK342 hb; have n2_ := am (below_step (pb HB) hb); clear BK341 BK342 HB; have BK341 := n0_; have BK342 := n1_; have HB := n2_; clear n0_ n1_ n2_; (try clear hb); (try clear hb2); (try clear hk); (try clear hi); have hcz28_0 : w27.cell? ⟨gb342, 0, none⟩ = some (.int .i64 0) := (blk_cell BK342.out 0).trans rfl; have hcz28_1 : w27.cell? ⟨gb342, 1, none⟩ = some (.slice none 0 0) := (blk_cell BK342.out 1).trans rfl; have hfz28_0 := blk_frozen BK342.out 0; have hfz28_1 := blk_frozen BK342.out 1))
  refine bodyPost_ret (results_ct rfl _ _ gb342 55 #[.int .i64 0, .slice none 0 0] (0, 0) _ rfl (by (with_reducible repeat (first | refine blk_drewN ?_ _ | refine blk_drew ?_ | refine blk_alloc ?_ _)); refine blk_put (cs := #[.int .i64 0, .slice none 0 0]) ?_ 1 _ rfl; (with_reducible repeat (first | refine blk_drewN ?_ _ | refine blk_drew ?_ | refine blk_alloc ?_ _)); refine blk_put (cs := #[.int .i64 0, .slice none 0 0]) ?_ 0 _ rfl; (with_reducible repeat (first | refine blk_drewN ?_ _ | refine blk_drew ?_ | refine blk_alloc ?_ _)); exact BK342.out) Tryd.underlying55 rfl (by kernel_rfl)) rfl ?_
  exact ⟨_, by first | rfl | (simp [errW_none, errW_some] <;> rfl) | (simp [*, errW_none, errW_some] <;> rfl), by first | exact Kd.S_nil _ _ _ _ _ | exact Kd.N_nil _ _ _ _ _ | exact Kd.V_nil _ _ _ _ _ | exact Kd.Q_nil _ _ _ _ _ | exact Kd.R_nil _ _ _ _ _, pb HB⟩

end Go.Proofs.YtfcedhejbnoinaaDoor.PR
