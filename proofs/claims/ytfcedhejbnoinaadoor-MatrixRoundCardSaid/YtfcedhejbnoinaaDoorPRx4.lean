-- PRINTED by print.py (a twelfth state) out of the translation. Not trusted: Lean checks it.
import Derived.Test.YtfcedhejbnoinaaDoorPRx0
import Derived.Test.YtfcedhejbnoinaaDoorPRx1
import Derived.Test.YtfcedhejbnoinaaDoorPRx3
namespace Go.Proofs.YtfcedhejbnoinaaDoor.PR
open Go.RowKit Go.Proofs.YtfcedhejbnoinaaDoorW.PrintWords Go.Proofs.YtfcedhejbnoinaaDoorW.PrintLast Go.Proofs.YtfcedhejbnoinaaDoorW.PrintMore
open Bool renaming true → T, false → F
open List renaming setIfInBounds_toArray → q1, set_cons_zero → q2, set_cons_succ → q3
attribute [local go_sem] run_store_func max2_int min2_int max_two min_two max_three min_three max_four min_four   -- for this text's walks alone
set_option linter.unusedVariables false
set_option linter.unusedSimpArgs false

/-! ### matrix_Mul: function 36 -/
def matrix_Mul.j0 : Nat → Bool → Int → List (S25) → Int → List (S25) → Option (Int × (List (S25)) × Int)
 | 0, _, _, _, _, _ => none
 | k + 1, x6, x201000, x201001, x202000, x202001 => if x6 = true then (some (0, ([] : List (S25)), 1)) else (if x201000 = (x202001.length : Int) then ((api_Row_73.f k x202000 x201001 x202000 x202001).bind fun bt205 => (some (bt205.1, bt205.2, 0))) else (some (0, ([] : List (S25)), 2)))
def matrix_Mul.f (k : Nat) (a0_0 : Int) (l0_1 : List (S25)) (a1_0 : Int) (l1_1 : List (S25)) : Option (Int × (List (S25)) × Int) := (matrix_Right.f k a0_0 l0_1).bind fun t203 => (if t203 = true then ((matrix_Right.f k a1_0 l1_1).bind fun t204 => (matrix_Mul.j0 k (!t204) a0_0 l0_1 a1_0 l1_1)) else (matrix_Mul.j0 k true a0_0 l0_1 a1_0 l1_1))
theorem matrix_Mul.mono_l : ∀ k, (∀ y0 y1 y2 y3 y4, LeO (matrix_Mul.j0 k y0 y1 y2 y3 y4) (matrix_Mul.j0 (k + 1) y0 y1 y2 y3 y4))
 | 0 => fun _ _ _ _ _ r h => by simp [matrix_Mul.j0] at h
 | k + 1 => by
  have ih0 := matrix_Mul.mono_l k
  ·
   intro y0 y1 y2 y3 y4
   unfold matrix_Mul.j0
   repeat' first
   | (with_reducible exact ih0 _ _ _ _ _)
   | (with_reducible exact api_Row_73.mono _ _ _ _ _)
   | (with_reducible exact matrix_Right.mono _ _ _)
   | (with_reducible exact LeO.refl _)
   | (with_reducible exact LeO.none _)
   | (with_reducible refine LeO.ite ?_ ?_)
   | (with_reducible refine LeO.bind ?_ (fun _ => ?_))
   | exact ih0 _ _ _ _ _
   | exact api_Row_73.mono _ _ _ _ _
   | exact matrix_Right.mono _ _ _
   | exact LeO.none _
   | refine LeO.ite ?_ ?_
   | refine LeO.bind ?_ (fun _ => ?_)
theorem matrix_Mul.mono : ∀ a0 a1 a2 a3 k, LeO (matrix_Mul.f k a0 a1 a2 a3) (matrix_Mul.f (k + 1) a0 a1 a2 a3) := by
 intro a0 a1 a2 a3 k
 have ih0 := matrix_Mul.mono_l k
 unfold matrix_Mul.f
 repeat' first
   | (with_reducible exact ih0 _ _ _ _ _)
   | (with_reducible exact api_Row_73.mono _ _ _ _ _)
   | (with_reducible exact matrix_Right.mono _ _ _)
   | (with_reducible exact LeO.refl _)
   | (with_reducible exact LeO.none _)
   | (with_reducible refine LeO.ite ?_ ?_)
   | (with_reducible refine LeO.bind ?_ (fun _ => ?_))
   | exact ih0 _ _ _ _ _
   | exact api_Row_73.mono _ _ _ _ _
   | exact matrix_Right.mono _ _ _
   | exact LeO.none _
   | refine LeO.ite ?_ ?_
   | refine LeO.bind ?_ (fun _ => ?_)
set_option maxHeartbeats 8000000 in
set_option maxRecDepth 100000 in
theorem matrix_Mul.calls (k : Nat) (a0_0 : Int) (A0_1 : Option Addr) (c0_1 : Nat) (l0_1 : List (S25)) (a1_0 : Int) (A1_1 : Option Addr) (c1_1 : Nat) (l1_1 : List (S25)) (r1 : Int) (r2 : List (S25)) (r3 : Int) (w : World) (hT_ : TabOk w) (hr0_1 : Kd.C k25 w A0_1 l0_1.length l0_1) (hc0_1 : l0_1.length ≤ c0_1) (hr1_1 : Kd.C k25 w A1_1 l1_1.length l1_1) (hc1_1 : l1_1.length ≤ c1_1) (h : matrix_Mul.f k a0_0 l0_1 a1_0 l1_1 = some (r1, r2, r3)) :
  Calls Tryd.prog 36 #[.agg #[.int .i64 a0_0, .slice A0_1 l0_1.length c0_1], .agg #[.int .i64 a1_0, .slice A1_1 l1_1.length c1_1]] w fun e w' => ∃ v1_ : Value, e = .returned (.tuple #[.agg #[.int .i64 r1, v1_], .int .i64 r3]) ∧ Kd.S k25 25 w' w.heap.size (fun _ => True) v1_ r2 ∧ Below w.heap.size w w' := by
 have hu55 := Tryd.underlying55
 have HR0_1 := Aside0.mk hr0_1
 have HC0_1 := Aside0.mk hc0_1
 clear hr0_1 hc0_1
 have HR1_1 := Aside0.mk hr1_1
 have HC1_1 := Aside0.mk hc1_1
 clear hr1_1 hc1_1
 have HT := Aside0.mk hT_
 clear hT_
 have HB := am (Below.refl w.heap.size w)
 have H : ((matrix_Right.f k a0_0 l0_1).bind fun t203 => (if t203 = true then ((matrix_Right.f k a1_0 l1_1).bind fun t204 => (matrix_Mul.j0 k (!t204) a0_0 l0_1 a1_0 l1_1)) else (matrix_Mul.j0 k true a0_0 l0_1 a1_0 l1_1))) = some (r1, r2, r3) := h
 clear h
 have HC3 := Aside0.mk H
 clear H
 go_enter Tryd.func36, Tryd.ntmps36
 go_upto_region 1 with (first | ((with_reducible refine gate_dst (N := 2) rfl ?_); refine box_event ?hg (N := 2) ?hd (cs := #[.int .i64 a0_0, .slice A0_1 l0_1.length c0_1]) (t := 55) ?hr ?_; (case hd => rfl); (case hg => rfl); (case hr => first | (go_simp; done) | (go_simp; rfl)); intro gb200 hg w4 hbox hb; have n0_ := am (below_step (pb HB) hb); have n1_ := am (hbox); have n2_ := am ((by rw [hg]; exact (below_size (pb HB)) : w.heap.size ≤ gb200)); have n3_ := am ((by rw [hg]; exact (below_size (pb HB)) : w.heap.size ≤ gb200)); clear HB; have HB := n0_; have BK200 := n1_; have GW200 := n2_; have GE200 := n3_; clear n0_ n1_ n2_ n3_ hb hbox hg) | ((with_reducible refine gate_dst (N := 3) rfl ?_); refine box_event ?hg (N := 3) ?hd (cs := #[.int .i64 a1_0, .slice A1_1 l1_1.length c1_1]) (t := 55) ?hr ?_; (case hd => rfl); (case hg => rfl); (case hr => first | (go_simp; done) | (go_simp; rfl)); intro gb201 hg w5 hbox hb; have n0_ := bb BK200 hb; have n1_ := am (below_step (pb HB) hb); have n2_ := am (hbox); have n3_ := am ((by rw [hg]; exact (below_size (pb HB)) : w.heap.size ≤ gb201)); have n4_ := am ((by rw [hg]; exact (below_size (pb HB)) : w.heap.size ≤ gb201)); have n5_ := am ((by rw [hg]; exact Nat.ne_of_lt (bl BK200) : gb200 ≠ gb201)); have n6_ := am ((by rw [hg]; exact Nat.ne_of_gt (bl BK200) : gb201 ≠ gb200)); clear BK200 HB; have BK200 := n0_; have HB := n1_; have BK201 := n2_; have GW201 := n3_; have GE201 := n4_; have NB200_201 := n5_; have NB201_200 := n6_; clear n0_ n1_ n2_ n3_ n4_ n5_ n6_ hb hbox hg) | ((with_reducible refine gate_dst (N := 4) rfl ?_); refine box_event ?hg (N := 4) ?hd (cs := #[.int .i64 0, .slice none 0 0]) (t := 55) ?hr ?_; (case hd => rfl); (case hg => rfl); (case hr => first | (go_simp; done) | (go_simp; rfl)); intro gb202 hg w6 hbox hb; have n0_ := bb BK200 hb; have n1_ := bb BK201 hb; have n2_ := am (below_step (pb HB) hb); have n3_ := am (hbox); have n4_ := am ((by rw [hg]; exact (below_size (pb HB)) : w.heap.size ≤ gb202)); have n5_ := am ((by rw [hg]; exact (below_size (pb HB)) : w.heap.size ≤ gb202)); have n6_ := am ((by rw [hg]; exact Nat.ne_of_lt (bl BK200) : gb200 ≠ gb202)); have n7_ := am ((by rw [hg]; exact Nat.ne_of_gt (bl BK200) : gb202 ≠ gb200)); have n8_ := am ((by rw [hg]; exact Nat.ne_of_lt (bl BK201) : gb201 ≠ gb202)); have n9_ := am ((by rw [hg]; exact Nat.ne_of_gt (bl BK201) : gb202 ≠ gb201)); clear BK200 BK201 HB; have BK200 := n0_; have BK201 := n1_; have HB := n2_; have BK202 := n3_; have GW202 := n4_; have GE202 := n5_; have NB200_202 := n6_; have NB202_200 := n7_; have NB201_202 := n8_; have NB202_201 := n9_; clear n0_ n1_ n2_ n3_ n4_ n5_ n6_ n7_ n8_ n9_ hb hbox hg))
 (try simp only [Act.put, q1, q2, q3])
 go_cut [6] (fun v6 wc => ∃ (kq : Nat) (x6_2 : Bool), v6 = .bool x6_2 ∧ Aside0 (matrix_Mul.j0 kq x6_2 a0_0 l0_1 a1_0 l1_1 = some (r1, r2, r3)) ∧ Aside0 (kq ≤ k) ∧ Aside0 (wc.heap[gb200]? = some (.cells #[.int .i64 a0_0, (.slice A0_1 l0_1.length c0_1)] 55 (0, 0))) ∧ Aside0 (wc.heap[gb201]? = some (.cells #[.int .i64 a1_0, (.slice A1_1 l1_1.length c1_1)] 55 (0, 0))) ∧ Aside0 (wc.heap[gb202]? = some (.cells #[.int .i64 0, (.slice none 0 0)] 55 (0, 0))) ∧ Aside0 (Below w.heap.size w wc))
 case first =>
  have H := HC3.out
  clear HC3
  replace H := Option.bind_eq_some_iff.mp H
  obtain ⟨t203, A70, H⟩ := H
  replace H : (if t203 = true then ((matrix_Right.f k a1_0 l1_1).bind fun t204 => (matrix_Mul.j0 k (!t204) a0_0 l0_1 a1_0 l1_1)) else (matrix_Mul.j0 k true a0_0 l0_1 a1_0 l1_1)) = some (r1, r2, r3) := H
  have A7 := Aside0.mk A70
  clear A70
  by_cases c8 : t203 = true
  ·
   subst c8
   have H1 : ((matrix_Right.f k a1_0 l1_1).bind fun t204 => (matrix_Mul.j0 k (!t204) a0_0 l0_1 a1_0 l1_1)) = some (r1, r2, r3) := by rw [if_pos rfl] at H; exact H
   clear H
   have H := H1
   clear H1
   replace H := Option.bind_eq_some_iff.mp H
   obtain ⟨t204, A90, H⟩ := H
   replace H : (matrix_Mul.j0 k (!t204) a0_0 l0_1 a1_0 l1_1) = some (r1, r2, r3) := H
   have A9 := Aside0.mk A90
   clear A90
   have H' := Aside0.mk H
   clear H
   have hnb10 := NB200_201.out
   have hnc10 := NB201_200.out
   have hnb11 := NB200_202.out
   have hnc11 := NB202_200.out
   have hcz12_0 : w6.cell? ⟨gb200, 0, none⟩ = some (.int .i64 a0_0) := (blk_cell BK200.out 0).trans rfl
   have hcz12_1 : w6.cell? ⟨gb200, 1, none⟩ = some (.slice A0_1 l0_1.length c0_1) := (blk_cell BK200.out 1).trans rfl
   have hfz12_0 := blk_frozen BK200.out 0
   have hfz12_1 := blk_frozen BK200.out 1
   go_wp2_with (first | ((with_reducible refine gate_callee (f := 71) rfl ?_); refine goesL_ (some 8) rfl rfl Tryd.func71 (by kernel_rfl) rfl #[.agg #[.int .i64 a0_0, .slice A0_1 l0_1.length c0_1]] rfl (by (try simp only [List.map_toArray, List.map_cons, List.map_nil]); first | done | rfl | (simp only [List.length_drop, List.length_take]; rfl)) ?_; (with_reducible refine (matrix_Right.calls k a0_0 _ _ l0_1 true _ ?side1 ?side2 A7.out).mono ?_); (case side1 => repeat (first | exact (Kd.C_below HR0_1.out HB.out) | (with_reducible refine Kd.C_alloc ?_ _) | (with_reducible refine Kd.C_drewN ?_ _) | (with_reducible refine Kd.C_drew ?_))); (case side2 => exact HC0_1.out); rintro e w13 ⟨rfl, hb⟩; refine ⟨_, rfl, ?_⟩; have n0_ := bb BK200 hb; have n1_ := bb BK201 hb; have n2_ := bb BK202 hb; have n3_ := am (below_step (pb HB) hb); clear BK200 BK201 BK202 HB; have BK200 := n0_; have BK201 := n1_; have BK202 := n2_; have HB := n3_; clear n0_ n1_ n2_ n3_; (try clear hb); (try clear hb2); (try clear hk); (try clear hi); have hnb14 := NB201_202.out; have hnc14 := NB202_201.out; have hcz15_0 : w13.cell? ⟨gb201, 0, none⟩ = some (.int .i64 a1_0) := (blk_cell BK201.out 0).trans rfl; have hcz15_1 : w13.cell? ⟨gb201, 1, none⟩ = some (.slice A1_1 l1_1.length c1_1) := (blk_cell BK201.out 1).trans rfl; have hfz15_0 := blk_frozen BK201.out 0; have hfz15_1 := blk_frozen BK201.out 1) | (go_at_call 71; (with_reducible refine (matrix_Right.calls k a1_0 _ _ l1_1 t204 _ ?side1 ?side2 A9.out).mono ?_); (case side1 => repeat (first | exact (Kd.C_below HR1_1.out HB.out) | (with_reducible refine Kd.C_alloc ?_ _) | (with_reducible refine Kd.C_drewN ?_ _) | (with_reducible refine Kd.C_drew ?_))); (case side2 => exact HC1_1.out); rintro e w16 ⟨rfl, hb⟩; have n0_ := bb BK200 hb; have n1_ := bb BK201 hb; have n2_ := bb BK202 hb; have n3_ := am (below_step (pb HB) hb); clear BK200 BK201 BK202 HB; have BK200 := n0_; have BK201 := n1_; have BK202 := n2_; have HB := n3_; clear n0_ n1_ n2_ n3_; (try clear hb); (try clear hb2); (try clear hk); (try clear hi)))
   go_meet
   case rel => exact ⟨_, (!t204), (by first | rfl | (simp; done) | (simp [*]; done)), H', ⟨by first | omega | exact Nat.le_refl _⟩, ⟨by (with_reducible repeat (first | refine blk_drewN ?_ _ | refine blk_drew ?_ | refine blk_alloc ?_ _)); exact BK200.out⟩, ⟨by (with_reducible repeat (first | refine blk_drewN ?_ _ | refine blk_drew ?_ | refine blk_alloc ?_ _)); exact BK201.out⟩, ⟨by (with_reducible repeat (first | refine blk_drewN ?_ _ | refine blk_drew ?_ | refine blk_alloc ?_ _)); exact BK202.out⟩, ⟨pb HB⟩⟩
  ·
   replace c8 := Bool.eq_false_iff.mpr c8
   subst c8
   have H1 : (matrix_Mul.j0 k true a0_0 l0_1 a1_0 l1_1) = some (r1, r2, r3) := by rw [if_neg (show ¬ (false = true) by decide)] at H; exact H
   clear H
   have H := H1
   clear H1
   have H' := Aside0.mk H
   clear H
   have hnb17 := NB200_201.out
   have hnc17 := NB201_200.out
   have hnb18 := NB200_202.out
   have hnc18 := NB202_200.out
   have hcz19_0 : w6.cell? ⟨gb200, 0, none⟩ = some (.int .i64 a0_0) := (blk_cell BK200.out 0).trans rfl
   have hcz19_1 : w6.cell? ⟨gb200, 1, none⟩ = some (.slice A0_1 l0_1.length c0_1) := (blk_cell BK200.out 1).trans rfl
   have hfz19_0 := blk_frozen BK200.out 0
   have hfz19_1 := blk_frozen BK200.out 1
   go_wp2_with (first | ((with_reducible refine gate_callee (f := 71) rfl ?_); refine goesL_ (some 8) rfl rfl Tryd.func71 (by kernel_rfl) rfl #[.agg #[.int .i64 a0_0, .slice A0_1 l0_1.length c0_1]] rfl (by (try simp only [List.map_toArray, List.map_cons, List.map_nil]); first | done | rfl | (simp only [List.length_drop, List.length_take]; rfl)) ?_; (with_reducible refine (matrix_Right.calls k a0_0 _ _ l0_1 false _ ?side1 ?side2 A7.out).mono ?_); (case side1 => repeat (first | exact (Kd.C_below HR0_1.out HB.out) | (with_reducible refine Kd.C_alloc ?_ _) | (with_reducible refine Kd.C_drewN ?_ _) | (with_reducible refine Kd.C_drew ?_))); (case side2 => exact HC0_1.out); rintro e w20 ⟨rfl, hb⟩; refine ⟨_, rfl, ?_⟩; have n0_ := bb BK200 hb; have n1_ := bb BK201 hb; have n2_ := bb BK202 hb; have n3_ := am (below_step (pb HB) hb); clear BK200 BK201 BK202 HB; have BK200 := n0_; have BK201 := n1_; have BK202 := n2_; have HB := n3_; clear n0_ n1_ n2_ n3_; (try clear hb); (try clear hb2); (try clear hk); (try clear hi)))
   go_meet
   case rel => exact ⟨_, (true), (by first | rfl | (simp; done) | (simp [*]; done)), H', ⟨by first | omega | exact Nat.le_refl _⟩, ⟨by (with_reducible repeat (first | refine blk_drewN ?_ _ | refine blk_drew ?_ | refine blk_alloc ?_ _)); exact BK200.out⟩, ⟨by (with_reducible repeat (first | refine blk_drewN ?_ _ | refine blk_drew ?_ | refine blk_alloc ?_ _)); exact BK201.out⟩, ⟨by (with_reducible repeat (first | refine blk_drewN ?_ _ | refine blk_drew ?_ | refine blk_alloc ?_ _)); exact BK202.out⟩, ⟨pb HB⟩⟩
 case rest =>
  clear HC3
  try clear c1
  try clear p2
  try clear c3
  try clear c7
  try clear c8
  try clear c10
  try clear c11
  try clear c14
  try clear c17
  try clear c18
  try clear hcz12_0
  try clear hcz12_1
  try clear hcz15_0
  try clear hcz15_1
  try clear hcz19_0
  try clear hcz19_1
  try clear hfz12_0
  try clear hfz12_1
  try clear hfz15_0
  try clear hfz15_1
  try clear hfz19_0
  try clear hfz19_1
  obtain ⟨kq, x6_2, rfl, HA, HJ2, BK200, BK201, BK202, HB⟩ := hcut
  cases kq with
  | zero => exact absurd HA.out (by simp [matrix_Mul.j0])
  | succ kj2 =>
   have H := HA.out
   clear HA
   simp only [matrix_Mul.j0] at H
   by_cases c21 : x6_2 = true
   ·
    subst c21
    have H1 : (some (0, ([] : List (S25)), 1)) = some (r1, r2, r3) := by rw [if_pos rfl] at H; exact H
    clear H
    have H := H1
    clear H1
    simp only [Option.some.injEq, Prod.mk.injEq] at H
    obtain ⟨rfl, rfl, rfl⟩ := H
    have hnb22 := NB202_200.out
    have hnc22 := NB200_202.out
    have hnb23 := NB202_201.out
    have hnc23 := NB201_202.out
    have hcz24_0 : wc.cell? ⟨gb202, 0, none⟩ = some (.int .i64 0) := (blk_cell BK202.out 0).trans rfl
    have hcz24_1 : wc.cell? ⟨gb202, 1, none⟩ = some (.slice none 0 0) := (blk_cell BK202.out 1).trans rfl
    have hfz24_0 := blk_frozen BK202.out 0
    have hfz24_1 := blk_frozen BK202.out 1
    go_wp2
    refine bodyPost_ret (results_ct rfl _ _ gb202 55 #[.int .i64 0, .slice none 0 0] (0, 0) _ rfl (by (with_reducible repeat (first | refine blk_drewN ?_ _ | refine blk_drew ?_ | refine blk_alloc ?_ _)); refine blk_put (cs := #[.int .i64 0, .slice none 0 0]) ?_ 1 _ rfl; (with_reducible repeat (first | refine blk_drewN ?_ _ | refine blk_drew ?_ | refine blk_alloc ?_ _)); refine blk_put (cs := #[.int .i64 0, .slice none 0 0]) ?_ 0 _ rfl; (with_reducible repeat (first | refine blk_drewN ?_ _ | refine blk_drew ?_ | refine blk_alloc ?_ _)); exact BK202.out) Tryd.underlying55 rfl (by kernel_rfl)) rfl ?_
    exact ⟨_, by first | rfl | (simp [errW_none, errW_some] <;> rfl) | (simp [*, errW_none, errW_some] <;> rfl), by first | exact Kd.S_nil _ _ _ _ _ | exact Kd.N_nil _ _ _ _ _ | exact Kd.V_nil _ _ _ _ _ | exact Kd.Q_nil _ _ _ _ _ | exact Kd.R_nil _ _ _ _ _, pb HB⟩
   ·
    replace c21 := Bool.eq_false_iff.mpr c21
    subst c21
    have H1 : (if a0_0 = (l1_1.length : Int) then ((api_Row_73.f kj2 a1_0 l0_1 a1_0 l1_1).bind fun bt205 => (some (bt205.1, bt205.2, 0))) else (some (0, ([] : List (S25)), 2))) = some (r1, r2, r3) := by rw [if_neg (show ¬ (false = true) by decide)] at H; exact H
    clear H
    have H := H1
    clear H1
    by_cases c25 : a0_0 = (l1_1.length : Int)
    ·
     rw [if_pos c25] at H
     have c25b0 : (a0_0 == (l1_1.length : Int)) = true := beq_iff_eq.mpr c25
     have c25b1 : (a0_0 != (l1_1.length : Int)) = false := bne_eq_false_iff_eq.mpr c25
     clear c25
     replace H := Option.bind_eq_some_iff.mp H
     obtain ⟨⟨t205, t206⟩, A260, H⟩ := H
     replace H : (some (t205, t206, 0)) = some (r1, r2, r3) := H
     have A26 := Aside0.mk A260
     clear A260
     simp only [Option.some.injEq, Prod.mk.injEq] at H
     obtain ⟨rfl, rfl, rfl⟩ := H
     have hnb27 := NB200_201.out
     have hnc27 := NB201_200.out
     have hnb28 := NB200_202.out
     have hnc28 := NB202_200.out
     have hcz29_0 : wc.cell? ⟨gb200, 0, none⟩ = some (.int .i64 a0_0) := (blk_cell BK200.out 0).trans rfl
     have hcz29_1 : wc.cell? ⟨gb200, 1, none⟩ = some (.slice A0_1 l0_1.length c0_1) := (blk_cell BK200.out 1).trans rfl
     have hfz29_0 := blk_frozen BK200.out 0
     have hfz29_1 := blk_frozen BK200.out 1
     have hnb30 := NB201_202.out
     have hnc30 := NB202_201.out
     have hcz31_0 : wc.cell? ⟨gb201, 0, none⟩ = some (.int .i64 a1_0) := (blk_cell BK201.out 0).trans rfl
     have hcz31_1 : wc.cell? ⟨gb201, 1, none⟩ = some (.slice A1_1 l1_1.length c1_1) := (blk_cell BK201.out 1).trans rfl
     have hfz31_0 := blk_frozen BK201.out 0
     have hfz31_1 := blk_frozen BK201.out 1
     go_wp2_with (first | ((with_reducible refine gate_callee (f := 72) rfl ?_); refine goesL_ (some 30) rfl rfl Tryd.func72 (by kernel_rfl) rfl #[.int .i64 a1_0, .slice A0_1 l0_1.length c0_1, (.func (.func 73) #[.agg #[.int .i64 a1_0, .slice A1_1 l1_1.length c1_1]] #[])] rfl (by (try simp only [List.map_toArray, List.map_cons, List.map_nil]); first | done | rfl | (simp only [List.length_drop, List.length_take]; rfl)) ?_; (with_reducible refine (api_Row_73.calls kj2 a1_0 _ _ l0_1  a1_0 _ _ l1_1 t205 t206 _ ?side5 ?side1 ?side2 ?side3 ?side4 A26.out).mono ?_); (case side1 => repeat (first | exact (Kd.C_below HR0_1.out HB.out) | (with_reducible refine Kd.C_alloc ?_ _) | (with_reducible refine Kd.C_drewN ?_ _) | (with_reducible refine Kd.C_drew ?_))); (case side2 => exact HC0_1.out); (case side3 => repeat (first | exact (Kd.C_below HR1_1.out HB.out) | (with_reducible refine Kd.C_alloc ?_ _) | (with_reducible refine Kd.C_drewN ?_ _) | (with_reducible refine Kd.C_drew ?_))); (case side4 => exact HC1_1.out); (case side5 => exact TabOk.below HT.out (pb HB)); rintro e w32 ⟨v207, rfl, ho0, hb⟩; refine ⟨_, rfl, ?_⟩; have n0_ := am (Kd.S_lower ho0 (below_size (pb HB))); have n1_ := bb BK200 hb; have n2_ := bb BK201 hb; have n3_ := bb BK202 hb; have n4_ := am (below_step (pb HB) hb); clear BK200 BK201 BK202 HB; have HO208 := n0_; have BK200 := n1_; have BK201 := n2_; have BK202 := n3_; have HB := n4_; clear n0_ n1_ n2_ n3_ n4_; (try clear hb); (try clear hb2); (try clear hk); (try clear hi); (try clear ho0); have hcz33_0 : w32.cell? ⟨gb202, 0, none⟩ = some (.int .i64 0) := (blk_cell BK202.out 0).trans rfl; have hcz33_1 : w32.cell? ⟨gb202, 1, none⟩ = some (.slice none 0 0) := (blk_cell BK202.out 1).trans rfl; have hfz33_0 := blk_frozen BK202.out 0; have hfz33_1 := blk_frozen BK202.out 1; obtain ⟨Ao34, co34, eo34⟩ := Kd.S_slice HO208.out; subst eo34))
     refine bodyPost_ret (results_ct rfl _ _ gb202 55 #[.int .i64 t205, .slice Ao34 t206.length co34] (0, 0) _ rfl (by (with_reducible repeat (first | refine blk_drewN ?_ _ | refine blk_drew ?_ | refine blk_alloc ?_ _)); refine blk_put (cs := #[.int .i64 t205, .slice none 0 0]) ?_ 1 _ rfl; (with_reducible repeat (first | refine blk_drewN ?_ _ | refine blk_drew ?_ | refine blk_alloc ?_ _)); refine blk_put (cs := #[.int .i64 0, .slice none 0 0]) ?_ 0 _ rfl; (with_reducible repeat (first | refine blk_drewN ?_ _ | refine blk_drew ?_ | refine blk_alloc ?_ _)); exact BK202.out) Tryd.underlying55 rfl (by kernel_rfl)) rfl ?_
     exact ⟨_, by first | rfl | (simp [errW_none, errW_some] <;> rfl) | (simp [*, errW_none, errW_some] <;> rfl), by (with_reducible repeat (first | apply Kd.S_alloc | apply Kd.S_drewN | apply Kd.S_drew)); exact Kd.S_mono (Kd.S_far (p := ⟨gb202, 1, none⟩) (Kd.S_far (p := ⟨gb202, 0, none⟩) (Kd.S_types HO208.out BK202.out (by decide)) (fun _ hk => hk.2) (.int .i64 t205)) (fun _ hk => hk.2) (.slice Ao34 t206.length co34)) (fun _ hk => trivial), pb HB⟩
    ·
     rw [if_neg c25] at H
     have c25b0 : (a0_0 == (l1_1.length : Int)) = false := beq_eq_false_iff_ne.mpr c25
     have c25b1 : (a0_0 != (l1_1.length : Int)) = true := bne_iff_ne.mpr c25
     simp only [Option.some.injEq, Prod.mk.injEq] at H
     obtain ⟨rfl, rfl, rfl⟩ := H
     have hnb35 := NB200_201.out
     have hnc35 := NB201_200.out
     have hnb36 := NB200_202.out
     have hnc36 := NB202_200.out
     have hcz37_0 : wc.cell? ⟨gb200, 0, none⟩ = some (.int .i64 a0_0) := (blk_cell BK200.out 0).trans rfl
     have hcz37_1 : wc.cell? ⟨gb200, 1, none⟩ = some (.slice A0_1 l0_1.length c0_1) := (blk_cell BK200.out 1).trans rfl
     have hfz37_0 := blk_frozen BK200.out 0
     have hfz37_1 := blk_frozen BK200.out 1
     have hnb38 := NB201_202.out
     have hnc38 := NB202_201.out
     have hcz39_0 : wc.cell? ⟨gb201, 0, none⟩ = some (.int .i64 a1_0) := (blk_cell BK201.out 0).trans rfl
     have hcz39_1 : wc.cell? ⟨gb201, 1, none⟩ = some (.slice A1_1 l1_1.length c1_1) := (blk_cell BK201.out 1).trans rfl
     have hfz39_0 := blk_frozen BK201.out 0
     have hfz39_1 := blk_frozen BK201.out 1
     have hcz40_0 : wc.cell? ⟨gb202, 0, none⟩ = some (.int .i64 0) := (blk_cell BK202.out 0).trans rfl
     have hcz40_1 : wc.cell? ⟨gb202, 1, none⟩ = some (.slice none 0 0) := (blk_cell BK202.out 1).trans rfl
     have hfz40_0 := blk_frozen BK202.out 0
     have hfz40_1 := blk_frozen BK202.out 1
     go_wp2
     refine bodyPost_ret (results_ct rfl _ _ gb202 55 #[.int .i64 0, .slice none 0 0] (0, 0) _ rfl (by (with_reducible repeat (first | refine blk_drewN ?_ _ | refine blk_drew ?_ | refine blk_alloc ?_ _)); refine blk_put (cs := #[.int .i64 0, .slice none 0 0]) ?_ 1 _ rfl; (with_reducible repeat (first | refine blk_drewN ?_ _ | refine blk_drew ?_ | refine blk_alloc ?_ _)); refine blk_put (cs := #[.int .i64 0, .slice none 0 0]) ?_ 0 _ rfl; (with_reducible repeat (first | refine blk_drewN ?_ _ | refine blk_drew ?_ | refine blk_alloc ?_ _)); exact BK202.out) Tryd.underlying55 rfl (by kernel_rfl)) rfl ?_
     exact ⟨_, by first | rfl | (simp [errW_none, errW_some] <;> rfl) | (simp [*, errW_none, errW_some] <;> rfl), by first | exact Kd.S_nil _ _ _ _ _ | exact Kd.N_nil _ _ _ _ _ | exact Kd.V_nil _ _ _ _ _ | exact Kd.Q_nil _ _ _ _ _ | exact Kd.R_nil _ _ _ _ _, pb HB⟩

/-! ### block_sized: function 92 -/
def block_sized.f (a0 : Int) : Option (Bool) := if a0 ≥ 0 then (some (decide (a0 ≤ 64))) else (some false)
set_option maxHeartbeats 8000000 in
set_option maxRecDepth 100000 in
theorem block_sized.calls (a0 : Int) (r : Bool) (w : World) (h : block_sized.f a0 = some r) :
  Calls Tryd.prog 92 #[.int .i64 a0] w fun e w' => e = .returned (.bool r) ∧ Drawn0 w w' := by
 have H : (if a0 ≥ 0 then (some (decide (a0 ≤ 64))) else (some false)) = some r := h
 clear h
 by_cases c2 : a0 ≥ 0
 ·
  rw [if_pos c2] at H
  have c2b0 : decide (0 ≤ a0) = true := decide_eq_true c2
  clear c2
  obtain rfl := Option.some.inj H
  go_enter Tryd.func92, Tryd.ntmps92
  go_wp2
  go_ret
  exact ⟨by first | rfl | (simp; done) | (simp [*]; done), by repeat (first | exact Drawn0.refl _ | apply Drawn0.step)⟩
 ·
  rw [if_neg c2] at H
  have c2b0 : decide (0 ≤ a0) = false := decide_eq_false c2
  clear c2
  obtain rfl := Option.some.inj H
  go_enter Tryd.func92, Tryd.ntmps92
  go_wp2
  go_ret
  exact ⟨by first | rfl | (simp; done) | (simp [*]; done), by repeat (first | exact Drawn0.refl _ | apply Drawn0.step)⟩

/-! ### block_may: function 60 -/
mutual
def block_may.j0 : Nat → Int → List ByteArray → Bool → Option (Int)
 | 0, _, _, _ => none
 | k + 1, x0, x1, x14 => if x14 = true then (some 2) else (block_may.l0 k x0 x1 (x1.length : Int) 0)
def block_may.l0 : Nat → Int → List ByteArray → Int → Int → Option (Int)
 | 0, _, _, _, _ => none
 | k + 1, x0, x15, x16, x17 => if x17 < x16 then (if 0 ≤ x17 then (if x17 < (x15.length : Int) then (if ((rdOf ByteArray.empty x15 x17).size : Int) = x0 then (block_may.l0 k x0 x15 x16 (wrap64 (x17 + 1))) else (some 2)) else (none)) else (none)) else (some 0)
end
def block_may.f (k : Nat) (a0 : Int) (l1 : List ByteArray) : Option (Int) := (block_sized.f a0).bind fun t209 => (if t209 = true then (block_may.j0 k a0 l1 (decide ((l1.length : Int) > 64))) else (block_may.j0 k a0 l1 true))
theorem block_may.mono_l : ∀ k, (∀ y0 y1 y2, LeO (block_may.j0 k y0 y1 y2) (block_may.j0 (k + 1) y0 y1 y2)) ∧ (∀ y0 y1 y2 y3, LeO (block_may.l0 k y0 y1 y2 y3) (block_may.l0 (k + 1) y0 y1 y2 y3))
 | 0 => ⟨fun _ _ _ r h => by simp [block_may.j0] at h, fun _ _ _ _ r h => by simp [block_may.l0] at h⟩
 | k + 1 => by
  obtain ⟨ih0, ih1⟩ := block_may.mono_l k
  refine ⟨?_, ?_⟩
  ·
   intro y0 y1 y2
   unfold block_may.j0
   repeat' first
   | (with_reducible exact ih0 _ _ _)
   | (with_reducible exact ih1 _ _ _ _)
   | (with_reducible exact LeO.refl _)
   | (with_reducible exact LeO.none _)
   | (with_reducible refine LeO.ite ?_ ?_)
   | (with_reducible refine LeO.bind ?_ (fun _ => ?_))
   | exact ih0 _ _ _
   | exact ih1 _ _ _ _
   | exact LeO.none _
   | refine LeO.ite ?_ ?_
   | refine LeO.bind ?_ (fun _ => ?_)
  ·
   intro y0 y1 y2 y3
   unfold block_may.l0
   repeat' first
   | (with_reducible exact ih0 _ _ _)
   | (with_reducible exact ih1 _ _ _ _)
   | (with_reducible exact LeO.refl _)
   | (with_reducible exact LeO.none _)
   | (with_reducible refine LeO.ite ?_ ?_)
   | (with_reducible refine LeO.bind ?_ (fun _ => ?_))
   | exact ih0 _ _ _
   | exact ih1 _ _ _ _
   | exact LeO.none _
   | refine LeO.ite ?_ ?_
   | refine LeO.bind ?_ (fun _ => ?_)
theorem block_may.mono : ∀ a0 a1 k, LeO (block_may.f k a0 a1) (block_may.f (k + 1) a0 a1) := by
 intro a0 a1 k
 obtain ⟨ih0, ih1⟩ := block_may.mono_l k
 unfold block_may.f
 repeat' first
   | (with_reducible exact ih0 _ _ _)
   | (with_reducible exact ih1 _ _ _ _)
   | (with_reducible exact LeO.refl _)
   | (with_reducible exact LeO.none _)
   | (with_reducible refine LeO.ite ?_ ?_)
   | (with_reducible refine LeO.bind ?_ (fun _ => ?_))
   | exact ih0 _ _ _
   | exact ih1 _ _ _ _
   | exact LeO.none _
   | refine LeO.ite ?_ ?_
   | refine LeO.bind ?_ (fun _ => ?_)
set_option maxHeartbeats 8000000 in
set_option maxRecDepth 100000 in
theorem block_may.calls (k : Nat) (a0 : Int) (A1 : Option Addr) (c1 : Nat) (l1 : List ByteArray) (r : Int) (w : World) (hr1 : Kd.C Kd.string w A1 l1.length l1) (hc1 : l1.length ≤ c1) (h : block_may.f k a0 l1 = some r) :
  Calls Tryd.prog 60 #[.int .i64 a0, .slice A1 l1.length c1] w fun e w' => e = .returned (.int .i64 r) ∧ Drawn0 w w' := by
 have HR1 := Aside0.mk hr1
 have HC1 := Aside0.mk hc1
 clear hr1 hc1
 have H : ((block_sized.f a0).bind fun t209 => (if t209 = true then (block_may.j0 k a0 l1 (decide ((l1.length : Int) > 64))) else (block_may.j0 k a0 l1 true))) = some r := h
 clear h
 have HC3 := Aside0.mk H
 clear H
 go_enter Tryd.func60, Tryd.ntmps60
 go_upto_region 1 with (fail)
 go_cut [14] (fun v14 wc => ∃ (kq : Nat) (x14_2 : Bool), v14 = .bool x14_2 ∧ Aside0 (block_may.j0 kq a0 l1 x14_2 = some r) ∧ Aside0 (kq ≤ k) ∧ Drawn0 w wc)
 case first =>
  have H := HC3.out
  clear HC3
  replace H := Option.bind_eq_some_iff.mp H
  obtain ⟨t209, A40, H⟩ := H
  replace H : (if t209 = true then (block_may.j0 k a0 l1 (decide ((l1.length : Int) > 64))) else (block_may.j0 k a0 l1 true)) = some r := H
  have A4 := Aside0.mk A40
  clear A40
  by_cases c5 : t209 = true
  ·
   subst c5
   have H1 : (block_may.j0 k a0 l1 (decide ((l1.length : Int) > 64))) = some r := by rw [if_pos rfl] at H; exact H
   clear H
   have H := H1
   clear H1
   have H' := Aside0.mk H
   clear H
   go_wp2_with (first | ((with_reducible refine gate_callee (f := 92) rfl ?_); refine goesL_ (some 8) rfl rfl Tryd.func92 (by kernel_rfl) rfl #[.int .i64 a0] rfl (by (try simp only [List.map_toArray, List.map_cons, List.map_nil]); first | done | rfl | (simp only [List.length_drop, List.length_take]; rfl)) ?_; (with_reducible refine (block_sized.calls a0 true _ A4.out).mono ?_); rintro e w' ⟨rfl, ⟨nd, rfl⟩⟩; refine ⟨_, rfl, ?_⟩))
   go_meet
   case rel => exact ⟨_, (decide ((l1.length : Int) > 64)), (by first | rfl | (simp; done) | (simp [*]; done)), H', ⟨by first | omega | exact Nat.le_refl _⟩, by repeat (first | exact Drawn0.refl _ | apply Drawn0.step)⟩
  ·
   replace c5 := Bool.eq_false_iff.mpr c5
   subst c5
   have H1 : (block_may.j0 k a0 l1 true) = some r := by rw [if_neg (show ¬ (false = true) by decide)] at H; exact H
   clear H
   have H := H1
   clear H1
   have H' := Aside0.mk H
   clear H
   go_wp2_with (first | ((with_reducible refine gate_callee (f := 92) rfl ?_); refine goesL_ (some 8) rfl rfl Tryd.func92 (by kernel_rfl) rfl #[.int .i64 a0] rfl (by (try simp only [List.map_toArray, List.map_cons, List.map_nil]); first | done | rfl | (simp only [List.length_drop, List.length_take]; rfl)) ?_; (with_reducible refine (block_sized.calls a0 false _ A4.out).mono ?_); rintro e w' ⟨rfl, ⟨nd, rfl⟩⟩; refine ⟨_, rfl, ?_⟩))
   go_meet
   case rel => exact ⟨_, (true), (by first | rfl | (simp; done) | (simp [*]; done)), H', ⟨by first | omega | exact Nat.le_refl _⟩, by repeat (first | exact Drawn0.refl _ | apply Drawn0.step)⟩
 case rest =>
  clear HC3
  try clear c1
  try clear p2
  try clear c5
  obtain ⟨kq, x14_2, rfl, HA, HJ2, ⟨mc2, rfl⟩⟩ := hcut
  cases kq with
  | zero => exact absurd HA.out (by simp [block_may.j0])
  | succ kj2 =>
   have H := HA.out
   clear HA
   simp only [block_may.j0] at H
   by_cases c6 : x14_2 = true
   ·
    subst c6
    have H1 : (some 2) = some r := by rw [if_pos rfl] at H; exact H
    clear H
    have H := H1
    clear H1
    obtain rfl := Option.some.inj H
    go_wp2
    go_ret
    exact ⟨by first | rfl | (simp; done) | (simp [*]; done), by repeat (first | exact Drawn0.refl _ | apply Drawn0.step)⟩
   ·
    replace c6 := Bool.eq_false_iff.mpr c6
    subst c6
    have H1 : (block_may.l0 kj2 a0 l1 (l1.length : Int) 0) = some r := by rw [if_neg (show ¬ (false = true) by decide)] at H; exact H
    clear H
    have H := H1
    clear H1
    have H' := Aside0.mk H
    clear H
    go_wp2
    go_loopg [17] kj2 (fun kq v17 w' => ∃ (x17_2 : Int), v17 = .int .i64 x17_2 ∧ Aside0 (block_may.l0 kq a0 l1 (l1.length : Int) x17_2 = some r) ∧ Aside0 (kq ≤ kj2) ∧ Drawn0 w w')
    case atStart => exact ⟨(0), (by first | rfl | (simp; done) | (simp [*]; done)), H', ⟨Nat.le_refl _⟩, by repeat (first | exact Drawn0.refl _ | apply Drawn0.step)⟩
    case round =>
     clear H'
     try clear c1
     try clear c2
     try clear p2
     try clear c5
     try clear c6
     try clear p2
     obtain ⟨x17_2, rfl, HA, HK2, ⟨m2, rfl⟩⟩ := hrel
     cases gk with
     | zero => exact absurd HA.out (by simp [block_may.l0])
     | succ k2 =>
      have H := HA.out
      clear HA
      simp only [block_may.l0] at H
      by_cases c7 : x17_2 < (l1.length : Int)
      ·
       rw [if_pos c7] at H
       have c7b0 : decide (x17_2 < (l1.length : Int)) = true := decide_eq_true c7
       clear c7
       by_cases c8 : 0 ≤ x17_2
       ·
        rw [if_pos c8] at H
        have c8b0 : decide (0 ≤ x17_2) = true := decide_eq_true c8
        clear c8
        by_cases c9 : x17_2 < (l1.length : Int)
        ·
         rw [if_pos c9] at H
         have c9b0 : decide (x17_2 < (l1.length : Int)) = true := decide_eq_true c9
         clear c9
         by_cases c10 : ((rdOf ByteArray.empty l1 x17_2).size : Int) = a0
         ·
          rw [if_pos c10] at H
          have c10b0 : (((rdOf ByteArray.empty l1 x17_2).size : Int) == a0) = true := beq_iff_eq.mpr c10
          have c10b1 : (((rdOf ByteArray.empty l1 x17_2).size : Int) != a0) = false := bne_eq_false_iff_eq.mpr c10
          clear c10
          have H' := Aside0.mk H
          clear H
          have p210 : 0 ≤ (x17_2 : Int) := of_decide_eq_true (by first | (with_reducible assumption) | assumption)
          have q210 : x17_2 < (l1.length : Int) := of_decide_eq_true (by first | (with_reducible assumption) | assumption)
          obtain ⟨ad210, e210, hx210_0⟩ := Kd.at_string HR1.out x17_2 p210 q210
          cases e210
          replace p210 := eq_true p210
          replace q210 := eq_true q210
          go_wp2
          go_roundg k2
          case measure => have := HJ2.out; have := HK2.out; omega
          case rel => exact ⟨(wrap64 (x17_2 + 1)), (by first | rfl | (simp; done) | (simp [*]; done)), H', ⟨by have := HJ2.out; have := HK2.out; omega⟩, by repeat (first | exact Drawn0.refl _ | apply Drawn0.step)⟩
         ·
          rw [if_neg c10] at H
          have c10b0 : (((rdOf ByteArray.empty l1 x17_2).size : Int) == a0) = false := beq_eq_false_iff_ne.mpr c10
          have c10b1 : (((rdOf ByteArray.empty l1 x17_2).size : Int) != a0) = true := bne_iff_ne.mpr c10
          obtain rfl := Option.some.inj H
          have p210 : 0 ≤ (x17_2 : Int) := of_decide_eq_true (by first | (with_reducible assumption) | assumption)
          have q210 : x17_2 < (l1.length : Int) := of_decide_eq_true (by first | (with_reducible assumption) | assumption)
          obtain ⟨ad210, e210, hx210_0⟩ := Kd.at_string HR1.out x17_2 p210 q210
          cases e210
          replace p210 := eq_true p210
          replace q210 := eq_true q210
          go_wp2
          go_ret
          exact ⟨by first | rfl | (simp; done) | (simp [*]; done), by repeat (first | exact Drawn0.refl _ | apply Drawn0.step)⟩
        ·
         rw [if_neg c9] at H
         exact absurd H (by simp)
       ·
        rw [if_neg c8] at H
        exact absurd H (by simp)
      ·
       rw [if_neg c7] at H
       have c7b0 : decide (x17_2 < (l1.length : Int)) = false := decide_eq_false c7
       clear c7
       obtain rfl := Option.some.inj H
       go_wp2
       go_ret
       exact ⟨by first | rfl | (simp; done) | (simp [*]; done), by repeat (first | exact Drawn0.refl _ | apply Drawn0.step)⟩

/-! ### block_into: function 61 -/
def block_into.l0 : Nat → List Int → ByteArray → Int → Int → Option (List Int)
 | 0, _, _, _, _ => none
 | k + 1, x0, x1, x6, x7 => if x7 < x6 then (if 0 ≤ x7 then (if x7 < (x0.length : Int) then (if x7 < (x1.size : Int) then (block_into.l0 k (x0.set (x7 : Int).toNat (Go.bits .xor .u8 (rd x0 x7) (bt x1 x7))) x1 x6 (wrap64 (x7 + 1))) else (none)) else (none)) else (none)) else (some x0)
def block_into.f (k : Nat) (l0 : List Int) (a1 : ByteArray) : Option (List Int) := block_into.l0 k l0 a1 (l0.length : Int) 0
theorem block_into.mono_l : ∀ k, (∀ y0 y1 y2 y3, LeO (block_into.l0 k y0 y1 y2 y3) (block_into.l0 (k + 1) y0 y1 y2 y3))
 | 0 => fun _ _ _ _ r h => by simp [block_into.l0] at h
 | k + 1 => by
  have ih0 := block_into.mono_l k
  ·
   intro y0 y1 y2 y3
   unfold block_into.l0
   repeat' first
   | (with_reducible exact ih0 _ _ _ _)
   | (with_reducible exact LeO.refl _)
   | (with_reducible exact LeO.none _)
   | (with_reducible refine LeO.ite ?_ ?_)
   | (with_reducible refine LeO.bind ?_ (fun _ => ?_))
   | exact ih0 _ _ _ _
   | exact LeO.none _
   | refine LeO.ite ?_ ?_
   | refine LeO.bind ?_ (fun _ => ?_)
theorem block_into.mono : ∀ a0 a1 k, LeO (block_into.f k a0 a1) (block_into.f (k + 1) a0 a1) := by
 intro a0 a1 k
 have ih0 := block_into.mono_l k
 unfold block_into.f
 repeat' first
   | (with_reducible exact ih0 _ _ _ _)
   | (with_reducible exact LeO.refl _)
   | (with_reducible exact LeO.none _)
   | (with_reducible refine LeO.ite ?_ ?_)
   | (with_reducible refine LeO.bind ?_ (fun _ => ?_))
   | exact ih0 _ _ _ _
   | exact LeO.none _
   | refine LeO.ite ?_ ?_
   | refine LeO.bind ?_ (fun _ => ?_)
def block_into.T3 : Bool × List (List Nat × List Nat) := (true, [([], []), ([], []), ([0, 1], [0, 1]), ([2], [2]), ([], []), ([], []), ([4, 5], [4, 5]), ([3, 6], [3, 6]), ([0, 1, 0, 1, 2, 3, 4, 5, 6, 7], [0, 1]), ([8, 7, 0, 1, 2, 3, 4, 5, 6, 7], [7, 8])])
def block_into.B3 : List Nat := [0, 0, 3, 7, 0, 0, 48, 127, 255, 511]
theorem block_into.tab3 : rtab .any (opsOf Tryd.f61 3) = block_into.T3 := by kernel_rfl
theorem block_into.bits3 : waitsOk block_into.T3.2 block_into.B3 = true := by kernel_rfl
set_option maxHeartbeats 8000000 in
set_option maxRecDepth 100000 in
theorem block_into.calls (k : Nat) (P0_ : Nat → Prop) (u9000_ : Value) (l0 : List Int) (a1 : ByteArray) (r : List Int) (w0 w : World) (hB : Below w0.heap.size w0 w) (ho0 : Kd.R (Kd.int .u8) 5 w w0.heap.size P0_ u9000_ l0) (h : block_into.f k l0 a1 = some r) :
  Calls Tryd.prog 61 #[u9000_, .string a1] w fun e w' => e = .returned (.tuple #[]) ∧ Kd.R (Kd.int .u8) 5 w' w0.heap.size (fun k_ => (P0_ k_ ∨ w.heap.size ≤ k_)) u9000_ r ∧ Below w0.heap.size w0 w' ∧ Kept w w' (fun k_ => P0_ k_) := by
 have HO0 := am (show Kd.R (Kd.int .u8) 5 w w0.heap.size (fun k_ => (P0_ k_ ∨ w.heap.size ≤ k_)) u9000_ l0 from Kd.R_mono ho0 (fun k_ hk => (.inl hk)))
 have HK := am (Kept.refl w (fun k_ => P0_ k_))
 have HW0 := Aside0.mk hB.size
 have HB := Aside0.mk hB
 clear hB
 have H : (block_into.l0 k l0 a1 (l0.length : Int) 0) = some r := h
 clear h
 have H' := Aside0.mk H
 clear H
 obtain ⟨Ao3, co3, eo3⟩ := Kd.R_slice HO0.out
 subst eo3
 go_enter Tryd.func61, Tryd.ntmps61
 go_wp2
 go_loopg [7] k (fun kq v7 w' => ∃ (x0_1 : List Int) (x7_1 : Int), v7 = .int .i64 x7_1 ∧ Aside0 (block_into.l0 kq x0_1 a1 (l0.length : Int) x7_1 = some r) ∧ Aside0 (kq ≤ k) ∧ Aside0 (Kd.R (Kd.int .u8) 5 w' w0.heap.size (fun k_ => (P0_ k_ ∨ w.heap.size ≤ k_)) (.slice Ao3 l0.length co3) x0_1) ∧ Aside0 (Kept w w' (fun k_ => P0_ k_)) ∧ Aside0 (Below w0.heap.size w0 w'))
 case atStart => exact ⟨(l0), (0), (by first | rfl | (simp; done) | (simp [*]; done)), H', ⟨Nat.le_refl _⟩, ⟨by (with_reducible repeat (first | apply Kd.R_alloc | apply Kd.R_drewN | apply Kd.R_drew)); exact HO0.out⟩, ⟨by repeat (first | (with_reducible first | exact HK.out | apply Kept.alloc | apply Kept.drewN | apply Kept.drew) | exact HK.out)⟩, ⟨pb HB⟩⟩
 case round =>
  clear H'
  try clear p2
  obtain ⟨x0_1, x7_1, rfl, HA, HK1, HO_0, HK, HB⟩ := hrel
  have hl0_1 := (Kd.R_reads' HO_0.out).1
  rw [hl0_1] at HO_0
  (try simp only [hl0_1])
  cases gk with
  | zero => exact absurd HA.out (by simp [block_into.l0])
  | succ k1 =>
   have H := HA.out
   clear HA
   simp only [block_into.l0] at H
   by_cases c4 : x7_1 < (l0.length : Int)
   ·
    rw [if_pos c4] at H
    have c4b0 : decide (x7_1 < (l0.length : Int)) = true := decide_eq_true c4
    clear c4
    by_cases c5 : 0 ≤ x7_1
    ·
     rw [if_pos c5] at H
     have c5b0 : decide (0 ≤ x7_1) = true := decide_eq_true c5
     clear c5
     by_cases c6 : x7_1 < (x0_1.length : Int)
     ·
      rw [if_pos c6] at H
      have c6b0 : decide (x7_1 < (x0_1.length : Int)) = true := decide_eq_true c6
      clear c6
      by_cases c7 : x7_1 < (a1.size : Int)
      ·
       rw [if_pos c7] at H
       have c7b0 : decide (x7_1 < (a1.size : Int)) = true := decide_eq_true c7
       clear c7
       obtain ⟨y212, hy212⟩ : ∃ y_ : List Int, y_ = (x0_1.set (x7_1 : Int).toNat (Go.bits .xor .u8 (rd x0_1 x7_1) (bt a1 x7_1))) := ⟨_, rfl⟩
       replace H : (block_into.l0 k1 y212 a1 (l0.length : Int) (wrap64 (x7_1 + 1))) = some r := by first | (rw [hy212]; with_reducible exact H) | (have H2_ := (Option.bind_some _ _).symm.trans H; rw [hy212]; with_reducible exact H2_) | (have H2_ := (Option.bind_some _ _).symm.trans H; with_reducible exact H2_) | with_reducible exact H | (rw [hy212]; exact H) | exact H
       have Ny212 := Aside0.mk hy212
       clear hy212
       have H' := Aside0.mk H
       clear H
       try go_wp2
       have n0_ := am (Kd.R_drew HO_0.out)
       have n1_ := am (Kept.drew HK.out)
       have n2_ := am (below_drew1 HB.out)
       clear HO_0
       clear HK
       clear HB
       have HO_0 := n0_
       have HK := n1_
       have HB := n2_
       clear n0_ n1_ n2_
       have p211 : 0 ≤ (x7_1 : Int) := of_decide_eq_true (by first | (with_reducible assumption) | assumption)
       have q211 : x7_1 < (x0_1.length : Int) := of_decide_eq_true (by first | (with_reducible assumption) | assumption)
       obtain ⟨ad211, e211, hx211_0⟩ := Kd.at_int (Kd.R_reads' HO_0.out).2.2 x7_1 p211 q211
       cases e211
       replace p211 := eq_true p211
       replace q211 := eq_true q211
       have p8 : 0 ≤ (x7_1 : Int) := of_decide_eq_true (by first | (with_reducible assumption) | assumption)
       have q8 : x7_1 < (a1.size : Int) := of_decide_eq_true (by first | (with_reducible assumption) | assumption)
       have hx8 := bt_at a1 x7_1
       replace p8 := eq_true p8
       replace q8 := eq_true q8
       have p9 : 0 ≤ (x7_1 : Int) := of_decide_eq_true (by first | (with_reducible assumption) | assumption)
       have q9 : (x7_1 : Int) < ((x0_1.length : Int) : Int) := of_decide_eq_true (by first | (with_reducible assumption) | assumption)
       obtain ⟨go9, co9, eo9, gb9, gl9, cl9, HG9⟩ := Kd.R_form HO_0.out (by omega)
       (first | cases eo9 | (injection eo9 with ea_ en_ ec_; (first | subst ea_ | (injection ea_ with ea_; subst ea_)); subst ec_; clear en_))
       have GB9 := Aside0.mk gb9
       have GG9 := Aside0.mk HG9
       clear gb9 gl9 HG9
       have HMgo9 := am (show (P0_ go9 ∨ w.heap.size ≤ go9) from (HO_0.out.1 _ rfl))
       (first | simp only [add_plain] at hx211_0 | skip)
       obtain ⟨hx9_0, hf9_0⟩ := Kd.R_celln 0 HO_0.out (x7_1 : Int) p9 q9
       replace p9 := eq_true p9
       replace q9 := eq_true q9
       have HP11 := Kd.R_putn HO_0.out (x7_1 : Int) (Go.bits .xor .u8 (rd x0_1 x7_1) (bt a1 x7_1))
       rw [← Ny212.out] at HP11
       have HQ11 := Aside0.mk HP11
       clear HP11
       refine start_ (n := 10) (S := fun w' => w'.cell? ⟨go9, (x7_1).toNat, none⟩ = some (.int .u8 (rd x0_1 x7_1))) (ds := [9]) #[F, F, F, F, F, F, F, F, F, F] (by kernel_rfl) rfl rfl (hx211_0) (fun hHeld => ?_); refine with_tabW block_into.tab3 block_into.bits3 (fun HT_ HW_ => ?_)
       generalize wr.drew = w10 at HO_0 HK HB GG9 HQ11 hf9_0 hx211_0 hx9_0 hHeld ⊢
       refine pure_ (i := 0) (N := some 10) (v := ?_) (a' := ?_) #[T, F, F, F, F, F, F, F, F, F] rfl rfl (any_of HT_.out (by kernel_rfl)) (fun _ _ _ h => h) (Or.inl ⟨by rfl, ?_⟩) ?_ ?_
       rotate_left
       ·
        intro w'
        go_simp
        with_reducible rfl
       rotate_left
       ·
        simp only [Act.put, q1, q2, q3, i64_w, i32_w]
        rfl
       refine pure_ (i := 1) (N := some 11) (v := ?_) (a' := ?_) #[T, T, F, F, F, F, F, F, F, F] rfl rfl (any_of HT_.out (by kernel_rfl)) (fun _ _ _ h => h) (Or.inl ⟨by rfl, ?_⟩) ?_ ?_
       rotate_left
       ·
        intro w'
        go_simp
        with_reducible rfl
       rotate_left
       ·
        simp only [Act.put, q1, q2, q3, i64_w, i32_w]
        rfl
       refine pure_ (i := 2) (N := some 12) (v := ?_) (a' := ?_) #[T, T, T, F, F, F, F, F, F, F] rfl rfl (any_of HT_.out (by kernel_rfl)) (fun _ _ _ h => h) (Or.inl ⟨by rfl, ?_⟩) ?_ ?_
       rotate_left
       ·
        intro w'
        go_simp
        with_reducible rfl
       rotate_left
       ·
        simp only [Act.put, q1, q2, q3, i64_w, i32_w]
        rfl
       refine pure_ (i := 4) (N := some 14) (v := ?_) (a' := ?_) #[T, T, T, F, T, F, F, F, F, F] rfl rfl (any_of HT_.out (by kernel_rfl)) (fun _ _ _ h => h) (Or.inl ⟨by rfl, ?_⟩) ?_ ?_
       rotate_left
       ·
        intro w'
        go_simp
        with_reducible rfl
       rotate_left
       ·
        simp only [Act.put, q1, q2, q3, i64_w, i32_w]
        rfl
       refine pure_ (i := 5) (N := some 15) (v := ?_) (a' := ?_) #[T, T, T, F, T, T, F, F, F, F] rfl rfl (any_of HT_.out (by kernel_rfl)) (fun _ _ _ h => h) (Or.inl ⟨by rfl, ?_⟩) ?_ ?_
       rotate_left
       ·
        intro w'
        go_simp
        with_reducible rfl
       rotate_left
       ·
        simp only [Act.put, q1, q2, q3, i64_w, i32_w]
        rfl
       refine take_ (i := 3) (N := some 13) (v := ?_) (a' := ?_) #[T, T, T, T, T, T, F, F, F, F] rfl rfl (take_ofW HT_.out HW_.out (by kernel_rfl)) (fun _ _ _ h => h) (Or.inl ⟨by rfl, ?_⟩) hHeld ?_ ?_
       rotate_left
       ·
        intro w' s0
        go_simp
        with_reducible rfl
       rotate_left
       ·
        simp only [Act.put, q1, q2, q3, i64_w, i32_w]
        rfl
       refine take_ (i := 6) (N := some 16) (v := ?_) (a' := ?_) #[T, T, T, T, T, T, T, F, F, F] rfl rfl (take_ofW HT_.out HW_.out (by kernel_rfl)) (fun _ _ _ h => h) (Or.inl ⟨by rfl, ?_⟩) hHeld ?_ ?_
       rotate_left
       ·
        intro w' s0
        go_simp
        with_reducible rfl
       rotate_left
       ·
        simp only [Act.put, q1, q2, q3, i64_w, i32_w]
        rfl
       refine pure_ (i := 7) (N := some 17) (v := ?_) (a' := ?_) #[T, T, T, T, T, T, T, T, F, F] rfl rfl (any_of HT_.out (by kernel_rfl)) (fun _ _ _ h => h) (Or.inl ⟨by rfl, ?_⟩) ?_ ?_
       rotate_left
       ·
        intro w'
        go_simp
        with_reducible rfl
       rotate_left
       ·
        simp only [Act.put, q1, q2, q3, i64_w, i32_w]
        rfl
       refine pure_ (i := 8) (N := some 18) (v := ?_) (a' := ?_) #[T, T, T, T, T, T, T, T, T, F] rfl rfl (any_of HT_.out (by kernel_rfl)) (fun _ _ _ h => h) (Or.inl ⟨by rfl, ?_⟩) ?_ ?_
       rotate_left
       ·
        intro w'
        go_simp
        with_reducible rfl
       rotate_left
       ·
        simp only [Act.put, q1, q2, q3, i64_w, i32_w]
        rfl
       refine last_ (i := 9) (N := none) #[T, T, T, T, T, T, T, T, T, T] rfl rfl (one_of HT_.out (by kernel_rfl)) (by decide) (fun K hK => ?_)
       refine skip_ (w1 := ?_) (by rfl) rfl ?_ ?_
       rotate_left
       ·
        go_simp
        rfl
       refine hK.out _ _ ?_
       clear hK K
       refine done_ (done_of HT_.out (by kernel_rfl)) ?_
       try go_wp2
       (try simp only [← hl0_1])
       go_roundg k1
       case measure => have := HK1.out; omega
       case rel => exact ⟨(y212), (wrap64 (x7_1 + 1)), (by first | rfl | (simp; done) | (simp [*]; done)), H', ⟨by have := HK1.out; omega⟩, ⟨by (try simp only [hl0_1]); (with_reducible repeat (first | apply Kd.R_alloc | apply Kd.R_drewN | apply Kd.R_drew)); exact HQ11.out⟩, ⟨by repeat (first | (with_reducible first | exact HK.out | apply Kept.alloc | apply Kept.drewN | apply Kept.drew | refine Kept.setCell ?_ HMgo9.out _) | exact HK.out)⟩, ⟨by repeat (first | (with_reducible first | exact HB.out | apply below_alloc | apply pw_below_drewN | apply below_drew1 | refine below_set ?_ GB9.out) | exact HB.out)⟩⟩
      ·
       rw [if_neg c7] at H
       exact absurd H (by simp)
     ·
      rw [if_neg c6] at H
      exact absurd H (by simp)
    ·
     rw [if_neg c5] at H
     exact absurd H (by simp)
   ·
    rw [if_neg c4] at H
    have c4b0 : decide (x7_1 < (l0.length : Int)) = false := decide_eq_false c4
    (try simp only [hl0_1] at c4b0)
    clear c4
    obtain rfl := Option.some.inj H
    go_wp2
    first | go_end0 | ((try simp only [Exit.inBlock, Exit.then]); refine bodyPost_ret (results_none rfl _ _ _) rfl ?_)
    exact ⟨by first | rfl | (simp [errW_none, errW_some] <;> rfl) | (simp [*, errW_none, errW_some] <;> rfl), (by first | exact (pr HO_0) | (simp only [hl0_1]; exact (pr HO_0))), pb HB, by repeat (first | (with_reducible first | exact HK.out | apply Kept.alloc | apply Kept.drewN | apply Kept.drew) | exact HK.out)⟩

end Go.Proofs.YtfcedhejbnoinaaDoor.PR
