-- PRINTED by print.py (a twelfth state) out of the translation. Not trusted: Lean checks it.
import Derived.Test.YtfcedhejbnoinaaDoorPKx0
import Derived.Test.YtfcedhejbnoinaaDoorPKx3
namespace Go.Proofs.YtfcedhejbnoinaaDoor.PK
open Go.RowKit Go.Proofs.YtfcedhejbnoinaaDoorW.PrintWords Go.Proofs.YtfcedhejbnoinaaDoorW.PrintLast Go.Proofs.YtfcedhejbnoinaaDoorW.PrintMore
open Bool renaming true → T, false → F
open List renaming setIfInBounds_toArray → q1, set_cons_zero → q2, set_cons_succ → q3
attribute [local go_sem] run_store_func max2_int min2_int max_two min_two max_three min_three max_four min_four   -- for this text's walks alone
set_option linter.unusedVariables false
set_option linter.unusedSimpArgs false

/-! ### matrix_each_int_79: function 77 -/
def matrix_each_int_79.l0 : Nat → List Int → Int → Int → Unit → Int → List (S25) → Int → List (S25) → Option (Int × (List (S25)))
 | 0, _, _, _, _, _, _, _, _ => none
 | k + 1, x12, x13, x14, x169000, x170000, x170001, x172000, x172001 => if x14 < x13 then (if 0 ≤ x14 then (if x14 < (x12.length : Int) then ((matrix_Turn_1.f k (rd x12 x14) x169000 x170000 x170001).bind fun bt173 => (if x172001.length < 4398046511104 then (matrix_each_int_79.l0 k x12 x13 (wrap64 (x14 + 1)) x169000 x170000 x170001 x172000 (x172001 ++ [(⟨bt173.1, bt173.2⟩ : S25)])) else (none))) else (none)) else (none)) else (some (x172000, x172001))
def matrix_each_int_79.f (k : Nat) (a0 : Int) (l1 : List Int)  (a3_0 : Unit) (a4_0 : Int) (l4_1 : List (S25)) : Option (Int × (List (S25))) := matrix_each_int_79.l0 k l1 (l1.length : Int) 0 a3_0 a4_0 l4_1 a0 ([] : List (S25))
theorem matrix_each_int_79.mono_l : ∀ k, (∀ y0 y1 y2 y3 y4 y5 y6 y7, LeO (matrix_each_int_79.l0 k y0 y1 y2 y3 y4 y5 y6 y7) (matrix_each_int_79.l0 (k + 1) y0 y1 y2 y3 y4 y5 y6 y7))
 | 0 => fun _ _ _ _ _ _ _ _ r h => by simp [matrix_each_int_79.l0] at h
 | k + 1 => by
  have ih0 := matrix_each_int_79.mono_l k
  ·
   intro y0 y1 y2 y3 y4 y5 y6 y7
   unfold matrix_each_int_79.l0
   repeat' first
   | (with_reducible exact ih0 _ _ _ _ _ _ _ _)
   | (with_reducible exact matrix_Turn_1.mono _ _ _ _ _)
   | (with_reducible exact LeO.refl _)
   | (with_reducible exact LeO.none _)
   | (with_reducible refine LeO.ite ?_ ?_)
   | (with_reducible refine LeO.bind ?_ (fun _ => ?_))
   | exact ih0 _ _ _ _ _ _ _ _
   | exact matrix_Turn_1.mono _ _ _ _ _
   | exact LeO.none _
   | refine LeO.ite ?_ ?_
   | refine LeO.bind ?_ (fun _ => ?_)
theorem matrix_each_int_79.mono : ∀ a0 a1 a2 a3 a4 k, LeO (matrix_each_int_79.f k a0 a1 a2 a3 a4) (matrix_each_int_79.f (k + 1) a0 a1 a2 a3 a4) := by
 intro a0 a1 a2 a3 a4 k
 have ih0 := matrix_each_int_79.mono_l k
 unfold matrix_each_int_79.f
 repeat' first
   | (with_reducible exact ih0 _ _ _ _ _ _ _ _)
   | (with_reducible exact matrix_Turn_1.mono _ _ _ _ _)
   | (with_reducible exact LeO.refl _)
   | (with_reducible exact LeO.none _)
   | (with_reducible refine LeO.ite ?_ ?_)
   | (with_reducible refine LeO.bind ?_ (fun _ => ?_))
   | exact ih0 _ _ _ _ _ _ _ _
   | exact matrix_Turn_1.mono _ _ _ _ _
   | exact LeO.none _
   | refine LeO.ite ?_ ?_
   | refine LeO.bind ?_ (fun _ => ?_)
def matrix_each_int_79.T5 : Bool × List (List Nat × List Nat) := (true, [([], []), ([0], [0]), ([], []), ([], []), ([2, 3], [2, 3]), ([4], [4]), ([1, 5, 4], [1, 5]), ([0, 1, 2, 3, 4, 5, 6], []), ([7, 6, 6, 0, 1, 2, 3, 4, 5, 6], [6, 7])])
def matrix_each_int_79.B5 : List Nat := [0, 1, 0, 0, 12, 28, 63, 127, 255]
theorem matrix_each_int_79.tab5 : rtab .any (opsOf Tryd.f77 5) = matrix_each_int_79.T5 := by kernel_rfl
theorem matrix_each_int_79.bits5 : waitsOk matrix_each_int_79.T5.2 matrix_each_int_79.B5 = true := by kernel_rfl
set_option maxHeartbeats 8000000 in
set_option maxRecDepth 100000 in
theorem matrix_each_int_79.calls (k : Nat) (a0 : Int) (A1 : Option Addr) (c1 : Nat) (l1 : List Int)  (gb3_ : Nat) (a3_0 : Unit) (gb4_ : Nat) (a4_0 : Int) (A4_1 : Option Addr) (c4_1 : Nat) (l4_1 : List (S25)) (r1 : Int) (r2 : List (S25)) (w : World) (hr1 : Kd.C (Kd.int .i64) w A1 l1.length l1) (hc1 : l1.length ≤ c1) (hb3_ : w.heap[gb3_]? = some (.cells #[.func (.func 76) #[] #[]] 100 (0, 0))) (hb4_ : w.heap[gb4_]? = some (.cells #[.int .i64 a4_0, .slice A4_1 l4_1.length c4_1] 55 (0, 0))) (hr4_1 : Kd.C k25 w A4_1 l4_1.length l4_1) (hc4_1 : l4_1.length ≤ c4_1) (h : matrix_each_int_79.f k a0 l1 a3_0 a4_0 l4_1 = some (r1, r2)) :
  Calls Tryd.prog 77 #[.int .i64 a0, .slice A1 l1.length c1, (.func (.func 79) #[] #[.pointer (some ⟨gb3_, 0, none⟩), .pointer (some ⟨gb4_, 0, none⟩)])] w fun e w' => ∃ v1_ : Value, e = .returned (.agg #[.int .i64 r1, v1_]) ∧ Kd.S k25 25 w' w.heap.size (fun _ => True) v1_ r2 ∧ Below w.heap.size w w' := by
 have hu55 := Tryd.underlying55
 have HR1 := Aside0.mk hr1
 have HC1 := Aside0.mk hc1
 clear hr1 hc1
 have HR4_1 := Aside0.mk hr4_1
 have HC4_1 := Aside0.mk hc4_1
 clear hr4_1 hc4_1
 have BK168 := Aside0.mk hb3_
 clear hb3_
 have BK169 := Aside0.mk hb4_
 clear hb4_
 have HB := am (Below.refl w.heap.size w)
 have H : (matrix_each_int_79.l0 k l1 (l1.length : Int) 0 a3_0 a4_0 l4_1 a0 ([] : List (S25))) = some (r1, r2) := h
 clear h
 have H' := Aside0.mk H
 clear H
 go_enter Tryd.func77, Tryd.ntmps77
 go_wp2_with (first | ((with_reducible refine gate_dst (N := 6) rfl ?_); refine box_event ?hg (N := 6) ?hd (cs := #[.int .i64 0, .slice none 0 0]) (t := 55) ?hr ?_; (case hd => rfl); (case hg => rfl); (case hr => first | (go_simp; done) | (go_simp; rfl)); intro gb170 hg w6 hbox hb; have n0_ := am (blk_below (g := gb3_) (o := .cells #[.func (.func 76) #[] #[]] 100 (0, 0)) (pk BK168) hb); have n1_ := am (blk_below (g := gb4_) (o := .cells #[.int .i64 a4_0, .slice A4_1 l4_1.length c4_1] 55 (0, 0)) (pk BK169) hb); have n2_ := am (below_step (pb HB) hb); have n3_ := am (hbox); have n4_ := am ((by rw [hg]; exact (below_size (pb HB)) : w.heap.size ≤ gb170)); have n5_ := am ((by rw [hg]; exact (below_size (pb HB)) : w.heap.size ≤ gb170)); have n6_ := am ((by rw [hg]; exact Nat.ne_of_lt (blk_lt (g := gb3_) (o := .cells #[.func (.func 76) #[] #[]] 100 (0, 0)) (pk BK168)) : gb3_ ≠ gb170)); have n7_ := am ((by rw [hg]; exact Nat.ne_of_gt (blk_lt (g := gb3_) (o := .cells #[.func (.func 76) #[] #[]] 100 (0, 0)) (pk BK168)) : gb170 ≠ gb3_)); have n8_ := am ((by rw [hg]; exact Nat.ne_of_lt (blk_lt (g := gb4_) (o := .cells #[.int .i64 a4_0, .slice A4_1 l4_1.length c4_1] 55 (0, 0)) (pk BK169)) : gb4_ ≠ gb170)); have n9_ := am ((by rw [hg]; exact Nat.ne_of_gt (blk_lt (g := gb4_) (o := .cells #[.int .i64 a4_0, .slice A4_1 l4_1.length c4_1] 55 (0, 0)) (pk BK169)) : gb170 ≠ gb4_)); clear BK168 BK169 HB; have BK168 := n0_; have BK169 := n1_; have HB := n2_; have BK170 := n3_; have GW170 := n4_; have GE170 := n5_; have NB168_170 := n6_; have NB170_168 := n7_; have NB169_170 := n8_; have NB170_169 := n9_; clear n0_ n1_ n2_ n3_ n4_ n5_ n6_ n7_ n8_ n9_ hb hbox hg) | ((with_reducible refine gate_dst (N := 7) rfl ?_); refine box_event ?hg (N := 7) ?hd (cs := #[.int .i64 0, .slice none 0 0]) (t := 55) ?hr ?_; (case hd => rfl); (case hg => rfl); (case hr => first | (go_simp; done) | (go_simp; rfl)); intro gb171 hg w7 hbox hb; have n0_ := am (blk_below (g := gb3_) (o := .cells #[.func (.func 76) #[] #[]] 100 (0, 0)) (pk BK168) hb); have n1_ := am (blk_below (g := gb4_) (o := .cells #[.int .i64 a4_0, .slice A4_1 l4_1.length c4_1] 55 (0, 0)) (pk BK169) hb); have n2_ := bb BK170 hb; have n3_ := am (below_step (pb HB) hb); have n4_ := am (hbox); have n5_ := am ((by rw [hg]; exact (below_size (pb HB)) : w.heap.size ≤ gb171)); have n6_ := am ((by rw [hg]; exact (below_size (pb HB)) : w.heap.size ≤ gb171)); have n7_ := am ((by rw [hg]; exact Nat.ne_of_lt (blk_lt (g := gb3_) (o := .cells #[.func (.func 76) #[] #[]] 100 (0, 0)) (pk BK168)) : gb3_ ≠ gb171)); have n8_ := am ((by rw [hg]; exact Nat.ne_of_gt (blk_lt (g := gb3_) (o := .cells #[.func (.func 76) #[] #[]] 100 (0, 0)) (pk BK168)) : gb171 ≠ gb3_)); have n9_ := am ((by rw [hg]; exact Nat.ne_of_lt (blk_lt (g := gb4_) (o := .cells #[.int .i64 a4_0, .slice A4_1 l4_1.length c4_1] 55 (0, 0)) (pk BK169)) : gb4_ ≠ gb171)); have n10_ := am ((by rw [hg]; exact Nat.ne_of_gt (blk_lt (g := gb4_) (o := .cells #[.int .i64 a4_0, .slice A4_1 l4_1.length c4_1] 55 (0, 0)) (pk BK169)) : gb171 ≠ gb4_)); have n11_ := am ((by rw [hg]; exact Nat.ne_of_lt (bl BK170) : gb170 ≠ gb171)); have n12_ := am ((by rw [hg]; exact Nat.ne_of_gt (bl BK170) : gb171 ≠ gb170)); clear BK168 BK169 BK170 HB; have BK168 := n0_; have BK169 := n1_; have BK170 := n2_; have HB := n3_; have BK171 := n4_; have GW171 := n5_; have GE171 := n6_; have NB168_171 := n7_; have NB171_168 := n8_; have NB169_171 := n9_; have NB171_169 := n10_; have NB170_171 := n11_; have NB171_170 := n12_; clear n0_ n1_ n2_ n3_ n4_ n5_ n6_ n7_ n8_ n9_ n10_ n11_ n12_ hb hbox hg; have hnb8 := NB171_168.out; have hnc8 := NB168_171.out; have hnb9 := NB171_169.out; have hnc9 := NB169_171.out; have hnb10 := NB171_170.out; have hnc10 := NB170_171.out; have hcz11_0 : w7.cell? ⟨gb171, 0, none⟩ = some (.int .i64 0) := (blk_cell BK171.out 0).trans rfl; have hcz11_1 : w7.cell? ⟨gb171, 1, none⟩ = some (.slice none 0 0) := (blk_cell BK171.out 1).trans rfl; have hfz11_0 := blk_frozen BK171.out 0; have hfz11_1 := blk_frozen BK171.out 1))
 go_loopg [14] k (fun kq v14 w' => ∃ (x14_1 : Int) (x172001_1 : List (S25)) (u172001 : Value), v14 = .int .i64 x14_1 ∧ Aside0 (matrix_each_int_79.l0 kq l1 (l1.length : Int) x14_1 a3_0 a4_0 l4_1 a0 x172001_1 = some (r1, r2)) ∧ Aside0 (kq ≤ k) ∧ Aside0 (Kd.S k25 25 w' w.heap.size (fun _ => True) u172001 x172001_1) ∧ Aside0 (w'.heap[gb3_]? = some (.cells #[.func (.func 76) #[] #[]] 100 (0, 0))) ∧ Aside0 (w'.heap[gb4_]? = some (.cells #[.int .i64 a4_0, (.slice A4_1 l4_1.length c4_1)] 55 (0, 0))) ∧ Aside0 (w'.heap[gb170]? = some (.cells #[.int .i64 0, (.slice none 0 0)] 55 (0, 0))) ∧ Aside0 (w'.heap[gb171]? = some (.cells #[.int .i64 a0, u172001] 55 (0, 0))) ∧ Aside0 (Below w.heap.size w w'))
 case atStart => exact ⟨(0), (([] : List (S25))), (.slice none 0 0), (by first | rfl | (simp; done) | (simp [*]; done)), H', ⟨Nat.le_refl _⟩, ⟨by first | exact Kd.S_nil _ _ _ _ _ | exact Kd.N_nil _ _ _ _ _ | exact Kd.V_nil _ _ _ _ _ | exact Kd.Q_nil _ _ _ _ _ | exact Kd.R_nil _ _ _ _ _⟩, ⟨by (with_reducible repeat (first | refine blk_drewN ?_ _ | refine blk_drew ?_ | refine blk_alloc ?_ _)); refine blk_far ?_ NB168_171.out _; (with_reducible repeat (first | refine blk_drewN ?_ _ | refine blk_drew ?_ | refine blk_alloc ?_ _)); refine blk_far ?_ NB168_171.out _; (with_reducible repeat (first | refine blk_drewN ?_ _ | refine blk_drew ?_ | refine blk_alloc ?_ _)); exact BK168.out⟩, ⟨by (with_reducible repeat (first | refine blk_drewN ?_ _ | refine blk_drew ?_ | refine blk_alloc ?_ _)); refine blk_far ?_ NB169_171.out _; (with_reducible repeat (first | refine blk_drewN ?_ _ | refine blk_drew ?_ | refine blk_alloc ?_ _)); refine blk_far ?_ NB169_171.out _; (with_reducible repeat (first | refine blk_drewN ?_ _ | refine blk_drew ?_ | refine blk_alloc ?_ _)); exact BK169.out⟩, ⟨by (with_reducible repeat (first | refine blk_drewN ?_ _ | refine blk_drew ?_ | refine blk_alloc ?_ _)); refine blk_far ?_ NB170_171.out _; (with_reducible repeat (first | refine blk_drewN ?_ _ | refine blk_drew ?_ | refine blk_alloc ?_ _)); refine blk_far ?_ NB170_171.out _; (with_reducible repeat (first | refine blk_drewN ?_ _ | refine blk_drew ?_ | refine blk_alloc ?_ _)); exact BK170.out⟩, ⟨by (with_reducible repeat (first | refine blk_drewN ?_ _ | refine blk_drew ?_ | refine blk_alloc ?_ _)); refine blk_put (cs := #[.int .i64 a0, .slice none 0 0]) ?_ 1 _ rfl; (with_reducible repeat (first | refine blk_drewN ?_ _ | refine blk_drew ?_ | refine blk_alloc ?_ _)); refine blk_put (cs := #[.int .i64 0, .slice none 0 0]) ?_ 0 _ rfl; (with_reducible repeat (first | refine blk_drewN ?_ _ | refine blk_drew ?_ | refine blk_alloc ?_ _)); exact BK171.out⟩, ⟨pb HB⟩⟩
 case round =>
  clear H'
  try clear c1
  try clear p2
  try clear c4
  try clear c8
  try clear c9
  try clear c10
  try clear hcz11_0
  try clear hcz11_1
  try clear hfz11_0
  try clear hfz11_1
  obtain ⟨x14_1, x172001_1, u172001, rfl, HA, HK1, HO_172001, BK168, BK169, BK170, BK171, HB⟩ := hrel
  cases gk with
  | zero => exact absurd HA.out (by simp [matrix_each_int_79.l0])
  | succ k1 =>
   have H := HA.out
   clear HA
   simp only [matrix_each_int_79.l0] at H
   by_cases c12 : x14_1 < (l1.length : Int)
   ·
    rw [if_pos c12] at H
    have c12b0 : decide (x14_1 < (l1.length : Int)) = true := decide_eq_true c12
    clear c12
    by_cases c13 : 0 ≤ x14_1
    ·
     rw [if_pos c13] at H
     have c13b0 : decide (0 ≤ x14_1) = true := decide_eq_true c13
     clear c13
     by_cases c14 : x14_1 < (l1.length : Int)
     ·
      rw [if_pos c14] at H
      have c14b0 : decide (x14_1 < (l1.length : Int)) = true := decide_eq_true c14
      clear c14
      replace H := Option.bind_eq_some_iff.mp H
      obtain ⟨⟨t173, t174⟩, A150, H⟩ := H
      replace H : (if x172001_1.length < 4398046511104 then (matrix_each_int_79.l0 k1 l1 (l1.length : Int) (wrap64 (x14_1 + 1)) a3_0 a4_0 l4_1 a0 (x172001_1 ++ [(⟨t173, t174⟩ : S25)])) else (none)) = some (r1, r2) := H
      have A15 := Aside0.mk A150
      clear A150
      by_cases c16 : x172001_1.length < 4398046511104
      ·
       rw [if_pos c16] at H
       have LMc16 := Aside0.mk c16
       clear c16
       obtain ⟨y177, hy177⟩ : ∃ y_ : List (S25), y_ = (x172001_1 ++ [(⟨t173, t174⟩ : S25)]) := ⟨_, rfl⟩
       replace H : (matrix_each_int_79.l0 k1 l1 (l1.length : Int) (wrap64 (x14_1 + 1)) a3_0 a4_0 l4_1 a0 y177) = some (r1, r2) := by first | (rw [hy177]; with_reducible exact H) | (have H2_ := (Option.bind_some _ _).symm.trans H; rw [hy177]; with_reducible exact H2_) | (have H2_ := (Option.bind_some _ _).symm.trans H; with_reducible exact H2_) | with_reducible exact H | (rw [hy177]; exact H) | exact H
       have Ny177 := Aside0.mk hy177
       clear hy177
       have H' := Aside0.mk H
       clear H
       have p172 : 0 ≤ (x14_1 : Int) := of_decide_eq_true (by first | (with_reducible assumption) | assumption)
       have q172 : x14_1 < (l1.length : Int) := of_decide_eq_true (by first | (with_reducible assumption) | assumption)
       obtain ⟨ad172, e172, hx172_0⟩ := Kd.at_int HR1.out x14_1 p172 q172
       cases e172
       replace hx172_0 := (HB.out.cell (World.block_lt_of_cell? w _ hx172_0)).trans hx172_0
       replace p172 := eq_true p172
       replace q172 := eq_true q172
       try go_wp2
       have n0_ := am (Kd.S_drew HO_172001.out)
       have n1_ := am (blk_drew BK168.out)
       have n2_ := am (blk_drew BK169.out)
       have n3_ := am (blk_drew BK170.out)
       have n4_ := am (blk_drew BK171.out)
       have n5_ := am (below_drew1 HB.out)
       clear HO_172001
       clear BK168
       clear BK169
       clear BK170
       clear BK171
       clear HB
       have HO_172001 := n0_
       have BK168 := n1_
       have BK169 := n2_
       have BK170 := n3_
       have BK171 := n4_
       have HB := n5_
       clear n0_ n1_ n2_ n3_ n4_ n5_
       refine start_ (n := 9) (S := fun w' => w'.cell? ⟨gb171, 0, none⟩ = some (.int .i64 a0) ∧ w'.cell? ⟨gb171, 1, none⟩ = some (u172001)) (ds := [8]) #[F, F, F, F, F, F, F, F, F] (by kernel_rfl) rfl rfl ⟨(blk_cell BK171.out 0).trans rfl, (blk_cell BK171.out 1).trans rfl⟩ (fun hHeld => ?_); refine with_tabW matrix_each_int_79.tab5 matrix_each_int_79.bits5 (fun HT_ HW_ => ?_)
       generalize wr.drew = w17 at HO_172001 BK168 BK169 BK170 BK171 HB hHeld ⊢
       refine pure_ (i := 0) (N := some 18) (v := ?_) (a' := ?_) #[T, F, F, F, F, F, F, F, F] rfl rfl (any_of HT_.out (by kernel_rfl)) (fun _ _ _ h => h) (Or.inl ⟨by rfl, ?_⟩) ?_ ?_
       rotate_left
       ·
        intro w'
        go_simp
        with_reducible rfl
       rotate_left
       ·
        simp only [Act.put, q1, q2, q3, i64_w, i32_w]
        rfl
       refine pure_ (i := 2) (N := some 20) (v := ?_) (a' := ?_) #[T, F, T, F, F, F, F, F, F] rfl rfl (any_of HT_.out (by kernel_rfl)) (fun _ _ _ h => h) (Or.inl ⟨by rfl, ?_⟩) ?_ ?_
       rotate_left
       ·
        intro w'
        go_simp
        with_reducible rfl
       rotate_left
       ·
        simp only [Act.put, q1, q2, q3, i64_w, i32_w]
        rfl
       refine pure_ (i := 3) (N := some 21) (v := ?_) (a' := ?_) #[T, F, T, T, F, F, F, F, F] rfl rfl (any_of HT_.out (by kernel_rfl)) (fun _ _ _ h => h) (Or.inl ⟨by rfl, ?_⟩) ?_ ?_
       rotate_left
       ·
        intro w'
        go_simp
        with_reducible rfl
       rotate_left
       ·
        simp only [Act.put, q1, q2, q3, i64_w, i32_w]
        rfl
       refine take_ (i := 1) (N := some 19) (v := ?_) (a' := ?_) #[T, T, T, T, F, F, F, F, F] rfl rfl (take_ofW HT_.out HW_.out (by kernel_rfl)) (fun _ _ _ h => h) (Or.inl ⟨by rfl, ?_⟩) hHeld ?_ ?_
       rotate_left
       ·
        rintro w' ⟨s0, s1⟩
        go_simp
        with_reducible rfl
       rotate_left
       ·
        simp only [Act.put, q1, q2, q3, i64_w, i32_w]
        rfl
       refine one_ (i := 4) (N := some 22) #[T, T, T, T, T, F, F, F, F] rfl rfl (one_of HT_.out (by kernel_rfl)) (by decide) (fun K hK => ?_)
       refine goesT_ 20 Tryd.func79 (by kernel_rfl) rfl #[.int .i64 (rd l1 x14_1)] #[.pointer (some ⟨gb3_, 0, none⟩), .pointer (some ⟨gb4_, 0, none⟩)] #[.int .i64 (rd l1 x14_1), .pointer (some ⟨gb3_, 0, none⟩), .pointer (some ⟨gb4_, 0, none⟩)] (by rfl) rfl rfl (by rfl) (by (try simp only [List.map_toArray, List.map_cons, List.map_nil]); first | done | rfl | (simp only [List.length_drop, List.length_take]; rfl)) (by rfl) ?_
       with_reducible refine (matrix_Turn_1.calls k1 (rd l1 x14_1) gb3_ a3_0 gb4_ a4_0 A4_1 c4_1 l4_1 t173 t174 _ ?side1 ?side2 ?side3 ?side4 A15.out).mono ?_
       (case side1 => (with_reducible repeat (first | refine blk_drewN ?_ _ | refine blk_drew ?_ | refine blk_alloc ?_ _)); exact BK168.out)
       (case side2 => (with_reducible repeat (first | refine blk_drewN ?_ _ | refine blk_drew ?_ | refine blk_alloc ?_ _)); exact BK169.out)
       (case side3 => repeat (first | exact (Kd.C_below HR4_1.out HB.out) | (with_reducible refine Kd.C_alloc ?_ _) | (with_reducible refine Kd.C_drewN ?_ _) | (with_reducible refine Kd.C_drew ?_)))
       (case side4 => exact HC4_1.out)
       rintro e w18 ⟨v175, rfl, ho0, hb⟩
       refine ⟨_, rfl, ?_⟩
       have n0_ := am (Kd.S_elder' (by (with_reducible repeat (first | apply Kd.S_alloc | apply Kd.S_drewN | apply Kd.S_drew)); exact HO_172001.out) (Kd.R_base ho0) hb)
       have n1_ := am (Kd.R_lower ho0 (below_size (pb HB)))
       have n2_ := am (blk_below (g := gb3_) (o := .cells #[.func (.func 76) #[] #[]] 100 (0, 0)) (pk BK168) hb)
       have n3_ := am (blk_below (g := gb4_) (o := .cells #[.int .i64 a4_0, .slice A4_1 l4_1.length c4_1] 55 (0, 0)) (pk BK169) hb)
       have n4_ := bb BK170 hb
       have n5_ := bb BK171 hb
       have n6_ := am (below_step (pb HB) hb)
       clear HO_172001
       clear BK168
       clear BK169
       clear BK170
       clear BK171
       clear HB
       have HO_172001 := n0_
       have HO176 := n1_
       have BK168 := n2_
       have BK169 := n3_
       have BK170 := n4_
       have BK171 := n5_
       have HB := n6_
       clear n0_ n1_ n2_ n3_ n4_ n5_ n6_
       (try clear hb)
       (try clear hb2)
       (try clear hk)
       (try clear hi)
       (try clear ho0)
       obtain ⟨Ao20, co20, eo20⟩ := Kd.R_slice HO176.out
       (first | subst eo20 | (injection eo20 with f1_ f2_ f3_; have f4_ := f1_.symm; have f5_ := f3_.symm; clear f1_ f2_ f3_; subst f4_; subst f5_))
       refine hK.out _ _ ⟨(blk_cell BK171.out 0).trans rfl, (blk_cell BK171.out 1).trans rfl⟩ (fun hHeld => ?_)
       clear hK K
       refine norm_ (a' := ?_) ?_ ?_
       rotate_left
       ·
        show Act.put _ (some 22) _ = _
        simp only [Act.put, q1, q2, q3, i64_w, i32_w]
        rfl
       refine one_ (i := 5) (N := some 23) #[T, T, T, T, T, T, F, F, F] rfl rfl (one_of HT_.out (by kernel_rfl)) (by decide) (fun K hK => ?_)
       refine value_ (w1 := ?_) (v := ?_) (by rfl) rfl ?_ ?_
       rotate_left 2
       ·
        go_simp
        constructor
        ·
         rfl
        ·
         rfl
       refine hK.out _ _ ⟨(blk_cell (blk_alloc BK171.out _) 0).trans rfl, (blk_cell (blk_alloc BK171.out _) 1).trans rfl⟩ (fun hHeld => ?_)
       clear hK K
       refine norm_ (a' := ?_) ?_ ?_
       rotate_left
       ·
        show Act.put _ (some 23) _ = _
        simp only [Act.put, q1, q2, q3, i64_w, i32_w]
        rfl
       refine one_ (i := 6) (N := some 24) #[T, T, T, T, T, T, T, F, F] rfl rfl (one_of HT_.out (by kernel_rfl)) (by decide) (fun K hK => ?_)
       refine Kd.S_append_step k25 (w0 := w) w.heap.size (by rfl) (.tmp 19) (.tmp 23) 53 25 (.agg #[(.int .i64 0), (.slice none 0 0)]) 32 rfl Tryd.underlying53 info25 rfl (by decide) (by omega) u172001 x172001_1 (⟨t173, t174⟩ : S25) [.int .i64 t173, .slice Ao20 t174.length co20] (fun _ => True) (fun k_ => some k_ = (.slice Ao20 t174.length co20 : Value).ownBlock) rfl rfl ?aP (fun k_ hk_ => ((Kd.R_mono (ok' := fun k_ => ((fun _ => True)) k_ ∧ some k_ ≠ (u172001 : Value).ownBlock) (Kd.R_apart' (HO176.out) (Kd.S_typed HO_172001.out) (by decide)) (fun k_ hk => ⟨trivial, hk.2⟩))).1 k_ hk_.symm) ?aF ?aO ?aB ?aS ?aL ?_
       (case aP => exact k25_mkM _ _ _ (⟨t173, t174⟩ : S25) (Kd.R_mono (Kd.R_tight rfl (Kd.R_mono (ok' := fun k_ => ((fun _ => True)) k_ ∧ some k_ ≠ (u172001 : Value).ownBlock) (Kd.R_apart' (HO176.out) (Kd.S_typed HO_172001.out) (by decide)) (fun k_ hk => ⟨trivial, hk.2⟩))) (fun _ h_ => h_)))
       (case aB => exact (pb HB))
       (case aF => exact (fun _ _ => trivial))
       (case aO => exact (by (with_reducible repeat (first | apply Kd.S_alloc | apply Kd.S_drewN | apply Kd.S_drew)); exact Kd.S_mono HO_172001.out (fun k_ hk => ⟨trivial, fun e_ => hk.2 e_⟩)))
       (case aS => exact (below_size (pb HB)))
       (case aL => have := LMc16.out; omega)
       intro v178 w19 ho hb hg hat
       rw [← Ny177.out] at ho
       have n0_ := am (blk_grown (g := gb3_) (o := .cells #[.func (.func 76) #[] #[]] 100 (0, 0)) (pk BK168) hg (Kd.S_ne HO_172001.out BK168.out (by decide)))
       have n1_ := am (blk_grown (g := gb4_) (o := .cells #[.int .i64 a4_0, .slice A4_1 l4_1.length c4_1] 55 (0, 0)) (pk BK169) hg (Kd.S_ne HO_172001.out BK169.out (by decide)))
       have n2_ := am (blk_grown (g := gb170) (o := .cells #[.int .i64 0, .slice none 0 0] 55 (0, 0)) (pk BK170) hg (Kd.S_ne HO_172001.out BK170.out (by decide)))
       have n3_ := am (blk_grown (g := gb171) (o := .cells #[.int .i64 a0, u172001] 55 (0, 0)) (pk BK171) hg (Kd.S_ne HO_172001.out BK171.out (by decide)))
       have n4_ := am (hb)
       have n5_ := am (ho)
       clear BK168
       clear BK169
       clear BK170
       clear BK171
       clear HB
       clear HO_172001
       clear HO176
       have BK168 := n0_
       have BK169 := n1_
       have BK170 := n2_
       have BK171 := n3_
       have HB := n4_
       have HO179 := n5_
       clear n0_ n1_ n2_ n3_ n4_ n5_
       clear ho hb hg hat
       obtain ⟨Ao21, co21, eo21⟩ := Kd.S_slice HO179.out
       (first | subst eo21 | (injection eo21 with f1_ f2_ f3_; have f4_ := f1_.symm; have f5_ := f3_.symm; clear f1_ f2_ f3_; subst f4_; subst f5_))
       refine hK.out _ _ ⟨(blk_cell BK171.out 0).trans rfl, (blk_cell BK171.out 1).trans rfl⟩ (fun hHeld => ?_)
       clear hK K
       refine norm_ (a' := ?_) ?_ ?_
       rotate_left
       ·
        show Act.put _ (some 24) _ = _
        simp only [Act.put, q1, q2, q3, i64_w, i32_w]
        rfl
       refine pure_ (i := 7) (N := some 25) (v := ?_) (a' := ?_) #[T, T, T, T, T, T, T, T, F] rfl rfl (any_of HT_.out (by kernel_rfl)) (fun _ _ _ h => h) (Or.inl ⟨by rfl, ?_⟩) ?_ ?_
       rotate_left
       ·
        intro w'
        go_simp
        with_reducible rfl
       rotate_left
       ·
        simp only [Act.put, q1, q2, q3, i64_w, i32_w]
        rfl
       refine last_ (i := 8) (N := none) #[T, T, T, T, T, T, T, T, T] rfl rfl (one_of HT_.out (by kernel_rfl)) (by decide) (fun K hK => ?_)
       have hs22 : w19.cell? ⟨gb171, 1, none⟩ = some (u172001) := (blk_cell BK171.out 1).trans rfl
       have hfs22 := blk_frozen BK171.out 1
       have hns22_0 := NB168_171.out
       have hns22_1 := NB169_171.out
       have hns22_2 := NB170_171.out
       have hms22_0 := NB171_168.out
       have hms22_1 := NB171_169.out
       have hms22_2 := NB171_170.out
       refine skip_ (w1 := ?_) (by rfl) rfl ?_ ?_
       rotate_left
       ·
        go_simp
        rfl
       refine hK.out _ _ ?_
       clear hK K
       refine done_ (done_of HT_.out (by kernel_rfl)) ?_
       try go_wp2
       go_roundg k1
       case measure => have := HK1.out; omega
       case rel => exact ⟨(wrap64 (x14_1 + 1)), (y177), (.slice Ao21 y177.length co21), (by first | rfl | (simp; done) | (simp [*]; done)), H', ⟨by have := HK1.out; omega⟩, ⟨by (with_reducible repeat (first | apply Kd.S_alloc | apply Kd.S_drewN | apply Kd.S_drew)); exact Kd.S_mono (Kd.S_far (p := ⟨gb171, 1, none⟩) (Kd.S_types HO179.out BK171.out (by decide)) (fun _ hk => hk.2) (.slice Ao21 y177.length co21)) (fun _ hk => trivial)⟩, ⟨by (with_reducible repeat (first | refine blk_drewN ?_ _ | refine blk_drew ?_ | refine blk_alloc ?_ _)); refine blk_far ?_ NB168_171.out _; (with_reducible repeat (first | refine blk_drewN ?_ _ | refine blk_drew ?_ | refine blk_alloc ?_ _)); exact BK168.out⟩, ⟨by (with_reducible repeat (first | refine blk_drewN ?_ _ | refine blk_drew ?_ | refine blk_alloc ?_ _)); refine blk_far ?_ NB169_171.out _; (with_reducible repeat (first | refine blk_drewN ?_ _ | refine blk_drew ?_ | refine blk_alloc ?_ _)); exact BK169.out⟩, ⟨by (with_reducible repeat (first | refine blk_drewN ?_ _ | refine blk_drew ?_ | refine blk_alloc ?_ _)); refine blk_far ?_ NB170_171.out _; (with_reducible repeat (first | refine blk_drewN ?_ _ | refine blk_drew ?_ | refine blk_alloc ?_ _)); exact BK170.out⟩, ⟨by (with_reducible repeat (first | refine blk_drewN ?_ _ | refine blk_drew ?_ | refine blk_alloc ?_ _)); refine blk_put (cs := #[.int .i64 a0, u172001]) ?_ 1 _ rfl; (with_reducible repeat (first | refine blk_drewN ?_ _ | refine blk_drew ?_ | refine blk_alloc ?_ _)); exact BK171.out⟩, ⟨pb HB⟩⟩
      ·
       rw [if_neg c16] at H
       exact absurd H (by simp)
     ·
      rw [if_neg c14] at H
      exact absurd H (by simp)
    ·
     rw [if_neg c13] at H
     exact absurd H (by simp)
   ·
    rw [if_neg c12] at H
    have c12b0 : decide (x14_1 < (l1.length : Int)) = false := decide_eq_false c12
    clear c12
    simp only [Option.some.injEq, Prod.mk.injEq] at H
    obtain ⟨rfl, rfl⟩ := H
    have hnb23 := NB171_168.out
    have hnc23 := NB168_171.out
    have hnb24 := NB171_169.out
    have hnc24 := NB169_171.out
    have hnb25 := NB171_170.out
    have hnc25 := NB170_171.out
    have hcz26_0 : wr.cell? ⟨gb171, 0, none⟩ = some (.int .i64 a0) := (blk_cell BK171.out 0).trans rfl
    have hcz26_1 : wr.cell? ⟨gb171, 1, none⟩ = some (u172001) := (blk_cell BK171.out 1).trans rfl
    have hfz26_0 := blk_frozen BK171.out 0
    have hfz26_1 := blk_frozen BK171.out 1
    have hnb27 := NB170_168.out
    have hnc27 := NB168_170.out
    have hnb28 := NB170_169.out
    have hnc28 := NB169_170.out
    have hcz29_0 : wr.cell? ⟨gb170, 0, none⟩ = some (.int .i64 0) := (blk_cell BK170.out 0).trans rfl
    have hcz29_1 : wr.cell? ⟨gb170, 1, none⟩ = some (.slice none 0 0) := (blk_cell BK170.out 1).trans rfl
    have hfz29_0 := blk_frozen BK170.out 0
    have hfz29_1 := blk_frozen BK170.out 1
    obtain ⟨Ao30, co30, eo30⟩ := Kd.S_slice HO_172001.out
    subst eo30
    go_wp2
    refine bodyPost_ret (results_cell_row rfl _ _ gb170 55 #[.int .i64 a0, .slice Ao30 x172001_1.length co30] (0, 0) _ rfl (by (with_reducible repeat (first | refine blk_drewN ?_ _ | refine blk_drew ?_ | refine blk_alloc ?_ _)); refine blk_put (cs := #[.int .i64 a0, .slice none 0 0]) ?_ 1 _ rfl; (with_reducible repeat (first | refine blk_drewN ?_ _ | refine blk_drew ?_ | refine blk_alloc ?_ _)); refine blk_put (cs := #[.int .i64 0, .slice none 0 0]) ?_ 0 _ rfl; (with_reducible repeat (first | refine blk_drewN ?_ _ | refine blk_drew ?_ | refine blk_alloc ?_ _)); exact BK170.out) Tryd.underlying55 rfl (by kernel_rfl)) rfl ?_
    exact ⟨_, by first | rfl | (simp [errW_none, errW_some] <;> rfl) | (simp [*, errW_none, errW_some] <;> rfl), by (with_reducible repeat (first | apply Kd.S_alloc | apply Kd.S_drewN | apply Kd.S_drew)); exact Kd.S_mono (Kd.S_far (p := ⟨gb170, 1, none⟩) (Kd.S_far (p := ⟨gb170, 0, none⟩) (Kd.S_types HO_172001.out BK170.out (by decide)) (fun _ hk => hk.2) (.int .i64 a0)) (fun _ hk => hk.2) (.slice Ao30 x172001_1.length co30)) (fun _ hk => trivial), pb HB⟩

/-! ### matrix_Turn: function 44 -/
def matrix_Turn.f (k : Nat) (a0_0 : Int) (l0_1 : List (S25)) : Option (Int × (List (S25)) × Int) := (matrix_Right.f k a0_0 l0_1).bind fun t182 => (if t182 = true then ((matrix_numbers.f k a0_0).bind fun t184 => ((matrix_each_int_79.f k (l0_1.length : Int) t184 () a0_0 l0_1).bind fun bt187 => (some (bt187.1, bt187.2, 0)))) else (some (0, ([] : List (S25)), 1)))
theorem matrix_Turn.mono : ∀ a0 a1 k, LeO (matrix_Turn.f k a0 a1) (matrix_Turn.f (k + 1) a0 a1) := by
 intro a0 a1 k
 unfold matrix_Turn.f
 repeat' first
   | (with_reducible exact matrix_Right.mono _ _ _)
   | (with_reducible exact matrix_each_int_79.mono _ _ _ _ _ _)
   | (with_reducible exact matrix_numbers.mono _ _)
   | (with_reducible exact LeO.refl _)
   | (with_reducible exact LeO.none _)
   | (with_reducible refine LeO.ite ?_ ?_)
   | (with_reducible refine LeO.bind ?_ (fun _ => ?_))
   | exact matrix_Right.mono _ _ _
   | exact matrix_each_int_79.mono _ _ _ _ _ _
   | exact matrix_numbers.mono _ _
   | exact LeO.none _
   | refine LeO.ite ?_ ?_
   | refine LeO.bind ?_ (fun _ => ?_)
def matrix_Turn.T4 : Bool × List (List Nat × List Nat) := (true, [([], []), ([0], [0]), ([1], [1]), ([], []), ([3], [3]), ([4], [4]), ([], []), ([2, 5, 6, 5], [2, 5, 6]), ([7, 7, 0, 1, 2, 3, 4, 5, 6, 7], [7]), ([8, 0, 1, 2, 3, 4, 5, 6, 7, 8], [])])
def matrix_Turn.B4 : List Nat := [0, 1, 3, 0, 8, 24, 0, 127, 255, 511]
theorem matrix_Turn.tab4 : rtab .any (opsOf Tryd.f44 4) = matrix_Turn.T4 := by kernel_rfl
theorem matrix_Turn.bits4 : waitsOk matrix_Turn.T4.2 matrix_Turn.B4 = true := by kernel_rfl
set_option maxHeartbeats 8000000 in
set_option maxRecDepth 100000 in
theorem matrix_Turn.calls (k : Nat) (a0_0 : Int) (A0_1 : Option Addr) (c0_1 : Nat) (l0_1 : List (S25)) (r1 : Int) (r2 : List (S25)) (r3 : Int) (w : World) (hr0_1 : Kd.C k25 w A0_1 l0_1.length l0_1) (hc0_1 : l0_1.length ≤ c0_1) (h : matrix_Turn.f k a0_0 l0_1 = some (r1, r2, r3)) :
  Calls Tryd.prog 44 #[.agg #[.int .i64 a0_0, .slice A0_1 l0_1.length c0_1]] w fun e w' => ∃ v1_ : Value, e = .returned (.tuple #[.agg #[.int .i64 r1, v1_], .int .i64 r3]) ∧ Kd.S k25 25 w' w.heap.size (fun _ => True) v1_ r2 ∧ Below w.heap.size w w' := by
 have hu55 := Tryd.underlying55
 have HR0_1 := Aside0.mk hr0_1
 have HC0_1 := Aside0.mk hc0_1
 clear hr0_1 hc0_1
 have HB := am (Below.refl w.heap.size w)
 have H : ((matrix_Right.f k a0_0 l0_1).bind fun t182 => (if t182 = true then ((matrix_numbers.f k a0_0).bind fun t184 => ((matrix_each_int_79.f k (l0_1.length : Int) t184 () a0_0 l0_1).bind fun bt187 => (some (bt187.1, bt187.2, 0)))) else (some (0, ([] : List (S25)), 1)))) = some (r1, r2, r3) := h
 clear h
 replace H := Option.bind_eq_some_iff.mp H
 obtain ⟨t182, A20, H⟩ := H
 replace H : (if t182 = true then ((matrix_numbers.f k a0_0).bind fun t184 => ((matrix_each_int_79.f k (l0_1.length : Int) t184 () a0_0 l0_1).bind fun bt187 => (some (bt187.1, bt187.2, 0)))) else (some (0, ([] : List (S25)), 1))) = some (r1, r2, r3) := H
 have A2 := Aside0.mk A20
 clear A20
 by_cases c3 : t182 = true
 ·
  subst c3
  have H1 : ((matrix_numbers.f k a0_0).bind fun t184 => ((matrix_each_int_79.f k (l0_1.length : Int) t184 () a0_0 l0_1).bind fun bt187 => (some (bt187.1, bt187.2, 0)))) = some (r1, r2, r3) := by rw [if_pos rfl] at H; exact H
  clear H
  have H := H1
  clear H1
  replace H := Option.bind_eq_some_iff.mp H
  obtain ⟨t184, A40, H⟩ := H
  replace H : ((matrix_each_int_79.f k (l0_1.length : Int) t184 () a0_0 l0_1).bind fun bt187 => (some (bt187.1, bt187.2, 0))) = some (r1, r2, r3) := H
  have A4 := Aside0.mk A40
  clear A40
  replace H := Option.bind_eq_some_iff.mp H
  obtain ⟨⟨t187, t188⟩, A50, H⟩ := H
  replace H : (some (t187, t188, 0)) = some (r1, r2, r3) := H
  have A5 := Aside0.mk A50
  clear A50
  simp only [Option.some.injEq, Prod.mk.injEq] at H
  obtain ⟨rfl, rfl, rfl⟩ := H
  go_enter Tryd.func44, Tryd.ntmps44
  try go_wp2_with (first | ((with_reducible refine gate_dst (N := 1) rfl ?_); refine box_event ?hg (N := 1) ?hd (cs := #[.int .i64 a0_0, .slice A0_1 l0_1.length c0_1]) (t := 55) ?hr ?_; (case hd => rfl); (case hg => rfl); (case hr => first | (go_simp; done) | (go_simp; rfl)); intro gb180 hg w6 hbox hb; have n0_ := am (below_step (pb HB) hb); have n1_ := am (hbox); have n2_ := am ((by rw [hg]; exact (below_size (pb HB)) : w.heap.size ≤ gb180)); have n3_ := am ((by rw [hg]; exact (below_size (pb HB)) : w.heap.size ≤ gb180)); clear HB; have HB := n0_; have BK180 := n1_; have GW180 := n2_; have GE180 := n3_; clear n0_ n1_ n2_ n3_ hb hbox hg) | ((with_reducible refine gate_dst (N := 2) rfl ?_); refine box_event ?hg (N := 2) ?hd (cs := #[.int .i64 0, .slice none 0 0]) (t := 55) ?hr ?_; (case hd => rfl); (case hg => rfl); (case hr => first | (go_simp; done) | (go_simp; rfl)); intro gb181 hg w7 hbox hb; have n0_ := bb BK180 hb; have n1_ := am (below_step (pb HB) hb); have n2_ := am (hbox); have n3_ := am ((by rw [hg]; exact (below_size (pb HB)) : w.heap.size ≤ gb181)); have n4_ := am ((by rw [hg]; exact (below_size (pb HB)) : w.heap.size ≤ gb181)); have n5_ := am ((by rw [hg]; exact Nat.ne_of_lt (bl BK180) : gb180 ≠ gb181)); have n6_ := am ((by rw [hg]; exact Nat.ne_of_gt (bl BK180) : gb181 ≠ gb180)); clear BK180 HB; have BK180 := n0_; have HB := n1_; have BK181 := n2_; have GW181 := n3_; have GE181 := n4_; have NB180_181 := n5_; have NB181_180 := n6_; clear n0_ n1_ n2_ n3_ n4_ n5_ n6_ hb hbox hg; have hnb8 := NB180_181.out; have hnc8 := NB181_180.out; have hcz9_0 : w7.cell? ⟨gb180, 0, none⟩ = some (.int .i64 a0_0) := (blk_cell BK180.out 0).trans rfl; have hcz9_1 : w7.cell? ⟨gb180, 1, none⟩ = some (.slice A0_1 l0_1.length c0_1) := (blk_cell BK180.out 1).trans rfl; have hfz9_0 := blk_frozen BK180.out 0; have hfz9_1 := blk_frozen BK180.out 1) | ((with_reducible refine gate_callee (f := 71) rfl ?_); refine goesL_ (some 6) rfl rfl Tryd.func71 (by kernel_rfl) rfl #[.agg #[.int .i64 a0_0, .slice A0_1 l0_1.length c0_1]] rfl (by (try simp only [List.map_toArray, List.map_cons, List.map_nil]); first | done | rfl | (simp only [List.length_drop, List.length_take]; rfl)) ?_; (with_reducible refine (matrix_Right.calls k a0_0 _ _ l0_1 true _ ?side1 ?side2 A2.out).mono ?_); (case side1 => repeat (first | exact (Kd.C_below HR0_1.out HB.out) | (with_reducible refine Kd.C_alloc ?_ _) | (with_reducible refine Kd.C_drewN ?_ _) | (with_reducible refine Kd.C_drew ?_))); (case side2 => exact HC0_1.out); rintro e w10 ⟨rfl, hb⟩; refine ⟨_, rfl, ?_⟩; have n0_ := bb BK180 hb; have n1_ := bb BK181 hb; have n2_ := am (below_step (pb HB) hb); clear BK180 BK181 HB; have BK180 := n0_; have BK181 := n1_; have HB := n2_; clear n0_ n1_ n2_; (try clear hb); (try clear hb2); (try clear hk); (try clear hi)) | ((with_reducible refine gate_dst (N := 4) rfl ?_); refine box_event ?hg (N := 4) ?hd (cs := #[.nilFunc]) (t := 100) ?hr ?_; (case hd => rfl); (case hg => rfl); (case hr => first | (go_simp; done) | (go_simp; rfl)); intro gb183 hg w11 hbox hb; have n0_ := bb BK180 hb; have n1_ := bb BK181 hb; have n2_ := am (below_step (pb HB) hb); have n3_ := am (hbox); have n4_ := am ((by rw [hg]; exact (below_size (pb HB)) : w.heap.size ≤ gb183)); have n5_ := am ((by rw [hg]; exact (below_size (pb HB)) : w.heap.size ≤ gb183)); have n6_ := am ((by rw [hg]; exact Nat.ne_of_lt (bl BK180) : gb180 ≠ gb183)); have n7_ := am ((by rw [hg]; exact Nat.ne_of_gt (bl BK180) : gb183 ≠ gb180)); have n8_ := am ((by rw [hg]; exact Nat.ne_of_lt (bl BK181) : gb181 ≠ gb183)); have n9_ := am ((by rw [hg]; exact Nat.ne_of_gt (bl BK181) : gb183 ≠ gb181)); clear BK180 BK181 HB; have BK180 := n0_; have BK181 := n1_; have HB := n2_; have BK183 := n3_; have GW183 := n4_; have GE183 := n5_; have NB180_183 := n6_; have NB183_180 := n7_; have NB181_183 := n8_; have NB183_181 := n9_; clear n0_ n1_ n2_ n3_ n4_ n5_ n6_ n7_ n8_ n9_ hb hbox hg; have hnb12 := NB183_180.out; have hnc12 := NB180_183.out; have hnb13 := NB183_181.out; have hnc13 := NB181_183.out; have hcz14_0 : w11.cell? ⟨gb183, 0, none⟩ = some (.nilFunc) := (blk_cell BK183.out 0).trans rfl; have hfz14_0 := blk_frozen BK183.out 0))
  have n0_ : Aside0 ((w11.setCell ⟨gb183, 0, none⟩ (.func (.func 76) #[] #[])).heap[gb180]? = some (.cells #[.int .i64 a0_0, .slice A0_1 l0_1.length c0_1] 55 (0, 0))) := ⟨by (with_reducible repeat (first | refine blk_drewN ?_ _ | refine blk_drew ?_ | refine blk_alloc ?_ _)); refine blk_far ?_ NB180_183.out _; (with_reducible repeat (first | refine blk_drewN ?_ _ | refine blk_drew ?_ | refine blk_alloc ?_ _)); exact BK180.out⟩
  have n1_ : Aside0 ((w11.setCell ⟨gb183, 0, none⟩ (.func (.func 76) #[] #[])).heap[gb181]? = some (.cells #[.int .i64 0, .slice none 0 0] 55 (0, 0))) := ⟨by (with_reducible repeat (first | refine blk_drewN ?_ _ | refine blk_drew ?_ | refine blk_alloc ?_ _)); refine blk_far ?_ NB181_183.out _; (with_reducible repeat (first | refine blk_drewN ?_ _ | refine blk_drew ?_ | refine blk_alloc ?_ _)); exact BK181.out⟩
  have n2_ : Aside0 ((w11.setCell ⟨gb183, 0, none⟩ (.func (.func 76) #[] #[])).heap[gb183]? = some (.cells #[.func (.func 76) #[] #[]] 100 (0, 0))) := ⟨by (with_reducible repeat (first | refine blk_drewN ?_ _ | refine blk_drew ?_ | refine blk_alloc ?_ _)); refine blk_put (cs := #[.nilFunc]) ?_ 0 _ rfl; (with_reducible repeat (first | refine blk_drewN ?_ _ | refine blk_drew ?_ | refine blk_alloc ?_ _)); exact BK183.out⟩
  have n3_ : Aside0 (Below w.heap.size w (w11.setCell ⟨gb183, 0, none⟩ (.func (.func 76) #[] #[]))) := ⟨pb HB⟩
  (try clear BK180)
  (try clear BK181)
  (try clear BK183)
  (try clear HB)
  generalize (w11.setCell ⟨gb183, 0, none⟩ (.func (.func 76) #[] #[])) = w15 at n0_ n1_ n2_ n3_ ⊢
  have BK180 := n0_
  have BK181 := n1_
  have BK183 := n2_
  have HB := n3_
  clear n0_ n1_ n2_ n3_
  have n0_ := am (blk_drew BK180.out)
  have n1_ := am (blk_drew BK181.out)
  have n2_ := am (blk_drew BK183.out)
  have n3_ := am (below_drew1 HB.out)
  clear BK180
  clear BK181
  clear BK183
  clear HB
  have BK180 := n0_
  have BK181 := n1_
  have BK183 := n2_
  have HB := n3_
  clear n0_ n1_ n2_ n3_
  refine start_ (n := 10) (S := fun w' => w'.cell? ⟨gb180, 0, none⟩ = some (.int .i64 a0_0) ∧ w'.cell? ⟨gb180, 1, none⟩ = some (.slice A0_1 l0_1.length c0_1)) (ds := []) #[F, F, F, F, F, F, F, F, F, F] (by kernel_rfl) rfl rfl ⟨(blk_cell BK180.out 0).trans rfl, (blk_cell BK180.out 1).trans rfl⟩ (fun hHeld => ?_); refine with_tabW matrix_Turn.tab4 matrix_Turn.bits4 (fun HT_ HW_ => ?_)
  generalize w15.drew = w16 at BK180 BK181 BK183 HB hHeld ⊢
  refine pure_ (i := 0) (N := some 9) (v := ?_) (a' := ?_) #[T, F, F, F, F, F, F, F, F, F] rfl rfl (any_of HT_.out (by kernel_rfl)) (fun _ _ _ h => h) (Or.inl ⟨by rfl, ?_⟩) ?_ ?_
  rotate_left
  ·
   intro w'
   go_simp
   with_reducible rfl
  rotate_left
  ·
   simp only [Act.put, q1, q2, q3, i64_w, i32_w]
   rfl
  refine pure_ (i := 3) (N := some 12) (v := ?_) (a' := ?_) #[T, F, F, T, F, F, F, F, F, F] rfl rfl (any_of HT_.out (by kernel_rfl)) (fun _ _ _ h => h) (Or.inl ⟨by rfl, ?_⟩) ?_ ?_
  rotate_left
  ·
   intro w'
   go_simp
   with_reducible rfl
  rotate_left
  ·
   simp only [Act.put, q1, q2, q3, i64_w, i32_w]
   rfl
  refine pure_ (i := 6) (N := some 15) (v := ?_) (a' := ?_) #[T, F, F, T, F, F, T, F, F, F] rfl rfl (any_of HT_.out (by kernel_rfl)) (fun _ _ _ h => h) (Or.inl ⟨by rfl, ?_⟩) ?_ ?_
  rotate_left
  ·
   intro w'
   go_simp
   with_reducible rfl
  rotate_left
  ·
   simp only [Act.put, q1, q2, q3, i64_w, i32_w]
   rfl
  refine take_ (i := 1) (N := some 10) (v := ?_) (a' := ?_) #[T, T, F, T, F, F, T, F, F, F] rfl rfl (take_ofW HT_.out HW_.out (by kernel_rfl)) (fun _ _ _ h => h) (Or.inl ⟨by rfl, ?_⟩) hHeld ?_ ?_
  rotate_left
  ·
   rintro w' ⟨s0, s1⟩
   go_simp
   with_reducible rfl
  rotate_left
  ·
   simp only [Act.put, q1, q2, q3, i64_w, i32_w]
   rfl
  refine pure_ (i := 2) (N := some 11) (v := ?_) (a' := ?_) #[T, T, T, T, F, F, T, F, F, F] rfl rfl (any_of HT_.out (by kernel_rfl)) (fun _ _ _ h => h) (Or.inl ⟨by rfl, ?_⟩) ?_ ?_
  rotate_left
  ·
   intro w'
   go_simp
   with_reducible rfl
  rotate_left
  ·
   simp only [Act.put, q1, q2, q3, i64_w, i32_w]
   rfl
  refine take_ (i := 4) (N := some 13) (v := ?_) (a' := ?_) #[T, T, T, T, T, F, T, F, F, F] rfl rfl (take_ofW HT_.out HW_.out (by kernel_rfl)) (fun _ _ _ h => h) (Or.inl ⟨by rfl, ?_⟩) hHeld ?_ ?_
  rotate_left
  ·
   rintro w' ⟨s0, s1⟩
   go_simp
   with_reducible rfl
  rotate_left
  ·
   simp only [Act.put, q1, q2, q3, i64_w, i32_w]
   rfl
  refine one_ (i := 5) (N := some 14) #[T, T, T, T, T, T, T, F, F, F] rfl rfl (one_of HT_.out (by kernel_rfl)) (by decide) (fun K hK => ?_)
  refine goes_ Tryd.func78 (by kernel_rfl) rfl #[.int .i64 a0_0] (by rfl) rfl rfl (by (try simp only [List.map_toArray, List.map_cons, List.map_nil]); first | done | rfl | (simp only [List.length_drop, List.length_take]; rfl)) ?_
  with_reducible refine (matrix_numbers.calls k a0_0 t184 _ A4.out).mono ?_
  rintro e w17 ⟨v185, rfl, ho0, hb⟩
  refine ⟨_, rfl, ?_⟩
  have n0_ := am (Kd.R_lower ho0 (below_size (pb HB)))
  have n1_ := bb BK180 hb
  have n2_ := bb BK181 hb
  have n3_ := bb BK183 hb
  have n4_ := am (below_step (pb HB) hb)
  clear BK180
  clear BK181
  clear BK183
  clear HB
  have HO186 := n0_
  have BK180 := n1_
  have BK181 := n2_
  have BK183 := n3_
  have HB := n4_
  clear n0_ n1_ n2_ n3_ n4_
  (try clear hb)
  (try clear hb2)
  (try clear hk)
  (try clear hi)
  (try clear ho0)
  obtain ⟨Ao18, co18, eo18⟩ := Kd.R_slice HO186.out
  (first | subst eo18 | (injection eo18 with f1_ f2_ f3_; have f4_ := f1_.symm; have f5_ := f3_.symm; clear f1_ f2_ f3_; subst f4_; subst f5_))
  refine hK.out _ _ ⟨(blk_cell BK180.out 0).trans rfl, (blk_cell BK180.out 1).trans rfl⟩ (fun hHeld => ?_)
  clear hK K
  refine norm_ (a' := ?_) ?_ ?_
  rotate_left
  ·
   show Act.put _ (some 14) _ = _
   simp only [Act.put, q1, q2, q3, i64_w, i32_w]
   rfl
  refine one_ (i := 7) (N := some 16) #[T, T, T, T, T, T, T, T, F, F] rfl rfl (one_of HT_.out (by kernel_rfl)) (by decide) (fun K hK => ?_)
  refine goes_ Tryd.func77 (by kernel_rfl) rfl #[.int .i64 (l0_1.length : Int), .slice Ao18 t184.length co18, (.func (.func 79) #[] #[.pointer (some ⟨gb183, 0, none⟩), .pointer (some ⟨gb180, 0, none⟩)])] (by rfl) rfl rfl (by (try simp only [List.map_toArray, List.map_cons, List.map_nil]); first | done | rfl | (simp only [List.length_drop, List.length_take]; rfl)) ?_
  with_reducible refine (matrix_each_int_79.calls k (l0_1.length : Int) _ _ t184  gb183 () gb180 a0_0 A0_1 c0_1 l0_1 t187 t188 _ ?side1 ?side2 ?side3 ?side4 ?side5 ?side6 A5.out).mono ?_
  (case side1 => repeat (first | exact (Kd.R_reads' HO186.out).2.2 | (with_reducible refine Kd.C_alloc ?_ _) | (with_reducible refine Kd.C_drewN ?_ _) | (with_reducible refine Kd.C_drew ?_)))
  (case side2 => exact (Kd.R_reads' HO186.out).2.1)
  (case side3 => (with_reducible repeat (first | refine blk_drewN ?_ _ | refine blk_drew ?_ | refine blk_alloc ?_ _)); exact BK183.out)
  (case side4 => (with_reducible repeat (first | refine blk_drewN ?_ _ | refine blk_drew ?_ | refine blk_alloc ?_ _)); exact BK180.out)
  (case side5 => repeat (first | exact (Kd.C_below HR0_1.out HB.out) | (with_reducible refine Kd.C_alloc ?_ _) | (with_reducible refine Kd.C_drewN ?_ _) | (with_reducible refine Kd.C_drew ?_)))
  (case side6 => exact HC0_1.out)
  rintro e w19 ⟨v189, rfl, ho0, hb⟩
  refine ⟨_, rfl, ?_⟩
  have n0_ := am (Kd.R_below (pr HO186) hb)
  have n1_ := am (Kd.S_lower ho0 (below_size (pb HB)))
  have n2_ := bb BK180 hb
  have n3_ := bb BK181 hb
  have n4_ := bb BK183 hb
  have n5_ := am (below_step (pb HB) hb)
  clear HO186
  clear BK180
  clear BK181
  clear BK183
  clear HB
  have HO186 := n0_
  have HO190 := n1_
  have BK180 := n2_
  have BK181 := n3_
  have BK183 := n4_
  have HB := n5_
  clear n0_ n1_ n2_ n3_ n4_ n5_
  (try clear hb)
  (try clear hb2)
  (try clear hk)
  (try clear hi)
  (try clear ho0)
  obtain ⟨Ao21, co21, eo21⟩ := Kd.S_slice HO190.out
  (first | subst eo21 | (injection eo21 with f1_ f2_ f3_; have f4_ := f1_.symm; have f5_ := f3_.symm; clear f1_ f2_ f3_; subst f4_; subst f5_))
  refine hK.out _ _ ⟨(blk_cell BK180.out 0).trans rfl, (blk_cell BK180.out 1).trans rfl⟩ (fun hHeld => ?_)
  clear hK K
  refine norm_ (a' := ?_) ?_ ?_
  rotate_left
  ·
   show Act.put _ (some 16) _ = _
   simp only [Act.put, q1, q2, q3, i64_w, i32_w]
   rfl
  refine one_ (i := 8) (N := none) #[T, T, T, T, T, T, T, T, T, F] rfl rfl (one_of HT_.out (by kernel_rfl)) (by decide) (fun K hK => ?_)
  have hs20 : w19.cell? ⟨gb181, 0, none⟩ = some (.int .i64 0) := (blk_cell BK181.out 0).trans rfl
  have hfs20 := blk_frozen BK181.out 0
  have hns20_0 := NB180_181.out
  have hns20_2 := NB183_181.out
  have hms20_0 := NB181_180.out
  have hms20_2 := NB181_183.out
  have hs22 : w19.cell? ⟨gb181, 1, none⟩ = some (.slice none 0 0) := (blk_cell BK181.out 1).trans rfl
  have hfs22 := blk_frozen BK181.out 1
  have hns22_0 := NB180_181.out
  have hns22_2 := NB183_181.out
  have hms22_0 := NB181_180.out
  have hms22_2 := NB181_183.out
  refine skip_ (w1 := ?_) (by rfl) rfl ?_ ?_
  rotate_left
  ·
   go_simp
   rfl
  refine hK.out _ _ ⟨((cell_far (p := ⟨gb181, _, none⟩) NB180_181.out _).trans (((cell_far (p := ⟨gb181, _, none⟩) NB180_181.out _).trans (hHeld.1)))), ((cell_far (p := ⟨gb181, _, none⟩) NB180_181.out _).trans (((cell_far (p := ⟨gb181, _, none⟩) NB180_181.out _).trans (hHeld.2))))⟩ (fun hHeld => ?_)
  clear hK K
  refine pure_ (i := 9) (N := some 3) (v := ?_) (a' := ?_) #[T, T, T, T, T, T, T, T, T, T] rfl rfl (any_of HT_.out (by kernel_rfl)) (fun _ _ _ h => h) (Or.inl ⟨by rfl, ?_⟩) ?_ ?_
  rotate_left
  ·
   intro w'
   go_simp
   with_reducible rfl
  rotate_left
  ·
   simp only [Act.put, q1, q2, q3, i64_w, i32_w]
   rfl
  refine done_ (done_of HT_.out (by kernel_rfl)) ?_
  try go_wp2
  refine bodyPost_ret (results_ct rfl _ _ gb181 55 #[.int .i64 t187, .slice Ao21 t188.length co21] (0, 0) _ rfl (by (with_reducible repeat (first | refine blk_drewN ?_ _ | refine blk_drew ?_ | refine blk_alloc ?_ _)); refine blk_put (cs := #[.int .i64 t187, .slice none 0 0]) ?_ 1 _ rfl; (with_reducible repeat (first | refine blk_drewN ?_ _ | refine blk_drew ?_ | refine blk_alloc ?_ _)); refine blk_put (cs := #[.int .i64 0, .slice none 0 0]) ?_ 0 _ rfl; (with_reducible repeat (first | refine blk_drewN ?_ _ | refine blk_drew ?_ | refine blk_alloc ?_ _)); exact BK181.out) Tryd.underlying55 rfl (by kernel_rfl)) rfl ?_
  exact ⟨_, by first | rfl | (simp [errW_none, errW_some] <;> rfl) | (simp [*, errW_none, errW_some] <;> rfl), by (with_reducible repeat (first | apply Kd.S_alloc | apply Kd.S_drewN | apply Kd.S_drew)); exact Kd.S_mono (Kd.S_far (p := ⟨gb181, 1, none⟩) (Kd.S_far (p := ⟨gb181, 0, none⟩) (Kd.S_types HO190.out BK181.out (by decide)) (fun _ hk => hk.2) (.int .i64 t187)) (fun _ hk => hk.2) (.slice Ao21 t188.length co21)) (fun _ hk => trivial), pb HB⟩
 ·
  replace c3 := Bool.eq_false_iff.mpr c3
  subst c3
  have H1 : (some (0, ([] : List (S25)), 1)) = some (r1, r2, r3) := by rw [if_neg (show ¬ (false = true) by decide)] at H; exact H
  clear H
  have H := H1
  clear H1
  simp only [Option.some.injEq, Prod.mk.injEq] at H
  obtain ⟨rfl, rfl, rfl⟩ := H
  go_enter Tryd.func44, Tryd.ntmps44
  go_wp2_with (first | ((with_reducible refine gate_dst (N := 1) rfl ?_); refine box_event ?hg (N := 1) ?hd (cs := #[.int .i64 a0_0, .slice A0_1 l0_1.length c0_1]) (t := 55) ?hr ?_; (case hd => rfl); (case hg => rfl); (case hr => first | (go_simp; done) | (go_simp; rfl)); intro gb180 hg w23 hbox hb; have n0_ := am (below_step (pb HB) hb); have n1_ := am (hbox); have n2_ := am ((by rw [hg]; exact (below_size (pb HB)) : w.heap.size ≤ gb180)); have n3_ := am ((by rw [hg]; exact (below_size (pb HB)) : w.heap.size ≤ gb180)); clear HB; have HB := n0_; have BK180 := n1_; have GW180 := n2_; have GE180 := n3_; clear n0_ n1_ n2_ n3_ hb hbox hg) | ((with_reducible refine gate_dst (N := 2) rfl ?_); refine box_event ?hg (N := 2) ?hd (cs := #[.int .i64 0, .slice none 0 0]) (t := 55) ?hr ?_; (case hd => rfl); (case hg => rfl); (case hr => first | (go_simp; done) | (go_simp; rfl)); intro gb181 hg w24 hbox hb; have n0_ := bb BK180 hb; have n1_ := am (below_step (pb HB) hb); have n2_ := am (hbox); have n3_ := am ((by rw [hg]; exact (below_size (pb HB)) : w.heap.size ≤ gb181)); have n4_ := am ((by rw [hg]; exact (below_size (pb HB)) : w.heap.size ≤ gb181)); have n5_ := am ((by rw [hg]; exact Nat.ne_of_lt (bl BK180) : gb180 ≠ gb181)); have n6_ := am ((by rw [hg]; exact Nat.ne_of_gt (bl BK180) : gb181 ≠ gb180)); clear BK180 HB; have BK180 := n0_; have HB := n1_; have BK181 := n2_; have GW181 := n3_; have GE181 := n4_; have NB180_181 := n5_; have NB181_180 := n6_; clear n0_ n1_ n2_ n3_ n4_ n5_ n6_ hb hbox hg; have hnb25 := NB180_181.out; have hnc25 := NB181_180.out; have hcz26_0 : w24.cell? ⟨gb180, 0, none⟩ = some (.int .i64 a0_0) := (blk_cell BK180.out 0).trans rfl; have hcz26_1 : w24.cell? ⟨gb180, 1, none⟩ = some (.slice A0_1 l0_1.length c0_1) := (blk_cell BK180.out 1).trans rfl; have hfz26_0 := blk_frozen BK180.out 0; have hfz26_1 := blk_frozen BK180.out 1) | ((with_reducible refine gate_callee (f := 71) rfl ?_); refine goesL_ (some 6) rfl rfl Tryd.func71 (by kernel_rfl) rfl #[.agg #[.int .i64 a0_0, .slice A0_1 l0_1.length c0_1]] rfl (by (try simp only [List.map_toArray, List.map_cons, List.map_nil]); first | done | rfl | (simp only [List.length_drop, List.length_take]; rfl)) ?_; (with_reducible refine (matrix_Right.calls k a0_0 _ _ l0_1 false _ ?side1 ?side2 A2.out).mono ?_); (case side1 => repeat (first | exact (Kd.C_below HR0_1.out HB.out) | (with_reducible refine Kd.C_alloc ?_ _) | (with_reducible refine Kd.C_drewN ?_ _) | (with_reducible refine Kd.C_drew ?_))); (case side2 => exact HC0_1.out); rintro e w27 ⟨rfl, hb⟩; refine ⟨_, rfl, ?_⟩; have n0_ := bb BK180 hb; have n1_ := bb BK181 hb; have n2_ := am (below_step (pb HB) hb); clear BK180 BK181 HB; have BK180 := n0_; have BK181 := n1_; have HB := n2_; clear n0_ n1_ n2_; (try clear hb); (try clear hb2); (try clear hk); (try clear hi); have hcz28_0 : w27.cell? ⟨gb181, 0, none⟩ = some (.int .i64 0) := (blk_cell BK181.out 0).trans rfl; have hcz28_1 : w27.cell? ⟨gb181, 1, none⟩ = some (.slice none 0 0) := (blk_cell BK181.out 1).trans rfl; have hfz28_0 := blk_frozen BK181.out 0; have hfz28_1 := blk_frozen BK181.out 1))
  refine bodyPost_ret (results_ct rfl _ _ gb181 55 #[.int .i64 0, .slice none 0 0] (0, 0) _ rfl (by (with_reducible repeat (first | refine blk_drewN ?_ _ | refine blk_drew ?_ | refine blk_alloc ?_ _)); refine blk_put (cs := #[.int .i64 0, .slice none 0 0]) ?_ 1 _ rfl; (with_reducible repeat (first | refine blk_drewN ?_ _ | refine blk_drew ?_ | refine blk_alloc ?_ _)); refine blk_put (cs := #[.int .i64 0, .slice none 0 0]) ?_ 0 _ rfl; (with_reducible repeat (first | refine blk_drewN ?_ _ | refine blk_drew ?_ | refine blk_alloc ?_ _)); exact BK181.out) Tryd.underlying55 rfl (by kernel_rfl)) rfl ?_
  exact ⟨_, by first | rfl | (simp [errW_none, errW_some] <;> rfl) | (simp [*, errW_none, errW_some] <;> rfl), by first | exact Kd.S_nil _ _ _ _ _ | exact Kd.N_nil _ _ _ _ _ | exact Kd.V_nil _ _ _ _ _ | exact Kd.Q_nil _ _ _ _ _ | exact Kd.R_nil _ _ _ _ _, pb HB⟩

/-! ### downpourlaw04_few: function 46 -/
def downpourlaw04_few.l0 : Nat → List (S25) → List (S25) → Int → Int → Int → List (S25) → Option (Int × (List (S25)))
 | 0, _, _, _, _, _, _ => none
 | k + 1, x3, x12, x13, x14, x192000, x192001 => if x14 < x13 then (if 0 ≤ x14 then (if x14 < (x12.length : Int) then (if 0 ≤ (mn (((rd_T25 x12 x14).f1).length : Int) 3) then (if (mn (((rd_T25 x12 x14).f1).length : Int) 3) ≤ (((rd_T25 x12 x14).f1).length : Int) then (if x3.length < 4398046511104 then (downpourlaw04_few.l0 k (x3 ++ [(⟨(rd_T25 x12 x14).f0, (((rd_T25 x12 x14).f1).take ((mn (((rd_T25 x12 x14).f1).length : Int) 3) : Int).toNat)⟩ : S25)]) x12 x13 (wrap64 (x14 + 1)) x192000 x192001) else (none)) else (none)) else (none)) else (none)) else (none)) else (some (x192000, x3))
def downpourlaw04_few.f (k : Nat) (a0_0 : Int) (l0_1 : List (S25)) : Option (Int × (List (S25))) := if 0 ≤ (mn (l0_1.length : Int) 66) then (if (mn (l0_1.length : Int) 66) ≤ (l0_1.length : Int) then ((some (l0_1.take ((mn (l0_1.length : Int) 66) : Int).toNat : List (S25))).bind fun y193 => (downpourlaw04_few.l0 k ([] : List (S25)) y193 (y193.length : Int) 0 a0_0 l0_1)) else (none)) else (none)
theorem downpourlaw04_few.mono_l : ∀ k, (∀ y0 y1 y2 y3 y4 y5, LeO (downpourlaw04_few.l0 k y0 y1 y2 y3 y4 y5) (downpourlaw04_few.l0 (k + 1) y0 y1 y2 y3 y4 y5))
 | 0 => fun _ _ _ _ _ _ r h => by simp [downpourlaw04_few.l0] at h
 | k + 1 => by
  have ih0 := downpourlaw04_few.mono_l k
  ·
   intro y0 y1 y2 y3 y4 y5
   unfold downpourlaw04_few.l0
   repeat' first
   | (with_reducible exact ih0 _ _ _ _ _ _)
   | (with_reducible exact LeO.refl _)
   | (with_reducible exact LeO.none _)
   | (with_reducible refine LeO.ite ?_ ?_)
   | (with_reducible refine LeO.bind ?_ (fun _ => ?_))
   | exact ih0 _ _ _ _ _ _
   | exact LeO.none _
   | refine LeO.ite ?_ ?_
   | refine LeO.bind ?_ (fun _ => ?_)
theorem downpourlaw04_few.mono : ∀ a0 a1 k, LeO (downpourlaw04_few.f k a0 a1) (downpourlaw04_few.f (k + 1) a0 a1) := by
 intro a0 a1 k
 have ih0 := downpourlaw04_few.mono_l k
 unfold downpourlaw04_few.f
 repeat' first
   | (with_reducible exact ih0 _ _ _ _ _ _)
   | (with_reducible exact LeO.refl _)
   | (with_reducible exact LeO.none _)
   | (with_reducible refine LeO.ite ?_ ?_)
   | (with_reducible refine LeO.bind ?_ (fun _ => ?_))
   | exact ih0 _ _ _ _ _ _
   | exact LeO.none _
   | refine LeO.ite ?_ ?_
   | refine LeO.bind ?_ (fun _ => ?_)
set_option maxHeartbeats 8000000 in
set_option maxRecDepth 100000 in
theorem downpourlaw04_few.calls (k : Nat) (a0_0 : Int) (P0_1_ : Nat → Prop) (A0_1 : Option Addr) (c0_1 : Nat) (l0_1 : List (S25)) (r1 : Int) (r2 : List (S25)) (w : World) (hs0_1 : Kd.V k25 25 w w.heap.size (fun k_ => P0_1_ k_) (.slice A0_1 l0_1.length c0_1) l0_1) (h : downpourlaw04_few.f k a0_0 l0_1 = some (r1, r2)) :
  Calls Tryd.prog 46 #[.agg #[.int .i64 a0_0, .slice A0_1 l0_1.length c0_1]] w fun e w' => ∃ v1_ : Value, e = .returned (.agg #[.int .i64 r1, v1_]) ∧ Kd.N k25 25 w' w.heap.size (fun k_ => (P0_1_ k_ ∨ w.heap.size ≤ k_)) v1_ r2 ∧ Below w.heap.size w w' := by
 have hu55 := Tryd.underlying55
 have hu25 := Tryd.underlying25
 have HO0_1 := am (show Kd.V k25 25 w w.heap.size (fun k_ => (P0_1_ k_ ∨ w.heap.size ≤ k_)) (.slice A0_1 l0_1.length c0_1) l0_1 from Kd.V_mono hs0_1 (fun k_ hk => .inl hk))
 have HB := am (Below.refl w.heap.size w)
 have H : (if 0 ≤ (mn (l0_1.length : Int) 66) then (if (mn (l0_1.length : Int) 66) ≤ (l0_1.length : Int) then ((some (l0_1.take ((mn (l0_1.length : Int) 66) : Int).toNat : List (S25))).bind fun y193 => (downpourlaw04_few.l0 k ([] : List (S25)) y193 (y193.length : Int) 0 a0_0 l0_1)) else (none)) else (none)) = some (r1, r2) := h
 clear h
 obtain ⟨ji2, hji2⟩ : ∃ j_ : Int, (mn (l0_1.length : Int) 66) = j_ := ⟨_, rfl⟩
 replace H : (if 0 ≤ (ji2) then (if (ji2) ≤ (l0_1.length : Int) then ((some (l0_1.take ((ji2) : Int).toNat : List (S25))).bind fun y193 => (downpourlaw04_few.l0 k ([] : List (S25)) y193 (y193.length : Int) 0 a0_0 l0_1)) else (none)) else (none)) = some (r1, r2) := by first | (rw [hji2] at H; exact H) | (simp only [hji2] at H ⊢; exact H)
 (try (have hji2h : ji2 ≤ 66 := by (rw [← hji2]; unfold mn; (repeat' split) <;> omega)))
 (try (have hji2g : ji2 ≤ 64 := by omega))
 (try (have hji2l : 0 ≤ ji2 := by (rw [← hji2]; unfold mn; (repeat' split) <;> omega)))
 (try (have hji2m : 0 ≤ ji2 := by omega))
 have hji2_ : (if 66 < (l0_1.length : Int) then 66 else (l0_1.length : Int)) = ji2 := hji2
 by_cases c3 : 0 ≤ (ji2)
 ·
  rw [if_pos c3] at H
  have c3b0 := eq_true c3
  have c3b1 : decide (0 ≤ (ji2)) = true := decide_eq_true c3
  clear c3
  by_cases c4 : (ji2) ≤ (l0_1.length : Int)
  ·
   rw [if_pos c4] at H
   have c4b0 := eq_true c4
   have c4b1 : decide ((ji2) ≤ (l0_1.length : Int)) = true := decide_eq_true c4
   clear c4
   obtain ⟨y193, hy193⟩ : ∃ y_ : List (S25), y_ = (l0_1.take ((ji2) : Int).toNat) := ⟨_, rfl⟩
   replace H : (downpourlaw04_few.l0 k ([] : List (S25)) y193 (y193.length : Int) 0 a0_0 l0_1) = some (r1, r2) := by first | (rw [hy193]; with_reducible exact H) | (have H2_ := (Option.bind_some _ _).symm.trans H; rw [hy193]; with_reducible exact H2_) | (have H2_ := (Option.bind_some _ _).symm.trans H; with_reducible exact H2_) | with_reducible exact H | (rw [hy193]; exact H) | exact H
   have Ny193 := Aside0.mk hy193
   clear hy193
   have H' := Aside0.mk H
   clear H
   go_enter Tryd.func46, Tryd.ntmps46
   go_wp2_with (first | ((with_reducible refine gate_dst (N := 1) rfl ?_); refine box_event ?hg (N := 1) ?hd (cs := #[.int .i64 a0_0, .slice A0_1 l0_1.length c0_1]) (t := 55) ?hr ?_; (case hd => rfl); (case hg => rfl); (case hr => first | (go_simp; done) | (go_simp; rfl)); intro gb191 hg w5 hbox hb; have n0_ := am (Kd.V_below (Kd.V_elderB (pv HO0_1) gb191 (Nat.le_of_eq hg.symm)) hb); have n1_ := am (below_step (pb HB) hb); have n2_ := am (hbox); have n3_ := am ((by rw [hg]; exact (below_size (pb HB)) : w.heap.size ≤ gb191)); have n4_ := am ((by rw [hg]; exact (below_size (pb HB)) : w.heap.size ≤ gb191)); clear HO0_1 HB; have HO0_1 := n0_; have HB := n1_; have BK191 := n2_; have GW191 := n3_; have GE191 := n4_; clear n0_ n1_ n2_ n3_ n4_ hb hbox hg) | ((with_reducible refine gate_dst (N := 2) rfl ?_); refine box_event ?hg (N := 2) ?hd (cs := #[.int .i64 0, .slice none 0 0]) (t := 55) ?hr ?_; (case hd => rfl); (case hg => rfl); (case hr => first | (go_simp; done) | (go_simp; rfl)); intro gb192 hg w6 hbox hb; have n0_ := am (Kd.V_below (Kd.V_elderB (pv HO0_1) gb192 (Nat.le_of_eq hg.symm)) hb); have n1_ := bb BK191 hb; have n2_ := am (below_step (pb HB) hb); have n3_ := am (hbox); have n4_ := am ((by rw [hg]; exact (below_size (pb HB)) : w.heap.size ≤ gb192)); have n5_ := am ((by rw [hg]; exact (below_size (pb HB)) : w.heap.size ≤ gb192)); have n6_ := am ((by rw [hg]; exact Nat.ne_of_lt (bl BK191) : gb191 ≠ gb192)); have n7_ := am ((by rw [hg]; exact Nat.ne_of_gt (bl BK191) : gb192 ≠ gb191)); clear HO0_1 BK191 HB; have HO0_1 := n0_; have BK191 := n1_; have HB := n2_; have BK192 := n3_; have GW192 := n4_; have GE192 := n5_; have NB191_192 := n6_; have NB192_191 := n7_; clear n0_ n1_ n2_ n3_ n4_ n5_ n6_ n7_ hb hbox hg; have hnb7 := NB191_192.out; have hnc7 := NB192_191.out; have hcz8_0 : w6.cell? ⟨gb191, 0, none⟩ = some (.int .i64 a0_0) := (blk_cell BK191.out 0).trans rfl; have hcz8_1 : w6.cell? ⟨gb191, 1, none⟩ = some (.slice A0_1 l0_1.length c0_1) := (blk_cell BK191.out 1).trans rfl; have hfz8_0 := blk_frozen BK191.out 0; have hfz8_1 := blk_frozen BK191.out 1; have q9 : ((ji2) : Int) ≤ ((l0_1.length : Int) : Int) := of_decide_eq_true (by first | (with_reducible assumption) | assumption); obtain ⟨i09, hi09, _, hsz9, _⟩ := info_parts info25; have hroom9 : l0_1.length ≤ c0_1 := (Kd.V_reads' HO0_1.out).2.1; have hC9 : Kd.F k25 _ _ A0_1 l0_1.length l0_1 := (Kd.V_at (base := w.heap.size) HO0_1.out).2.2; have hcut9 := cut_to (P := Tryd.prog) 53 25 .i64 Tryd.underlying53 hi09 A0_1 l0_1.length c0_1 (ji2) (of_decide_eq_true (by first | (with_reducible assumption) | assumption)) q9 hroom9; have hr9 := Kd.F_take (m := ((ji2) : Int).toNat) hC9 (by omega); have hy9 : y193.length = ((ji2) : Int).toNat := (by rw [Ny193.out, List.length_take]; omega); rw [← Ny193.out] at hr9; rw [← hy9] at hcut9; have HO197 := am (show Kd.V k25 25 _ w.heap.size _ (.slice A0_1 y193.length c0_1) y193 from Kd.V_mk (by omega) hr9); have HC197 := am (show y193.length ≤ c0_1 from by omega); clear hr9 hC9 hroom9 hi09 hsz9; have KY9 := Aside0.mk hy9; clear hy9; replace q9 := eq_true q9))
   go_loopg [3, 14] k (fun kq v3 v14 w' => ∃ (x3_1 : List (S25)) (x14_1 : Int), v14 = .int .i64 x14_1 ∧ Aside0 (downpourlaw04_few.l0 kq x3_1 y193 (y193.length : Int) x14_1 a0_0 l0_1 = some (r1, r2)) ∧ Aside0 (kq ≤ k) ∧ Aside0 (Kd.N k25 25 w' w.heap.size (fun k_ => (P0_1_ k_ ∨ w.heap.size ≤ k_) ∧ k_ ≠ gb191 ∧ k_ ≠ gb192) v3 x3_1) ∧ Aside0 (Kd.V k25 25 w' w.heap.size (fun k_ => (P0_1_ k_ ∨ w.heap.size ≤ k_) ∧ some k_ ≠ (v3 : Value).ownBlock ∧ k_ ≠ gb191 ∧ k_ ≠ gb192) (.slice A0_1 y193.length c0_1) y193) ∧ Aside0 (Kd.V k25 25 w' w.heap.size (fun k_ => (P0_1_ k_ ∨ w.heap.size ≤ k_) ∧ some k_ ≠ (v3 : Value).ownBlock ∧ k_ ≠ gb191 ∧ k_ ≠ gb192) (.slice A0_1 l0_1.length c0_1) l0_1) ∧ Aside0 (w'.heap[gb191]? = some (.cells #[.int .i64 a0_0, (.slice A0_1 l0_1.length c0_1)] 55 (0, 0))) ∧ Aside0 (w'.heap[gb192]? = some (.cells #[.int .i64 0, (.slice none 0 0)] 55 (0, 0))) ∧ Aside0 (Below w.heap.size w w'))
   case atStart => exact ⟨(([] : List (S25))), (0), (by first | rfl | (simp; done) | (simp [*]; done)), H', ⟨Nat.le_refl _⟩, ⟨by first | exact Kd.S_nil _ _ _ _ _ | exact Kd.N_nil _ _ _ _ _ | exact Kd.V_nil _ _ _ _ _ | exact Kd.Q_nil _ _ _ _ _ | exact Kd.R_nil _ _ _ _ _⟩, ⟨by (with_reducible repeat (first | apply Kd.V_alloc | apply Kd.V_drewN | apply Kd.V_drew)); exact Kd.V_mono HO197.out (fun _ hk => ⟨hk.1.1, ⟨(by simp [Value.ownBlock]), ⟨hk.1.2, hk.2⟩⟩⟩)⟩, ⟨by (with_reducible repeat (first | apply Kd.V_alloc | apply Kd.V_drewN | apply Kd.V_drew)); exact Kd.V_mono HO0_1.out (fun _ hk => ⟨hk.1.1, ⟨(by simp [Value.ownBlock]), ⟨hk.1.2, hk.2⟩⟩⟩)⟩, ⟨by (with_reducible repeat (first | refine blk_drewN ?_ _ | refine blk_drew ?_ | refine blk_alloc ?_ _)); exact BK191.out⟩, ⟨by (with_reducible repeat (first | refine blk_drewN ?_ _ | refine blk_drew ?_ | refine blk_alloc ?_ _)); exact BK192.out⟩, ⟨pb HB⟩⟩
   case round =>
    clear H'
    try clear p2
    try clear c3
    try clear c3b0
    try clear c3b1
    try clear c4
    try clear c4b0
    try clear c4b1
    try clear c7
    try clear q9
    try clear hcz8_0
    try clear hcz8_1
    try clear hfz8_0
    try clear hfz8_1
    try clear q9
    obtain ⟨x3_1, x14_1, rfl, HA, HK1, HO_3, HO_12, HO_192001, BK191, BK192, HB⟩ := hrel
    cases gk with
    | zero => exact absurd HA.out (by simp [downpourlaw04_few.l0])
    | succ k1 =>
     have H := HA.out
     clear HA
     simp only [downpourlaw04_few.l0] at H
     by_cases c10 : x14_1 < (y193.length : Int)
     ·
      rw [if_pos c10] at H
      have c10b0 : decide (x14_1 < (y193.length : Int)) = true := decide_eq_true c10
      clear c10
      by_cases c11 : 0 ≤ x14_1
      ·
       rw [if_pos c11] at H
       have c11b0 : decide (0 ≤ x14_1) = true := decide_eq_true c11
       clear c11
       by_cases c12 : x14_1 < (y193.length : Int)
       ·
        rw [if_pos c12] at H
        have c12b0 : decide (x14_1 < (y193.length : Int)) = true := decide_eq_true c12
        clear c12
        obtain ⟨ji13, hji13⟩ : ∃ j_ : Int, (mn (((rd_T25 y193 x14_1).f1).length : Int) 3) = j_ := ⟨_, rfl⟩
        replace H : (if 0 ≤ (ji13) then (if (ji13) ≤ (((rd_T25 y193 x14_1).f1).length : Int) then (if x3_1.length < 4398046511104 then (downpourlaw04_few.l0 k1 (x3_1 ++ [(⟨(rd_T25 y193 x14_1).f0, (((rd_T25 y193 x14_1).f1).take ((ji13) : Int).toNat)⟩ : S25)]) y193 (y193.length : Int) (wrap64 (x14_1 + 1)) a0_0 l0_1) else (none)) else (none)) else (none)) = some (r1, r2) := by first | (rw [hji13] at H; exact H) | (simp only [hji13] at H ⊢; exact H)
        have hji13_ : (if 3 < (((rd_T25 y193 x14_1).f1).length : Int) then 3 else (((rd_T25 y193 x14_1).f1).length : Int)) = ji13 := hji13
        by_cases c14 : 0 ≤ (ji13)
        ·
         rw [if_pos c14] at H
         have c14b0 := eq_true c14
         have c14b1 : decide (0 ≤ (ji13)) = true := decide_eq_true c14
         clear c14
         by_cases c15 : (ji13) ≤ (((rd_T25 y193 x14_1).f1).length : Int)
         ·
          rw [if_pos c15] at H
          have c15b0 := eq_true c15
          have c15b1 : decide ((ji13) ≤ (((rd_T25 y193 x14_1).f1).length : Int)) = true := decide_eq_true c15
          clear c15
          obtain ⟨y200, hy200⟩ : ∃ y_ : List Int, y_ = (((rd_T25 y193 x14_1).f1).take ((ji13) : Int).toNat) := ⟨_, rfl⟩
          replace H : (if x3_1.length < 4398046511104 then (downpourlaw04_few.l0 k1 (x3_1 ++ [(⟨(rd_T25 y193 x14_1).f0, y200⟩ : S25)]) y193 (y193.length : Int) (wrap64 (x14_1 + 1)) a0_0 l0_1) else (none)) = some (r1, r2) := by first | (rw [hy200]; with_reducible exact H) | (have H2_ := (Option.bind_some _ _).symm.trans H; rw [hy200]; with_reducible exact H2_) | (have H2_ := (Option.bind_some _ _).symm.trans H; with_reducible exact H2_) | with_reducible exact H | (rw [hy200]; exact H) | exact H
          have Ny200 := Aside0.mk hy200
          clear hy200
          by_cases c16 : x3_1.length < 4398046511104
          ·
           rw [if_pos c16] at H
           have LMc16 := Aside0.mk c16
           clear c16
           obtain ⟨y205, hy205⟩ : ∃ y_ : List (S25), y_ = (x3_1 ++ [(⟨(rd_T25 y193 x14_1).f0, y200⟩ : S25)]) := ⟨_, rfl⟩
           replace H : (downpourlaw04_few.l0 k1 y205 y193 (y193.length : Int) (wrap64 (x14_1 + 1)) a0_0 l0_1) = some (r1, r2) := by first | (rw [hy205]; with_reducible exact H) | (have H2_ := (Option.bind_some _ _).symm.trans H; rw [hy205]; with_reducible exact H2_) | (have H2_ := (Option.bind_some _ _).symm.trans H; with_reducible exact H2_) | with_reducible exact H | (rw [hy205]; exact H) | exact H
           have Ny205 := Aside0.mk hy205
           clear hy205
           have H' := Aside0.mk H
           clear H
           have p198 : 0 ≤ (x14_1 : Int) := of_decide_eq_true (by first | (with_reducible assumption) | assumption)
           have q198 : x14_1 < (y193.length : Int) := of_decide_eq_true (by first | (with_reducible assumption) | assumption)
           obtain ⟨ad198, A198_1, c198_1, e198, hx198_0, hx198_1, hl198_1, hi198_1⟩ := at_T25 (Kd.V_reads' HO_12.out).2.2 x14_1 p198 q198
           cases e198
           obtain ⟨ce198, hce198, hMe198, hcc198⟩ := Kd.V_get HO_12.out z25 x14_1 p198 (by first | exact q198 | exact of_decide_eq_true (by first | (with_reducible assumption) | assumption) | (have e_ := (Kd.V_reads' HO_12.out).1; omega))
           obtain ⟨ua198_1, uc198_1, rfl, ul198_1, ge198_1⟩ := k25_openF hMe198
           have hv198_1 := hcc198 1 _ rfl
           rw [add_field _ _ 1 (by omega)] at hv198_1
           replace hv198_1 := Option.some.inj (hv198_1.symm.trans hx198_1)
           injection hv198_1 with hva_ hvn_ hvc_
           rw [hva_] at ge198_1
           rw [hvc_] at ul198_1
           have HL198_1 := am (show Kd.V (Kd.int .u64) 90 _ w.heap.size _ _ ((rd_T25 y193 x14_1).f1) from Kd.V_mk ul198_1 ge198_1)
           clear hva_ hvn_ hvc_ ge198_1 ul198_1
           clear hcc198 hce198
           have HR198_1 := Aside0.mk hi198_1
           have HC198_1 := Aside0.mk hl198_1
           clear hi198_1 hl198_1
           replace p198 := eq_true p198
           replace q198 := eq_true q198
           go_wp2_with (first | ((with_reducible refine gate_dst (N := 5) rfl ?_); refine box_event ?hg (N := 5) ?hd (cs := #[.int .i64 0, .slice none 0 0]) (t := 25) ?hr ?_; (case hd => rfl); (case hg => rfl); (case hr => first | (go_simp; done) | (go_simp; rfl)); intro gb199 hg w17 hbox hb; have n0_ := am (Kd.N_below (Kd.N_elderB (pn HO_3) gb199 (Nat.le_of_eq hg.symm)) hb); have n1_ := am (Kd.V_below (Kd.V_elderB (pv HO_12) gb199 (Nat.le_of_eq hg.symm)) hb); have n2_ := am (Kd.V_below (Kd.V_elderB (pv HO_192001) gb199 (Nat.le_of_eq hg.symm)) hb); have n3_ := am (Kd.V_below (Kd.V_elderB (pv HL198_1) gb199 (Nat.le_of_eq hg.symm)) hb); have n4_ := bb BK191 hb; have n5_ := bb BK192 hb; have n6_ := am (Kd.C_below (by repeat (first | (with_reducible exact HR198_1.out) | (with_reducible refine Kd.C_alloc ?_ _) | (with_reducible refine Kd.C_drewN ?_ _) | (with_reducible refine Kd.C_drew ?_) | exact HR198_1.out)) hb); have n7_ := am (below_step (pb HB) hb); have n8_ := am (hbox); have n9_ := am ((by rw [hg]; exact (below_size (pb HB)) : w.heap.size ≤ gb199)); have n10_ := am ((by rw [hg]; exact (below_size (pb HB)) : w.heap.size ≤ gb199)); have n11_ := am ((by rw [hg]; exact Nat.ne_of_lt (bl BK191) : gb191 ≠ gb199)); have n12_ := am ((by rw [hg]; exact Nat.ne_of_gt (bl BK191) : gb199 ≠ gb191)); have n13_ := am ((by rw [hg]; exact Nat.ne_of_lt (bl BK192) : gb192 ≠ gb199)); have n14_ := am ((by rw [hg]; exact Nat.ne_of_gt (bl BK192) : gb199 ≠ gb192)); clear HO_3 HO_12 HO_192001 HL198_1 BK191 BK192 HR198_1 HB; have HO_3 := n0_; have HO_12 := n1_; have HO_192001 := n2_; have HL198_1 := n3_; have BK191 := n4_; have BK192 := n5_; have HR198_1 := n6_; have HB := n7_; have BK199 := n8_; have GW199 := n9_; have GE199 := n10_; have NB191_199 := n11_; have NB199_191 := n12_; have NB192_199 := n13_; have NB199_192 := n14_; clear n0_ n1_ n2_ n3_ n4_ n5_ n6_ n7_ n8_ n9_ n10_ n11_ n12_ n13_ n14_ hb hbox hg; have hnb18 := NB199_191.out; have hnc18 := NB191_199.out; have hnb19 := NB199_192.out; have hnc19 := NB192_199.out; have hcz20_0 : w17.cell? ⟨gb199, 0, none⟩ = some (.int .i64 0) := (blk_cell BK199.out 0).trans rfl; have hcz20_1 : w17.cell? ⟨gb199, 1, none⟩ = some (.slice none 0 0) := (blk_cell BK199.out 1).trans rfl; have hfz20_0 := blk_frozen BK199.out 0; have hfz20_1 := blk_frozen BK199.out 1) | ((with_reducible refine gate_store (t := 25) (p := 5) rfl ?_); refine store_event (t := 25) (p := 5) (v := ?vo_w21) (w1 := ((w17.setCell ⟨gb199, 0, none⟩ (.int .i64 ((rd_T25 y193 x14_1).f0))).setCell ⟨gb199, 1, none⟩ (.slice A198_1 ((rd_T25 y193 x14_1).f1).length c198_1))) ?hg ?ho ?hn ?hr ?_; (case ho => rfl); (case hg => rfl); (case hn => rfl); (case hr => first | (go_simp; done) | (go_simp; rfl)); intro w21 hw; have n0_ : Aside0 (Kd.N k25 25 w21 w.heap.size (fun k_ => (P0_1_ k_ ∨ w.heap.size ≤ k_) ∧ k_ ≠ gb191 ∧ k_ ≠ gb192 ∧ k_ ≠ gb199) u3 x3_1) := ⟨(by rw [hw]; exact (by (with_reducible repeat (first | apply Kd.N_alloc | apply Kd.N_drewN | apply Kd.N_drew)); exact Kd.N_mono (Kd.N_far (p := ⟨gb199, 1, none⟩) (Kd.N_far (p := ⟨gb199, 0, none⟩) (Kd.N_mono HO_3.out (fun k_ hk => (⟨hk, hk.2⟩ : _ ∧ k_ ≠ gb199))) (fun _ hk => hk.2) (.int .i64 ((rd_T25 y193 x14_1).f0))) (fun _ hk => hk.2) (.slice A198_1 ((rd_T25 y193 x14_1).f1).length c198_1)) (fun _ hk => ⟨hk.1.1.1, ⟨hk.1.1.2.1, ⟨hk.1.1.2.2, hk.1.2⟩⟩⟩)))⟩; have n1_ : Aside0 (Kd.V k25 25 w21 w.heap.size (fun k_ => (P0_1_ k_ ∨ w.heap.size ≤ k_) ∧ some k_ ≠ (u3 : Value).ownBlock ∧ k_ ≠ gb191 ∧ k_ ≠ gb192 ∧ k_ ≠ gb199) (.slice (some ad198) y193.length c0_1) y193) := ⟨(by rw [hw]; exact (by (with_reducible repeat (first | apply Kd.V_alloc | apply Kd.V_drewN | apply Kd.V_drew)); exact Kd.V_mono (Kd.V_far (p := ⟨gb199, 1, none⟩) (Kd.V_far (p := ⟨gb199, 0, none⟩) (Kd.V_mono HO_12.out (fun k_ hk => (⟨hk, hk.2⟩ : _ ∧ k_ ≠ gb199))) (fun _ hk => hk.2) (.int .i64 ((rd_T25 y193 x14_1).f0))) (fun _ hk => hk.2) (.slice A198_1 ((rd_T25 y193 x14_1).f1).length c198_1)) (fun _ hk => ⟨hk.1.1.1, ⟨hk.1.1.2.1, ⟨hk.1.1.2.2.1, ⟨hk.1.1.2.2.2, hk.1.2⟩⟩⟩⟩)))⟩; have n2_ : Aside0 (Kd.V k25 25 w21 w.heap.size (fun k_ => (P0_1_ k_ ∨ w.heap.size ≤ k_) ∧ some k_ ≠ (u3 : Value).ownBlock ∧ k_ ≠ gb191 ∧ k_ ≠ gb192 ∧ k_ ≠ gb199) (.slice (some ad198) l0_1.length c0_1) l0_1) := ⟨(by rw [hw]; exact (by (with_reducible repeat (first | apply Kd.V_alloc | apply Kd.V_drewN | apply Kd.V_drew)); exact Kd.V_mono (Kd.V_far (p := ⟨gb199, 1, none⟩) (Kd.V_far (p := ⟨gb199, 0, none⟩) (Kd.V_mono HO_192001.out (fun k_ hk => (⟨hk, hk.2⟩ : _ ∧ k_ ≠ gb199))) (fun _ hk => hk.2) (.int .i64 ((rd_T25 y193 x14_1).f0))) (fun _ hk => hk.2) (.slice A198_1 ((rd_T25 y193 x14_1).f1).length c198_1)) (fun _ hk => ⟨hk.1.1.1, ⟨hk.1.1.2.1, ⟨hk.1.1.2.2.1, ⟨hk.1.1.2.2.2, hk.1.2⟩⟩⟩⟩)))⟩; have n3_ : Aside0 (Kd.V (Kd.int .u64) 90 w21 w.heap.size (fun k_ => (P0_1_ k_ ∨ w.heap.size ≤ k_) ∧ some k_ ≠ (u3 : Value).ownBlock ∧ k_ ≠ gb191 ∧ k_ ≠ gb192 ∧ k_ ≠ gb199) (.slice A198_1 ((rd_T25 y193 x14_1).f1).length c198_1) ((rd_T25 y193 x14_1).f1)) := ⟨(by rw [hw]; exact (by (with_reducible repeat (first | apply Kd.V_alloc | apply Kd.V_drewN | apply Kd.V_drew)); exact Kd.V_mono (Kd.V_far (p := ⟨gb199, 1, none⟩) (Kd.V_far (p := ⟨gb199, 0, none⟩) (Kd.V_mono HL198_1.out (fun k_ hk => (⟨hk, hk.2⟩ : _ ∧ k_ ≠ gb199))) (fun _ hk => hk.2) (.int .i64 ((rd_T25 y193 x14_1).f0))) (fun _ hk => hk.2) (.slice A198_1 ((rd_T25 y193 x14_1).f1).length c198_1)) (fun _ hk => ⟨hk.1.1.1, ⟨hk.1.1.2.1, ⟨hk.1.1.2.2.1, ⟨hk.1.1.2.2.2, hk.1.2⟩⟩⟩⟩)))⟩; have n4_ : Aside0 (w21.heap[gb191]? = some (.cells #[.int .i64 a0_0, .slice (some ad198) l0_1.length c0_1] 55 (0, 0))) := ⟨(by rw [hw]; exact (by (with_reducible repeat (first | refine blk_drewN ?_ _ | refine blk_drew ?_ | refine blk_alloc ?_ _)); refine blk_far ?_ NB191_199.out _; (with_reducible repeat (first | refine blk_drewN ?_ _ | refine blk_drew ?_ | refine blk_alloc ?_ _)); refine blk_far ?_ NB191_199.out _; (with_reducible repeat (first | refine blk_drewN ?_ _ | refine blk_drew ?_ | refine blk_alloc ?_ _)); exact BK191.out))⟩; have n5_ : Aside0 (w21.heap[gb192]? = some (.cells #[.int .i64 0, .slice none 0 0] 55 (0, 0))) := ⟨(by rw [hw]; exact (by (with_reducible repeat (first | refine blk_drewN ?_ _ | refine blk_drew ?_ | refine blk_alloc ?_ _)); refine blk_far ?_ NB192_199.out _; (with_reducible repeat (first | refine blk_drewN ?_ _ | refine blk_drew ?_ | refine blk_alloc ?_ _)); refine blk_far ?_ NB192_199.out _; (with_reducible repeat (first | refine blk_drewN ?_ _ | refine blk_drew ?_ | refine blk_alloc ?_ _)); exact BK192.out))⟩; have n6_ : Aside0 (w21.heap[gb199]? = some (.cells #[.int .i64 ((rd_T25 y193 x14_1).f0), .slice A198_1 ((rd_T25 y193 x14_1).f1).length c198_1] 25 (0, 0))) := ⟨(by rw [hw]; exact (by (with_reducible repeat (first | refine blk_drewN ?_ _ | refine blk_drew ?_ | refine blk_alloc ?_ _)); refine blk_put (cs := #[.int .i64 ((rd_T25 y193 x14_1).f0), .slice none 0 0]) ?_ 1 _ rfl; (with_reducible repeat (first | refine blk_drewN ?_ _ | refine blk_drew ?_ | refine blk_alloc ?_ _)); refine blk_put (cs := #[.int .i64 0, .slice none 0 0]) ?_ 0 _ rfl; (with_reducible repeat (first | refine blk_drewN ?_ _ | refine blk_drew ?_ | refine blk_alloc ?_ _)); exact BK199.out))⟩; have n7_ : Aside0 (Below w.heap.size w w21) := ⟨(by rw [hw]; exact (pb HB))⟩; clear hw HO_3 HO_12 HO_192001 HL198_1 BK191 BK192 BK199 HB; have HO_3 := n0_; have HO_12 := n1_; have HO_192001 := n2_; have HL198_1 := n3_; have BK191 := n4_; have BK192 := n5_; have BK199 := n6_; have HB := n7_; clear n0_ n1_ n2_ n3_ n4_ n5_ n6_ n7_; have hcz22_0 : w21.cell? ⟨gb199, 0, none⟩ = some (.int .i64 ((rd_T25 y193 x14_1).f0)) := (blk_cell BK199.out 0).trans rfl; have hcz22_1 : w21.cell? ⟨gb199, 1, none⟩ = some (.slice A198_1 ((rd_T25 y193 x14_1).f1).length c198_1) := (blk_cell BK199.out 1).trans rfl; have hfz22_0 := blk_frozen BK199.out 0; have hfz22_1 := blk_frozen BK199.out 1; have q23 : ((ji13) : Int) ≤ ((((rd_T25 y193 x14_1).f1).length : Int) : Int) := of_decide_eq_true (by first | (with_reducible assumption) | assumption); obtain ⟨i023, hi023, _, hsz23, _⟩ := info_parts info90; have hroom23 : ((rd_T25 y193 x14_1).f1).length ≤ c198_1 := HC198_1.out; have hC23 : Kd.F (Kd.int .u64) _ _ A198_1 ((rd_T25 y193 x14_1).f1).length ((rd_T25 y193 x14_1).f1) := (Kd.V_at (base := w.heap.size) HL198_1.out).2.2; have hcut23 := cut_to (P := Tryd.prog) 23 90 .i64 Tryd.underlying23 hi023 A198_1 ((rd_T25 y193 x14_1).f1).length c198_1 (ji13) (of_decide_eq_true (by first | (with_reducible assumption) | assumption)) q23 hroom23; have hr23 := Kd.F_take (m := ((ji13) : Int).toNat) hC23 (by omega); have hy23 : y200.length = ((ji13) : Int).toNat := (by rw [Ny200.out, List.length_take]; omega); rw [← Ny200.out] at hr23; rw [← hy23] at hcut23; have HO204 := am (show Kd.V (Kd.int .u64) 90 _ w.heap.size _ (.slice A198_1 y200.length c198_1) y200 from Kd.V_mk (by omega) hr23); have HC204 := am (show y200.length ≤ c198_1 from by omega); clear hr23 hC23 hroom23 hi023 hsz23; have KY23 := Aside0.mk hy23; clear hy23; replace q23 := eq_true q23) | ((with_reducible refine gate_store (t := 23) (p := 25) rfl ?_); refine store_event (t := 23) (p := 25) (v := ?vo_w24) (w1 := (w21.setCell ⟨gb199, 1, none⟩ (.slice A198_1 y200.length c198_1))) ?hg ?ho ?hn ?hr ?_; (case ho => rfl); (case hg => rfl); (case hn => rfl); (case hr => first | (go_simp; done) | (go_simp; rfl)); intro w24 hw; have n0_ : Aside0 (Kd.N k25 25 w24 w.heap.size (fun k_ => (P0_1_ k_ ∨ w.heap.size ≤ k_) ∧ k_ ≠ gb191 ∧ k_ ≠ gb192 ∧ k_ ≠ gb199) u3 x3_1) := ⟨(by rw [hw]; exact (by (with_reducible repeat (first | apply Kd.N_alloc | apply Kd.N_drewN | apply Kd.N_drew)); exact Kd.N_mono (Kd.N_far (p := ⟨gb199, 1, none⟩) (Kd.N_mono HO_3.out (fun k_ hk => (⟨hk, hk.2.2.2⟩ : _ ∧ k_ ≠ gb199))) (fun _ hk => hk.2) (.slice A198_1 y200.length c198_1)) (fun _ hk => ⟨hk.1.1, ⟨hk.1.2.1, ⟨hk.1.2.2.1, hk.1.2.2.2⟩⟩⟩)))⟩; have n1_ : Aside0 (Kd.V k25 25 w24 w.heap.size (fun k_ => (P0_1_ k_ ∨ w.heap.size ≤ k_) ∧ some k_ ≠ (u3 : Value).ownBlock ∧ k_ ≠ gb191 ∧ k_ ≠ gb192 ∧ k_ ≠ gb199) (.slice (some ad198) y193.length c0_1) y193) := ⟨(by rw [hw]; exact (by (with_reducible repeat (first | apply Kd.V_alloc | apply Kd.V_drewN | apply Kd.V_drew)); exact Kd.V_mono (Kd.V_far (p := ⟨gb199, 1, none⟩) (Kd.V_mono HO_12.out (fun k_ hk => (⟨hk, hk.2.2.2.2⟩ : _ ∧ k_ ≠ gb199))) (fun _ hk => hk.2) (.slice A198_1 y200.length c198_1)) (fun _ hk => ⟨hk.1.1, ⟨hk.1.2.1, ⟨hk.1.2.2.1, ⟨hk.1.2.2.2.1, hk.1.2.2.2.2⟩⟩⟩⟩)))⟩; have n2_ : Aside0 (Kd.V k25 25 w24 w.heap.size (fun k_ => (P0_1_ k_ ∨ w.heap.size ≤ k_) ∧ some k_ ≠ (u3 : Value).ownBlock ∧ k_ ≠ gb191 ∧ k_ ≠ gb192 ∧ k_ ≠ gb199) (.slice (some ad198) l0_1.length c0_1) l0_1) := ⟨(by rw [hw]; exact (by (with_reducible repeat (first | apply Kd.V_alloc | apply Kd.V_drewN | apply Kd.V_drew)); exact Kd.V_mono (Kd.V_far (p := ⟨gb199, 1, none⟩) (Kd.V_mono HO_192001.out (fun k_ hk => (⟨hk, hk.2.2.2.2⟩ : _ ∧ k_ ≠ gb199))) (fun _ hk => hk.2) (.slice A198_1 y200.length c198_1)) (fun _ hk => ⟨hk.1.1, ⟨hk.1.2.1, ⟨hk.1.2.2.1, ⟨hk.1.2.2.2.1, hk.1.2.2.2.2⟩⟩⟩⟩)))⟩; have n3_ : Aside0 (Kd.V (Kd.int .u64) 90 w24 w.heap.size (fun k_ => (P0_1_ k_ ∨ w.heap.size ≤ k_) ∧ some k_ ≠ (u3 : Value).ownBlock ∧ k_ ≠ gb191 ∧ k_ ≠ gb192 ∧ k_ ≠ gb199) (.slice A198_1 ((rd_T25 y193 x14_1).f1).length c198_1) ((rd_T25 y193 x14_1).f1)) := ⟨(by rw [hw]; exact (by (with_reducible repeat (first | apply Kd.V_alloc | apply Kd.V_drewN | apply Kd.V_drew)); exact Kd.V_mono (Kd.V_far (p := ⟨gb199, 1, none⟩) (Kd.V_mono HL198_1.out (fun k_ hk => (⟨hk, hk.2.2.2.2⟩ : _ ∧ k_ ≠ gb199))) (fun _ hk => hk.2) (.slice A198_1 y200.length c198_1)) (fun _ hk => ⟨hk.1.1, ⟨hk.1.2.1, ⟨hk.1.2.2.1, ⟨hk.1.2.2.2.1, hk.1.2.2.2.2⟩⟩⟩⟩)))⟩; have n4_ : Aside0 (Kd.V (Kd.int .u64) 90 w24 w.heap.size (fun k_ => (P0_1_ k_ ∨ w.heap.size ≤ k_) ∧ some k_ ≠ (u3 : Value).ownBlock ∧ k_ ≠ gb191 ∧ k_ ≠ gb192 ∧ k_ ≠ gb199) (.slice A198_1 y200.length c198_1) y200) := ⟨(by rw [hw]; exact (by (with_reducible repeat (first | apply Kd.V_alloc | apply Kd.V_drewN | apply Kd.V_drew)); exact Kd.V_mono (Kd.V_far (p := ⟨gb199, 1, none⟩) (Kd.V_mono HO204.out (fun k_ hk => (⟨hk, hk.2.2.2.2⟩ : _ ∧ k_ ≠ gb199))) (fun _ hk => hk.2) (.slice A198_1 y200.length c198_1)) (fun _ hk => ⟨hk.1.1, ⟨hk.1.2.1, ⟨hk.1.2.2.1, ⟨hk.1.2.2.2.1, hk.1.2.2.2.2⟩⟩⟩⟩)))⟩; have n5_ : Aside0 (w24.heap[gb191]? = some (.cells #[.int .i64 a0_0, .slice (some ad198) l0_1.length c0_1] 55 (0, 0))) := ⟨(by rw [hw]; exact (by (with_reducible repeat (first | refine blk_drewN ?_ _ | refine blk_drew ?_ | refine blk_alloc ?_ _)); refine blk_far ?_ NB191_199.out _; (with_reducible repeat (first | refine blk_drewN ?_ _ | refine blk_drew ?_ | refine blk_alloc ?_ _)); exact BK191.out))⟩; have n6_ : Aside0 (w24.heap[gb192]? = some (.cells #[.int .i64 0, .slice none 0 0] 55 (0, 0))) := ⟨(by rw [hw]; exact (by (with_reducible repeat (first | refine blk_drewN ?_ _ | refine blk_drew ?_ | refine blk_alloc ?_ _)); refine blk_far ?_ NB192_199.out _; (with_reducible repeat (first | refine blk_drewN ?_ _ | refine blk_drew ?_ | refine blk_alloc ?_ _)); exact BK192.out))⟩; have n7_ : Aside0 (w24.heap[gb199]? = some (.cells #[.int .i64 ((rd_T25 y193 x14_1).f0), .slice A198_1 y200.length c198_1] 25 (0, 0))) := ⟨(by rw [hw]; exact (by (with_reducible repeat (first | refine blk_drewN ?_ _ | refine blk_drew ?_ | refine blk_alloc ?_ _)); refine blk_put (cs := #[.int .i64 ((rd_T25 y193 x14_1).f0), .slice A198_1 ((rd_T25 y193 x14_1).f1).length c198_1]) ?_ 1 _ rfl; (with_reducible repeat (first | refine blk_drewN ?_ _ | refine blk_drew ?_ | refine blk_alloc ?_ _)); exact BK199.out))⟩; have n8_ : Aside0 (Below w.heap.size w w24) := ⟨(by rw [hw]; exact (pb HB))⟩; clear hw HO_3 HO_12 HO_192001 HL198_1 HO204 BK191 BK192 BK199 HB; have HO_3 := n0_; have HO_12 := n1_; have HO_192001 := n2_; have HL198_1 := n3_; have HO204 := n4_; have BK191 := n5_; have BK192 := n6_; have BK199 := n7_; have HB := n8_; clear n0_ n1_ n2_ n3_ n4_ n5_ n6_ n7_ n8_; have hcz25_0 : w24.cell? ⟨gb199, 0, none⟩ = some (.int .i64 ((rd_T25 y193 x14_1).f0)) := (blk_cell BK199.out 0).trans rfl; have hcz25_1 : w24.cell? ⟨gb199, 1, none⟩ = some (.slice A198_1 y200.length c198_1) := (blk_cell BK199.out 1).trans rfl; have hfz25_0 := blk_frozen BK199.out 0; have hfz25_1 := blk_frozen BK199.out 1) | ((with_reducible refine gate_builtin (b := .append) (xs := #[.tmp 26, .tmp 28]) rfl ?_); at_builtin; refine Kd.N_append k25 (w0 := w) w.heap.size rfl (.tmp 26) (.tmp 28) 53 25 (.agg #[(.int .i64 0), (.slice none 0 0)]) 32 rfl Tryd.underlying53 info25 rfl (by decide) (by omega) u3 x3_1 (⟨(rd_T25 y193 x14_1).f0, y200⟩ : S25) [.int .i64 ((rd_T25 y193 x14_1).f0), .slice A198_1 y200.length c198_1] (fun k_ => (P0_1_ k_ ∨ w.heap.size ≤ k_) ∧ k_ ≠ gb191 ∧ k_ ≠ gb192 ∧ k_ ≠ gb199) (fun k_ => ((fun k_ => (P0_1_ k_ ∨ w.heap.size ≤ k_) ∧ k_ ≠ gb191 ∧ k_ ≠ gb192 ∧ k_ ≠ gb199)) k_ ∧ some k_ ≠ (u3 : Value).ownBlock) rfl rfl ?aP (fun _ hk => hk) ?aF ?aO ?aB ?aS ?aL ?_; (case aP => exact (k25_mkF _ _ (⟨(rd_T25 y193 x14_1).f0, y200⟩ : S25) (Kd.V_reads' (Kd.V_mono (ok' := (fun k_ => ((fun k_ => (P0_1_ k_ ∨ w.heap.size ≤ k_) ∧ k_ ≠ gb191 ∧ k_ ≠ gb192 ∧ k_ ≠ gb199)) k_ ∧ some k_ ≠ (u3 : Value).ownBlock)) (HO204.out) (fun k_ hk => ⟨⟨hk.1, ⟨hk.2.2.1, ⟨hk.2.2.2.1, hk.2.2.2.2⟩⟩⟩, hk.2.1⟩))).2.1 (Kd.V_F (Kd.V_mono (ok' := (fun k_ => ((fun k_ => (P0_1_ k_ ∨ w.heap.size ≤ k_) ∧ k_ ≠ gb191 ∧ k_ ≠ gb192 ∧ k_ ≠ gb199)) k_ ∧ some k_ ≠ (u3 : Value).ownBlock)) (HO204.out) (fun k_ hk => ⟨⟨hk.1, ⟨hk.2.2.1, ⟨hk.2.2.2.1, hk.2.2.2.2⟩⟩⟩, hk.2.1⟩))))); (case aB => exact (pb HB)); (case aF => exact (fun k_ hk => ⟨(.inr (Nat.le_trans (below_size (pb HB)) hk)), Kd.freshB (g := gb191) (o := .cells #[.int .i64 a0_0, .slice (some ad198) l0_1.length c0_1] 55 (0, 0)) (pk BK191) k_ hk, Kd.freshB (g := gb192) (o := .cells #[.int .i64 0, .slice none 0 0] 55 (0, 0)) (pk BK192) k_ hk, Kd.freshB (g := gb199) (o := .cells #[.int .i64 ((rd_T25 y193 x14_1).f0), .slice A198_1 y200.length c198_1] 25 (0, 0)) (pk BK199) k_ hk⟩)); (case aO => exact (pn HO_3)); (case aS => exact (below_size (pb HB))); (case aL => have := LMc16.out; omega); intro v206 w26 ho hb hg hat; rw [← Ny205.out] at ho; have n0_ := am (Kd.V_afterv (ok := (fun k_ => (P0_1_ k_ ∨ w.heap.size ≤ k_) ∧ k_ ≠ gb191 ∧ k_ ≠ gb192 ∧ k_ ≠ gb199)) (by (with_reducible repeat (first | apply Kd.V_alloc | apply Kd.V_drewN | apply Kd.V_drew)); exact Kd.V_mono HO_12.out (fun _ hk => ⟨⟨hk.1, ⟨hk.2.2.1, ⟨hk.2.2.2.1, hk.2.2.2.2⟩⟩⟩, hk.2.1⟩)) hg hat); have n1_ := am (Kd.V_afterv (ok := (fun k_ => (P0_1_ k_ ∨ w.heap.size ≤ k_) ∧ k_ ≠ gb191 ∧ k_ ≠ gb192 ∧ k_ ≠ gb199)) (by (with_reducible repeat (first | apply Kd.V_alloc | apply Kd.V_drewN | apply Kd.V_drew)); exact Kd.V_mono HO_192001.out (fun _ hk => ⟨⟨hk.1, ⟨hk.2.2.1, ⟨hk.2.2.2.1, hk.2.2.2.2⟩⟩⟩, hk.2.1⟩)) hg hat); have n2_ := am (blk_grown (g := gb191) (o := .cells #[.int .i64 a0_0, .slice (some ad198) l0_1.length c0_1] 55 (0, 0)) (pk BK191) hg (Kd.N_ne HO_3.out BK191.out (by decide))); have n3_ := am (blk_grown (g := gb192) (o := .cells #[.int .i64 0, .slice none 0 0] 55 (0, 0)) (pk BK192) hg (Kd.N_ne HO_3.out BK192.out (by decide))); have n4_ := am (Kd.V_afterv (ok := (fun k_ => (P0_1_ k_ ∨ w.heap.size ≤ k_) ∧ k_ ≠ gb191 ∧ k_ ≠ gb192 ∧ k_ ≠ gb199)) (by (with_reducible repeat (first | apply Kd.V_alloc | apply Kd.V_drewN | apply Kd.V_drew)); exact Kd.V_mono HL198_1.out (fun _ hk => ⟨⟨hk.1, ⟨hk.2.2.1, ⟨hk.2.2.2.1, hk.2.2.2.2⟩⟩⟩, hk.2.1⟩)) hg hat); have n5_ := am (blk_grown (g := gb199) (o := .cells #[.int .i64 ((rd_T25 y193 x14_1).f0), .slice A198_1 y200.length c198_1] 25 (0, 0)) (pk BK199) hg (Kd.N_away HO_3.out (fun _ hk => hk.2.2.2))); have n6_ := am (Kd.V_afterv (ok := (fun k_ => (P0_1_ k_ ∨ w.heap.size ≤ k_) ∧ k_ ≠ gb191 ∧ k_ ≠ gb192 ∧ k_ ≠ gb199)) (by (with_reducible repeat (first | apply Kd.V_alloc | apply Kd.V_drewN | apply Kd.V_drew)); exact Kd.V_mono HO204.out (fun _ hk => ⟨⟨hk.1, ⟨hk.2.2.1, ⟨hk.2.2.2.1, hk.2.2.2.2⟩⟩⟩, hk.2.1⟩)) hg hat); have n7_ := am (hb); have n8_ := am (ho); clear HO_12 HO_192001 BK191 BK192 HL198_1 BK199 HO204 HB HO_3; have HO_12 := n0_; have HO_192001 := n1_; have BK191 := n2_; have BK192 := n3_; have HL198_1 := n4_; have BK199 := n5_; have HO204 := n6_; have HB := n7_; have HO207 := n8_; clear n0_ n1_ n2_ n3_ n4_ n5_ n6_ n7_ n8_ ho hb hg hat))
           go_roundg k1
           case measure => have := HK1.out; omega
           case rel => exact ⟨(y205), (wrap64 (x14_1 + 1)), (by first | rfl | (simp; done) | (simp [*]; done)), H', ⟨by have := HK1.out; omega⟩, ⟨by (with_reducible repeat (first | apply Kd.N_alloc | apply Kd.N_drewN | apply Kd.N_drew)); exact Kd.N_mono HO207.out (fun _ hk => ⟨hk.1, ⟨hk.2.1, hk.2.2.1⟩⟩)⟩, ⟨by (with_reducible repeat (first | apply Kd.V_alloc | apply Kd.V_drewN | apply Kd.V_drew)); exact Kd.V_mono HO_12.out (fun _ hk => ⟨hk.1.1, ⟨hk.2, ⟨hk.1.2.1, hk.1.2.2.1⟩⟩⟩)⟩, ⟨by (with_reducible repeat (first | apply Kd.V_alloc | apply Kd.V_drewN | apply Kd.V_drew)); exact Kd.V_mono HO_192001.out (fun _ hk => ⟨hk.1.1, ⟨hk.2, ⟨hk.1.2.1, hk.1.2.2.1⟩⟩⟩)⟩, ⟨by (with_reducible repeat (first | refine blk_drewN ?_ _ | refine blk_drew ?_ | refine blk_alloc ?_ _)); exact BK191.out⟩, ⟨by (with_reducible repeat (first | refine blk_drewN ?_ _ | refine blk_drew ?_ | refine blk_alloc ?_ _)); exact BK192.out⟩, ⟨pb HB⟩⟩
          ·
           rw [if_neg c16] at H
           exact absurd H (by simp)
         ·
          rw [if_neg c15] at H
          exact absurd H (by simp)
        ·
         rw [if_neg c14] at H
         exact absurd H (by simp)
       ·
        rw [if_neg c12] at H
        exact absurd H (by simp)
      ·
       rw [if_neg c11] at H
       exact absurd H (by simp)
     ·
      rw [if_neg c10] at H
      have c10b0 : decide (x14_1 < (y193.length : Int)) = false := decide_eq_false c10
      clear c10
      simp only [Option.some.injEq, Prod.mk.injEq] at H
      obtain ⟨rfl, rfl⟩ := H
      obtain ⟨Ao27, co27, eo27⟩ := Kd.N_slice HO_3.out
      subst eo27
      have hnb28 := NB191_192.out
      have hnc28 := NB192_191.out
      have hcz29_0 : wr.cell? ⟨gb191, 0, none⟩ = some (.int .i64 a0_0) := (blk_cell BK191.out 0).trans rfl
      have hcz29_1 : wr.cell? ⟨gb191, 1, none⟩ = some (.slice A0_1 l0_1.length c0_1) := (blk_cell BK191.out 1).trans rfl
      have hfz29_0 := blk_frozen BK191.out 0
      have hfz29_1 := blk_frozen BK191.out 1
      have hcz30_0 : wr.cell? ⟨gb192, 0, none⟩ = some (.int .i64 0) := (blk_cell BK192.out 0).trans rfl
      have hcz30_1 : wr.cell? ⟨gb192, 1, none⟩ = some (.slice none 0 0) := (blk_cell BK192.out 1).trans rfl
      have hfz30_0 := blk_frozen BK192.out 0
      have hfz30_1 := blk_frozen BK192.out 1
      go_wp2
      refine bodyPost_ret (results_cell_row rfl _ _ gb192 55 #[.int .i64 a0_0, .slice Ao27 x3_1.length co27] (0, 0) _ rfl (by (with_reducible repeat (first | refine blk_drewN ?_ _ | refine blk_drew ?_ | refine blk_alloc ?_ _)); refine blk_put (cs := #[.int .i64 a0_0, .slice none 0 0]) ?_ 1 _ rfl; (with_reducible repeat (first | refine blk_drewN ?_ _ | refine blk_drew ?_ | refine blk_alloc ?_ _)); refine blk_put (cs := #[.int .i64 0, .slice none 0 0]) ?_ 0 _ rfl; (with_reducible repeat (first | refine blk_drewN ?_ _ | refine blk_drew ?_ | refine blk_alloc ?_ _)); refine blk_far ?_ NB192_191.out _; (with_reducible repeat (first | refine blk_drewN ?_ _ | refine blk_drew ?_ | refine blk_alloc ?_ _)); exact BK192.out) Tryd.underlying55 rfl (by kernel_rfl)) rfl ?_
      exact ⟨_, by first | rfl | (simp [errW_none, errW_some] <;> rfl) | (simp only [← hji2]; first | rfl | (simp [errW_none, errW_some] <;> rfl)) | (simp [*, errW_none, errW_some] <;> rfl), by (with_reducible repeat (first | apply Kd.N_alloc | apply Kd.N_drewN | apply Kd.N_drew)); exact Kd.N_mono (Kd.N_far (p := ⟨gb192, 1, none⟩) (Kd.N_far (p := ⟨gb192, 0, none⟩) (Kd.N_far (p := ⟨gb191, 1, none⟩) (Kd.N_mono (Kd.N_mono HO_3.out (fun k_ hk => (⟨hk, hk.2.1⟩ : _ ∧ k_ ≠ gb191))) (fun k_ hk => (⟨hk, hk.1.2.2⟩ : _ ∧ k_ ≠ gb192))) (fun _ hk => hk.1.2) (.slice Ao27 x3_1.length co27)) (fun _ hk => hk.2) (.int .i64 a0_0)) (fun _ hk => hk.2) (.slice Ao27 x3_1.length co27)) (fun _ hk => hk.1.1.1), pb HB⟩
  ·
   rw [if_neg c4] at H
   exact absurd H (by simp)
 ·
  rw [if_neg c3] at H
  exact absurd H (by simp)

/-! ### bitrow_Xor_1: function 69 -/
def bitrow_Xor_1.f (a0 : Int) (a1 : Int) : Option (Int) := some (Go.bits .xor .u64 a0 a1)
set_option maxHeartbeats 8000000 in
set_option maxRecDepth 100000 in
theorem bitrow_Xor_1.calls (a0 : Int) (a1 : Int) (r : Int) (w : World) (h : bitrow_Xor_1.f a0 a1 = some r) :
  Calls Tryd.prog 69 #[.int .u64 a0, .int .u64 a1] w fun e w' => e = .returned (.int .u64 r) ∧ Drawn0 w w' := by
 have H : (some (Go.bits .xor .u64 a0 a1)) = some r := h
 clear h
 obtain rfl := Option.some.inj H
 go_enter Tryd.func69, Tryd.ntmps69
 go_wp2
 go_ret
 exact ⟨by first | rfl | (simp; done) | (simp [*]; done), by repeat (first | exact Drawn0.refl _ | apply Drawn0.step)⟩

end Go.Proofs.YtfcedhejbnoinaaDoor.PK
