-- PRINTED by print.py (a twelfth state) out of the translation. Not trusted: Lean checks it.
import Derived.Test.YtfcedhejbnoinaaDoorPRx0
import Derived.Test.YtfcedhejbnoinaaDoorPRx1
import Derived.Test.YtfcedhejbnoinaaDoorPRx2
namespace Go.Proofs.YtfcedhejbnoinaaDoor.PR
open Go.RowKit Go.Proofs.YtfcedhejbnoinaaDoorW.PrintWords Go.Proofs.YtfcedhejbnoinaaDoorW.PrintLast Go.Proofs.YtfcedhejbnoinaaDoorW.PrintMore
open Bool renaming true → T, false → F
open List renaming setIfInBounds_toArray → q1, set_cons_zero → q2, set_cons_succ → q3
attribute [local go_sem] run_store_func max2_int min2_int max_two min_two max_three min_three max_four min_four   -- for this text's walks alone
set_option linter.unusedVariables false
set_option linter.unusedSimpArgs false

/-! ### matrix_table_named: function 73 -/
def matrix_table_named.l0 : Nat → List Int → Int → Int → Int → List (S25) → Int → List Int → Option (Int × List Int)
 | 0, _, _, _, _, _, _, _ => none
 | k + 1, x22, x23, x24, x170000, x170001, x178000, x178001 => if x24 < x23 then (if 0 ≤ x24 then (if x24 < (x22.length : Int) then (if 0 ≤ (rd x22 x24) then (if (rd x22 x24) < (x170001.length : Int) then ((bitrow_Xor.f k x178000 x178001 ((rd_T25 x170001 (rd x22 x24)).f0) ((rd_T25 x170001 (rd x22 x24)).f1)).bind fun bt184 => (matrix_table_named.l0 k x22 x23 (wrap64 (x24 + 1)) x170000 x170001 bt184.1 bt184.2.1)) else (none)) else (none)) else (none)) else (none)) else (some (x178000, x178001))
def matrix_table_named.f (k : Nat) (a0_0 : Int) (l0_1 : List (S25)) (a1_0 : Int) (l1_1 : List Int) : Option (Int × List Int) := (bitrow_New.f a0_0).bind fun bt172 => ((bitrow_Places.f a1_0 l1_1).bind fun bt178 => (matrix_table_named.l0 k bt178.1 (bt178.1.length : Int) 0 a0_0 l0_1 bt172.1 bt172.2.1))
theorem matrix_table_named.mono_l : ∀ k, (∀ y0 y1 y2 y3 y4 y5 y6, LeO (matrix_table_named.l0 k y0 y1 y2 y3 y4 y5 y6) (matrix_table_named.l0 (k + 1) y0 y1 y2 y3 y4 y5 y6))
 | 0 => fun _ _ _ _ _ _ _ r h => by simp [matrix_table_named.l0] at h
 | k + 1 => by
  have ih0 := matrix_table_named.mono_l k
  ·
   intro y0 y1 y2 y3 y4 y5 y6
   unfold matrix_table_named.l0
   repeat' first
   | (with_reducible exact ih0 _ _ _ _ _ _ _)
   | (with_reducible exact bitrow_Xor.mono _ _ _ _ _)
   | (with_reducible exact LeO.refl _)
   | (with_reducible exact LeO.none _)
   | (with_reducible refine LeO.ite ?_ ?_)
   | (with_reducible refine LeO.bind ?_ (fun _ => ?_))
   | exact ih0 _ _ _ _ _ _ _
   | exact bitrow_Xor.mono _ _ _ _ _
   | exact LeO.none _
   | refine LeO.ite ?_ ?_
   | refine LeO.bind ?_ (fun _ => ?_)
theorem matrix_table_named.mono : ∀ a0 a1 a2 a3 k, LeO (matrix_table_named.f k a0 a1 a2 a3) (matrix_table_named.f (k + 1) a0 a1 a2 a3) := by
 intro a0 a1 a2 a3 k
 have ih0 := matrix_table_named.mono_l k
 unfold matrix_table_named.f
 repeat' first
   | (with_reducible exact ih0 _ _ _ _ _ _ _)
   | (with_reducible exact bitrow_Xor.mono _ _ _ _ _)
   | (with_reducible exact LeO.refl _)
   | (with_reducible exact LeO.none _)
   | (with_reducible refine LeO.ite ?_ ?_)
   | (with_reducible refine LeO.bind ?_ (fun _ => ?_))
   | exact ih0 _ _ _ _ _ _ _
   | exact bitrow_Xor.mono _ _ _ _ _
   | exact LeO.none _
   | refine LeO.ite ?_ ?_
   | refine LeO.bind ?_ (fun _ => ?_)
def matrix_table_named.T6 : Bool × List (List Nat × List Nat) := (true, [([], []), ([], []), ([1], [1]), ([], []), ([2, 3], [2, 3]), ([4], [4]), ([0, 5], [0, 5]), ([6], [6]), ([7], [7]), ([7], [7]), ([8, 6, 0, 1, 2, 3, 4, 5, 6, 7, 8], [8])])
def matrix_table_named.B6 : List Nat := [0, 0, 2, 0, 14, 30, 63, 127, 255, 255, 511]
theorem matrix_table_named.tab6 : rtab .any (opsOf Tryd.f73 6) = matrix_table_named.T6 := by kernel_rfl
theorem matrix_table_named.bits6 : waitsOk matrix_table_named.T6.2 matrix_table_named.B6 = true := by kernel_rfl
set_option maxHeartbeats 8000000 in
set_option maxRecDepth 100000 in
theorem matrix_table_named.calls (k : Nat) (a0_0 : Int) (A0_1 : Option Addr) (c0_1 : Nat) (l0_1 : List (S25)) (a1_0 : Int) (A1_1 : Option Addr) (c1_1 : Nat) (l1_1 : List Int) (r1 : Int) (r2 : List Int) (w : World) (hT_ : TabOk w) (hr0_1 : Kd.C k25 w A0_1 l0_1.length l0_1) (hc0_1 : l0_1.length ≤ c0_1) (hr1_1 : Kd.C (Kd.int .u64) w A1_1 l1_1.length l1_1) (hc1_1 : l1_1.length ≤ c1_1) (h : matrix_table_named.f k a0_0 l0_1 a1_0 l1_1 = some (r1, r2)) :
  Calls Tryd.prog 73 #[.agg #[.int .i64 a0_0, .slice A0_1 l0_1.length c0_1], .agg #[.int .i64 a1_0, .slice A1_1 l1_1.length c1_1]] w fun e w' => ∃ v1_ : Value, e = .returned (.agg #[.int .i64 r1, v1_]) ∧ Kd.R (Kd.int .u64) 90 w' w.heap.size (fun _ => True) v1_ r2 ∧ Below w.heap.size w w' := by
 have hu97 := Tryd.underlying97
 have hu25 := Tryd.underlying25
 have HR0_1 := Aside0.mk hr0_1
 have HC0_1 := Aside0.mk hc0_1
 clear hr0_1 hc0_1
 have HR1_1 := Aside0.mk hr1_1
 have HC1_1 := Aside0.mk hc1_1
 clear hr1_1 hc1_1
 have HT := Aside0.mk hT_
 clear hT_
 have HB := am (Below.refl w.heap.size w)
 have H : ((bitrow_New.f a0_0).bind fun bt172 => ((bitrow_Places.f a1_0 l1_1).bind fun bt178 => (matrix_table_named.l0 k bt178.1 (bt178.1.length : Int) 0 a0_0 l0_1 bt172.1 bt172.2.1))) = some (r1, r2) := h
 clear h
 replace H := Option.bind_eq_some_iff.mp H
 obtain ⟨⟨t172, t173, t176⟩, A30, H⟩ := H
 replace H : ((bitrow_Places.f a1_0 l1_1).bind fun bt178 => (matrix_table_named.l0 k bt178.1 (bt178.1.length : Int) 0 a0_0 l0_1 t172 t173)) = some (r1, r2) := H
 have A3 := Aside0.mk A30
 clear A30
 replace H := Option.bind_eq_some_iff.mp H
 obtain ⟨⟨t178, t181⟩, A40, H⟩ := H
 replace H : (matrix_table_named.l0 k t178 (t178.length : Int) 0 a0_0 l0_1 t172 t173) = some (r1, r2) := H
 have A4 := Aside0.mk A40
 clear A40
 have H' := Aside0.mk H
 clear H
 go_enter Tryd.func73, Tryd.ntmps73
 go_wp2_with (first | ((with_reducible refine gate_dst (N := 2) rfl ?_); refine box_event ?hg (N := 2) ?hd (cs := #[.int .i64 a0_0, .slice A0_1 l0_1.length c0_1]) (t := 97) ?hr ?_; (case hd => rfl); (case hg => rfl); (case hr => first | (go_simp; done) | (go_simp; rfl)); intro gb169 hg w5 hbox hb; have n0_ := am (below_step (pb HB) hb); have n1_ := am (hbox); have n2_ := am ((by rw [hg]; exact (below_size (pb HB)) : w.heap.size ≤ gb169)); have n3_ := am ((by rw [hg]; exact (below_size (pb HB)) : w.heap.size ≤ gb169)); clear HB; have HB := n0_; have BK169 := n1_; have GW169 := n2_; have GE169 := n3_; clear n0_ n1_ n2_ n3_ hb hbox hg) | ((with_reducible refine gate_dst (N := 3) rfl ?_); refine box_event ?hg (N := 3) ?hd (cs := #[.int .i64 a1_0, .slice A1_1 l1_1.length c1_1]) (t := 25) ?hr ?_; (case hd => rfl); (case hg => rfl); (case hr => first | (go_simp; done) | (go_simp; rfl)); intro gb170 hg w6 hbox hb; have n0_ := bb BK169 hb; have n1_ := am (below_step (pb HB) hb); have n2_ := am (hbox); have n3_ := am ((by rw [hg]; exact (below_size (pb HB)) : w.heap.size ≤ gb170)); have n4_ := am ((by rw [hg]; exact (below_size (pb HB)) : w.heap.size ≤ gb170)); have n5_ := am ((by rw [hg]; exact Nat.ne_of_lt (bl BK169) : gb169 ≠ gb170)); have n6_ := am ((by rw [hg]; exact Nat.ne_of_gt (bl BK169) : gb170 ≠ gb169)); clear BK169 HB; have BK169 := n0_; have HB := n1_; have BK170 := n2_; have GW170 := n3_; have GE170 := n4_; have NB169_170 := n5_; have NB170_169 := n6_; clear n0_ n1_ n2_ n3_ n4_ n5_ n6_ hb hbox hg) | ((with_reducible refine gate_dst (N := 4) rfl ?_); refine box_event ?hg (N := 4) ?hd (cs := #[.int .i64 0, .slice none 0 0]) (t := 25) ?hr ?_; (case hd => rfl); (case hg => rfl); (case hr => first | (go_simp; done) | (go_simp; rfl)); intro gb171 hg w7 hbox hb; have n0_ := bb BK169 hb; have n1_ := bb BK170 hb; have n2_ := am (below_step (pb HB) hb); have n3_ := am (hbox); have n4_ := am ((by rw [hg]; exact (below_size (pb HB)) : w.heap.size ≤ gb171)); have n5_ := am ((by rw [hg]; exact (below_size (pb HB)) : w.heap.size ≤ gb171)); have n6_ := am ((by rw [hg]; exact Nat.ne_of_lt (bl BK169) : gb169 ≠ gb171)); have n7_ := am ((by rw [hg]; exact Nat.ne_of_gt (bl BK169) : gb171 ≠ gb169)); have n8_ := am ((by rw [hg]; exact Nat.ne_of_lt (bl BK170) : gb170 ≠ gb171)); have n9_ := am ((by rw [hg]; exact Nat.ne_of_gt (bl BK170) : gb171 ≠ gb170)); clear BK169 BK170 HB; have BK169 := n0_; have BK170 := n1_; have HB := n2_; have BK171 := n3_; have GW171 := n4_; have GE171 := n5_; have NB169_171 := n6_; have NB171_169 := n7_; have NB170_171 := n8_; have NB171_170 := n9_; clear n0_ n1_ n2_ n3_ n4_ n5_ n6_ n7_ n8_ n9_ hb hbox hg; have hnb8 := NB169_170.out; have hnc8 := NB170_169.out; have hnb9 := NB169_171.out; have hnc9 := NB171_169.out; have hcz10_0 : w7.cell? ⟨gb169, 0, none⟩ = some (.int .i64 a0_0) := (blk_cell BK169.out 0).trans rfl; have hcz10_1 : w7.cell? ⟨gb169, 1, none⟩ = some (.slice A0_1 l0_1.length c0_1) := (blk_cell BK169.out 1).trans rfl; have hfz10_0 := blk_frozen BK169.out 0; have hfz10_1 := blk_frozen BK169.out 1) | ((with_reducible refine gate_callee (f := 98) rfl ?_); refine goesL_ (some 14) rfl rfl Tryd.func98 (by kernel_rfl) rfl #[.int .i64 a0_0] rfl (by (try simp only [List.map_toArray, List.map_cons, List.map_nil]); first | done | rfl | (simp only [List.length_drop, List.length_take]; rfl)) ?_; (with_reducible refine (bitrow_New.calls a0_0 t172 t173 t176 _ A3.out).mono ?_); rintro e w11 ⟨v174, rfl, ho0, hb⟩; refine ⟨_, rfl, ?_⟩; have n0_ := am (Kd.R_lower ho0 (below_size (pb HB))); have n1_ := bb BK169 hb; have n2_ := bb BK170 hb; have n3_ := bb BK171 hb; have n4_ := am (below_step (pb HB) hb); clear BK169 BK170 BK171 HB; have HO175 := n0_; have BK169 := n1_; have BK170 := n2_; have BK171 := n3_; have HB := n4_; clear n0_ n1_ n2_ n3_ n4_; (try clear hb); (try clear hb2); (try clear hk); (try clear hi); (try clear ho0)) | ((with_reducible refine gate_dst (N := 5) rfl ?_); refine box_event ?hg (N := 5) ?hd (cs := #[.int .i64 0, .slice none 0 0]) (t := 25) ?hr ?_; (case hd => rfl); (case hg => rfl); (case hr => first | (go_simp; done) | (go_simp; rfl)); intro gb177 hg w12 hbox hb; have n0_ := am (Kd.R_below (pr HO175) hb); have n1_ := bb BK169 hb; have n2_ := bb BK170 hb; have n3_ := bb BK171 hb; have n4_ := am (below_step (pb HB) hb); have n5_ := am (hbox); have n6_ := am ((by rw [hg]; exact (below_size (pb HB)) : w.heap.size ≤ gb177)); have n7_ := am ((by rw [hg]; exact (below_size (pb HB)) : w.heap.size ≤ gb177)); have n8_ := am ((by rw [hg]; exact Nat.ne_of_lt (bl BK169) : gb169 ≠ gb177)); have n9_ := am ((by rw [hg]; exact Nat.ne_of_gt (bl BK169) : gb177 ≠ gb169)); have n10_ := am ((by rw [hg]; exact Nat.ne_of_lt (bl BK170) : gb170 ≠ gb177)); have n11_ := am ((by rw [hg]; exact Nat.ne_of_gt (bl BK170) : gb177 ≠ gb170)); have n12_ := am ((by rw [hg]; exact Nat.ne_of_lt (bl BK171) : gb171 ≠ gb177)); have n13_ := am ((by rw [hg]; exact Nat.ne_of_gt (bl BK171) : gb177 ≠ gb171)); clear HO175 BK169 BK170 BK171 HB; have HO175 := n0_; have BK169 := n1_; have BK170 := n2_; have BK171 := n3_; have HB := n4_; have BK177 := n5_; have GW177 := n6_; have GE177 := n7_; have NB169_177 := n8_; have NB177_169 := n9_; have NB170_177 := n10_; have NB177_170 := n11_; have NB171_177 := n12_; have NB177_171 := n13_; clear n0_ n1_ n2_ n3_ n4_ n5_ n6_ n7_ n8_ n9_ n10_ n11_ n12_ n13_ hb hbox hg; have hnb13 := NB177_169.out; have hnc13 := NB169_177.out; have hnb14 := NB177_170.out; have hnc14 := NB170_177.out; have hnb15 := NB177_171.out; have hnc15 := NB171_177.out; have hcz16_0 : w12.cell? ⟨gb177, 0, none⟩ = some (.int .i64 0) := (blk_cell BK177.out 0).trans rfl; have hcz16_1 : w12.cell? ⟨gb177, 1, none⟩ = some (.slice none 0 0) := (blk_cell BK177.out 1).trans rfl; have hfz16_0 := blk_frozen BK177.out 0; have hfz16_1 := blk_frozen BK177.out 1; obtain ⟨Ao17, co17, eo17⟩ := Kd.R_slice HO175.out; subst eo17; have hnb18 := NB170_171.out; have hnc18 := NB171_170.out; have hcz19_0 : w12.cell? ⟨gb170, 0, none⟩ = some (.int .i64 a1_0) := (blk_cell BK170.out 0).trans rfl; have hcz19_1 : w12.cell? ⟨gb170, 1, none⟩ = some (.slice A1_1 l1_1.length c1_1) := (blk_cell BK170.out 1).trans rfl; have hfz19_0 := blk_frozen BK170.out 0; have hfz19_1 := blk_frozen BK170.out 1) | ((with_reducible refine gate_callee (f := 19) rfl ?_); refine goesL_ (some 19) rfl rfl Tryd.func19 (by kernel_rfl) rfl #[.agg #[.int .i64 a1_0, .slice A1_1 l1_1.length c1_1]] rfl (by (try simp only [List.map_toArray, List.map_cons, List.map_nil]); first | done | rfl | (simp only [List.length_drop, List.length_take]; rfl)) ?_; (with_reducible refine (bitrow_Places.calls a1_0 _ _ l1_1 t178 t181 _ ?side3 ?side1 ?side2 A4.out).mono ?_); (case side1 => exact Kd.C_below HR1_1.out (pb HB)); (case side2 => exact HC1_1.out); (case side3 => exact TabOk.below HT.out (pb HB)); rintro e w20 ⟨v179, rfl, ho0, hb⟩; refine ⟨_, rfl, ?_⟩; have n0_ := am (Kd.R_below (by (with_reducible repeat (first | apply Kd.R_alloc | apply Kd.R_drewN | apply Kd.R_drew)); exact (Kd.R_mono (Kd.R_far (p := ⟨gb177, 1, none⟩) (Kd.R_far (p := ⟨gb177, 0, none⟩) (Kd.R_types HO175.out BK177.out (by decide)) (fun _ hk => hk.2) (.int .i64 t172)) (fun _ hk => hk.2) (.slice Ao17 t173.length co17)) (fun _ h_ => h_.1))) hb); have n1_ := am (Kd.R_lower ho0 (below_size (pb HB))); have n2_ := am (blk_below (g := gb169) (o := .cells #[.int .i64 a0_0, .slice A0_1 l0_1.length c0_1] 97 (0, 0)) (by (with_reducible repeat (first | refine blk_drewN ?_ _ | refine blk_drew ?_ | refine blk_alloc ?_ _)); refine blk_far ?_ NB169_177.out _; (with_reducible repeat (first | refine blk_drewN ?_ _ | refine blk_drew ?_ | refine blk_alloc ?_ _)); refine blk_far ?_ NB169_177.out _; (with_reducible repeat (first | refine blk_drewN ?_ _ | refine blk_drew ?_ | refine blk_alloc ?_ _)); exact BK169.out) hb); have n3_ := am (blk_below (g := gb170) (o := .cells #[.int .i64 a1_0, .slice A1_1 l1_1.length c1_1] 25 (0, 0)) (by (with_reducible repeat (first | refine blk_drewN ?_ _ | refine blk_drew ?_ | refine blk_alloc ?_ _)); refine blk_far ?_ NB170_177.out _; (with_reducible repeat (first | refine blk_drewN ?_ _ | refine blk_drew ?_ | refine blk_alloc ?_ _)); refine blk_far ?_ NB170_177.out _; (with_reducible repeat (first | refine blk_drewN ?_ _ | refine blk_drew ?_ | refine blk_alloc ?_ _)); exact BK170.out) hb); have n4_ := am (blk_below (g := gb171) (o := .cells #[.int .i64 0, .slice none 0 0] 25 (0, 0)) (by (with_reducible repeat (first | refine blk_drewN ?_ _ | refine blk_drew ?_ | refine blk_alloc ?_ _)); refine blk_far ?_ NB171_177.out _; (with_reducible repeat (first | refine blk_drewN ?_ _ | refine blk_drew ?_ | refine blk_alloc ?_ _)); refine blk_far ?_ NB171_177.out _; (with_reducible repeat (first | refine blk_drewN ?_ _ | refine blk_drew ?_ | refine blk_alloc ?_ _)); exact BK171.out) hb); have n5_ := am (blk_below (g := gb177) (o := .cells #[.int .i64 t172, .slice Ao17 t173.length co17] 25 (0, 0)) (by (with_reducible repeat (first | refine blk_drewN ?_ _ | refine blk_drew ?_ | refine blk_alloc ?_ _)); refine blk_put (cs := #[.int .i64 t172, .slice none 0 0]) ?_ 1 _ rfl; (with_reducible repeat (first | refine blk_drewN ?_ _ | refine blk_drew ?_ | refine blk_alloc ?_ _)); refine blk_put (cs := #[.int .i64 0, .slice none 0 0]) ?_ 0 _ rfl; (with_reducible repeat (first | refine blk_drewN ?_ _ | refine blk_drew ?_ | refine blk_alloc ?_ _)); exact BK177.out) hb); have n6_ := am (below_step (pb HB) hb); clear HO175 BK169 BK170 BK171 BK177 HB; have HO175 := n0_; have HO180 := n1_; have BK169 := n2_; have BK170 := n3_; have BK171 := n4_; have BK177 := n5_; have HB := n6_; clear n0_ n1_ n2_ n3_ n4_ n5_ n6_; (try clear hb); (try clear hb2); (try clear hk); (try clear hi); (try clear ho0); obtain ⟨Ao21, co21, eo21⟩ := Kd.R_slice HO180.out; subst eo21))
 go_loopg [24] k (fun kq v24 w' => ∃ (x24_1 : Int) (x178000_1 : Int) (x178001_1 : List Int) (u178001 : Value), v24 = .int .i64 x24_1 ∧ Aside0 (matrix_table_named.l0 kq t178 (t178.length : Int) x24_1 a0_0 l0_1 x178000_1 x178001_1 = some (r1, r2)) ∧ Aside0 (kq ≤ k) ∧ Aside0 (Kd.R (Kd.int .i64) 3 w' w.heap.size (fun _ => True) (.slice Ao21 t178.length co21) t178) ∧ Aside0 (Kd.R (Kd.int .u64) 90 w' w.heap.size (fun _ => True) u178001 x178001_1) ∧ Aside0 (w'.heap[gb169]? = some (.cells #[.int .i64 a0_0, (.slice A0_1 l0_1.length c0_1)] 97 (0, 0))) ∧ Aside0 (w'.heap[gb170]? = some (.cells #[.int .i64 a1_0, (.slice A1_1 l1_1.length c1_1)] 25 (0, 0))) ∧ Aside0 (w'.heap[gb171]? = some (.cells #[.int .i64 0, (.slice none 0 0)] 25 (0, 0))) ∧ Aside0 (w'.heap[gb177]? = some (.cells #[.int .i64 x178000_1, u178001] 25 (0, 0))) ∧ Aside0 (Below w.heap.size w w'))
 case atStart => exact ⟨(0), (t172), (t173), (.slice Ao17 t173.length co17), (by first | rfl | (simp; done) | (simp [*]; done)), H', ⟨Nat.le_refl _⟩, ⟨by (with_reducible repeat (first | apply Kd.R_alloc | apply Kd.R_drewN | apply Kd.R_drew)); exact HO180.out⟩, ⟨by (with_reducible repeat (first | apply Kd.R_alloc | apply Kd.R_drewN | apply Kd.R_drew)); exact HO175.out⟩, ⟨by (with_reducible repeat (first | refine blk_drewN ?_ _ | refine blk_drew ?_ | refine blk_alloc ?_ _)); exact BK169.out⟩, ⟨by (with_reducible repeat (first | refine blk_drewN ?_ _ | refine blk_drew ?_ | refine blk_alloc ?_ _)); exact BK170.out⟩, ⟨by (with_reducible repeat (first | refine blk_drewN ?_ _ | refine blk_drew ?_ | refine blk_alloc ?_ _)); exact BK171.out⟩, ⟨by (with_reducible repeat (first | refine blk_drewN ?_ _ | refine blk_drew ?_ | refine blk_alloc ?_ _)); exact BK177.out⟩, ⟨pb HB⟩⟩
 case round =>
  clear H'
  try clear c1
  try clear p2
  try clear c7
  try clear c8
  try clear c9
  try clear c13
  try clear c14
  try clear c15
  try clear c18
  try clear c19
  try clear hcz10_0
  try clear hcz10_1
  try clear hcz16_0
  try clear hcz16_1
  try clear hcz19_0
  try clear hcz19_1
  try clear hfz10_0
  try clear hfz10_1
  try clear hfz16_0
  try clear hfz16_1
  try clear hfz19_0
  try clear hfz19_1
  obtain ⟨x24_1, x178000_1, x178001_1, u178001, rfl, HA, HK1, HO_22, HO_178001, BK169, BK170, BK171, BK177, HB⟩ := hrel
  cases gk with
  | zero => exact absurd HA.out (by simp [matrix_table_named.l0])
  | succ k1 =>
   have H := HA.out
   clear HA
   simp only [matrix_table_named.l0] at H
   by_cases c22 : x24_1 < (t178.length : Int)
   ·
    rw [if_pos c22] at H
    have c22b0 : decide (x24_1 < (t178.length : Int)) = true := decide_eq_true c22
    clear c22
    by_cases c23 : 0 ≤ x24_1
    ·
     rw [if_pos c23] at H
     have c23b0 : decide (0 ≤ x24_1) = true := decide_eq_true c23
     clear c23
     by_cases c24 : x24_1 < (t178.length : Int)
     ·
      rw [if_pos c24] at H
      have c24b0 : decide (x24_1 < (t178.length : Int)) = true := decide_eq_true c24
      clear c24
      by_cases c25 : 0 ≤ (rd t178 x24_1)
      ·
       rw [if_pos c25] at H
       have c25b0 : decide (0 ≤ (rd t178 x24_1)) = true := decide_eq_true c25
       clear c25
       by_cases c26 : (rd t178 x24_1) < (l0_1.length : Int)
       ·
        rw [if_pos c26] at H
        have c26b0 : decide ((rd t178 x24_1) < (l0_1.length : Int)) = true := decide_eq_true c26
        clear c26
        replace H := Option.bind_eq_some_iff.mp H
        obtain ⟨⟨t184, t185, t188⟩, A270, H⟩ := H
        replace H : (matrix_table_named.l0 k1 t178 (t178.length : Int) (wrap64 (x24_1 + 1)) a0_0 l0_1 t184 t185) = some (r1, r2) := H
        have A27 := Aside0.mk A270
        clear A270
        have H' := Aside0.mk H
        clear H
        have p182 : 0 ≤ (x24_1 : Int) := of_decide_eq_true (by first | (with_reducible assumption) | assumption)
        have q182 : x24_1 < (t178.length : Int) := of_decide_eq_true (by first | (with_reducible assumption) | assumption)
        obtain ⟨ad182, e182, hx182_0⟩ := Kd.at_int (Kd.R_reads' HO_22.out).2.2 x24_1 p182 q182
        cases e182
        replace p182 := eq_true p182
        replace q182 := eq_true q182
        try go_wp2
        have n0_ := am (Kd.R_drew HO_22.out)
        have n1_ := am (Kd.R_drew HO_178001.out)
        have n2_ := am (blk_drew BK169.out)
        have n3_ := am (blk_drew BK170.out)
        have n4_ := am (blk_drew BK171.out)
        have n5_ := am (blk_drew BK177.out)
        have n6_ := am (below_drew1 HB.out)
        clear HO_22
        clear HO_178001
        clear BK169
        clear BK170
        clear BK171
        clear BK177
        clear HB
        have HO_22 := n0_
        have HO_178001 := n1_
        have BK169 := n2_
        have BK170 := n3_
        have BK171 := n4_
        have BK177 := n5_
        have HB := n6_
        clear n0_ n1_ n2_ n3_ n4_ n5_ n6_
        have p183 : 0 ≤ ((rd t178 x24_1) : Int) := of_decide_eq_true (by first | (with_reducible assumption) | assumption)
        have q183 : (rd t178 x24_1) < (l0_1.length : Int) := of_decide_eq_true (by first | (with_reducible assumption) | assumption)
        obtain ⟨ad183, A183_1, c183_1, e183, hx183_0, hx183_1, hl183_1, hi183_1⟩ := at_T25 HR0_1.out (rd t178 x24_1) p183 q183
        have hw183_1 := hx183_1
        have hw183_0 := hx183_0
        cases e183
        replace hx183_0 := (HB.out.cell (World.block_lt_of_cell? w _ hx183_0)).trans hx183_0
        replace hx183_1 := (HB.out.cell (World.block_lt_of_cell? w _ hx183_1)).trans hx183_1
        have HR183_1 := Aside0.mk hi183_1
        have HC183_1 := Aside0.mk hl183_1
        clear hi183_1 hl183_1
        replace p183 := eq_true p183
        replace q183 := eq_true q183
        obtain ⟨Ao29, co29, eo29⟩ := Kd.R_slice HO_178001.out
        (first | subst eo29 | (injection eo29 with f1_ f2_ f3_; have f4_ := f1_.symm; have f5_ := f3_.symm; clear f1_ f2_ f3_; subst f4_; subst f5_))
        refine start_ (n := 11) (S := fun w' => w'.cell? ⟨gb177, 0, none⟩ = some (.int .i64 x178000_1) ∧ w'.cell? ⟨gb177, 1, none⟩ = some (.slice Ao29 x178001_1.length co29) ∧ w'.cell? ⟨gb169, 0, none⟩ = some (.int .i64 a0_0) ∧ w'.cell? ⟨gb169, 1, none⟩ = some (.slice (some ad183) l0_1.length c0_1) ∧ w'.cell? (ad183.add (((rd t178 x24_1)).toNat * 2)) = some (.int .i64 ((rd_T25 l0_1 (rd t178 x24_1)).f0)) ∧ w'.cell? ⟨(ad183.add (((rd t178 x24_1)).toNat * 2)).block, (ad183.add (((rd t178 x24_1)).toNat * 2)).off + 1, none⟩ = some (.slice A183_1 ((rd_T25 l0_1 (rd t178 x24_1)).f1).length c183_1)) (ds := [10]) #[F, F, F, F, F, F, F, F, F, F, F] (by kernel_rfl) rfl rfl ⟨(blk_cell BK177.out 0).trans rfl, (blk_cell BK177.out 1).trans rfl, (blk_cell BK169.out 0).trans rfl, (blk_cell BK169.out 1).trans rfl, ((HB.out.cell (World.block_lt_of_cell? w _ hw183_0)).trans hw183_0), ((HB.out.cell (World.block_lt_of_cell? w _ hw183_1)).trans hw183_1)⟩ (fun hHeld => ?_); refine with_tabW matrix_table_named.tab6 matrix_table_named.bits6 (fun HT_ HW_ => ?_)
        generalize wr.drew = w28 at HO_22 HO_178001 BK169 BK170 BK171 BK177 HB HR183_1 hx183_0 hx183_1 hHeld ⊢
        refine pure_ (i := 1) (N := some 30) (v := ?_) (a' := ?_) #[F, T, F, F, F, F, F, F, F, F, F] rfl rfl (any_of HT_.out (by kernel_rfl)) (fun _ _ _ h => h) (Or.inl ⟨by rfl, ?_⟩) ?_ ?_
        rotate_left
        ·
         intro w'
         go_simp
         with_reducible rfl
        rotate_left
        ·
         simp only [Act.put, q1, q2, q3, i64_w, i32_w]
         rfl
        refine pure_ (i := 3) (N := some 32) (v := ?_) (a' := ?_) #[F, T, F, T, F, F, F, F, F, F, F] rfl rfl (any_of HT_.out (by kernel_rfl)) (fun _ _ _ h => h) (Or.inl ⟨by rfl, ?_⟩) ?_ ?_
        rotate_left
        ·
         intro w'
         go_simp
         with_reducible rfl
        rotate_left
        ·
         simp only [Act.put, q1, q2, q3, i64_w, i32_w]
         rfl
        refine take_ (i := 0) (N := some 29) (v := ?_) (a' := ?_) #[T, T, F, T, F, F, F, F, F, F, F] rfl rfl (take_ofW HT_.out HW_.out (by kernel_rfl)) (fun _ _ _ h => h) (Or.inl ⟨by rfl, ?_⟩) hHeld ?_ ?_
        rotate_left
        ·
         rintro w' ⟨s0, s1, s2, s3, s4, s5⟩
         go_simp
         with_reducible rfl
        rotate_left
        ·
         simp only [Act.put, q1, q2, q3, i64_w, i32_w]
         rfl
        refine take_ (i := 2) (N := some 31) (v := ?_) (a' := ?_) #[T, T, T, T, F, F, F, F, F, F, F] rfl rfl (take_ofW HT_.out HW_.out (by kernel_rfl)) (fun _ _ _ h => h) (Or.inl ⟨by rfl, ?_⟩) hHeld ?_ ?_
        rotate_left
        ·
         rintro w' ⟨s0, s1, s2, s3, s4, s5⟩
         go_simp
         with_reducible rfl
        rotate_left
        ·
         simp only [Act.put, q1, q2, q3, i64_w, i32_w]
         rfl
        refine pure_ (i := 4) (N := some 33) (v := ?_) (a' := ?_) #[T, T, T, T, T, F, F, F, F, F, F] rfl rfl (any_of HT_.out (by kernel_rfl)) (fun _ _ _ h => h) (Or.inl ⟨by rfl, ?_⟩) ?_ ?_
        rotate_left
        ·
         intro w'
         go_simp
         with_reducible rfl
        rotate_left
        ·
         simp only [Act.put, q1, q2, q3, i64_w, i32_w]
         rfl
        refine take_ (i := 5) (N := some 34) (v := ?_) (a' := ?_) #[T, T, T, T, T, T, F, F, F, F, F] rfl rfl (take_ofW HT_.out HW_.out (by kernel_rfl)) (fun _ _ _ h => h) (Or.inl ⟨by rfl, ?_⟩) hHeld ?_ ?_
        rotate_left
        ·
         rintro w' ⟨s0, s1, s2, s3, s4, s5⟩
         go_simp
         with_reducible rfl
        rotate_left
        ·
         simp only [Act.put, q1, q2, q3, i64_w, i32_w]
         rfl
        refine one_ (i := 6) (N := some 35) #[T, T, T, T, T, T, T, F, F, F, F] rfl rfl (one_of HT_.out (by kernel_rfl)) (by decide) (fun K hK => ?_)
        refine goes_ Tryd.func28 (by kernel_rfl) rfl #[.agg #[.int .i64 x178000_1, .slice Ao29 x178001_1.length co29], .agg #[.int .i64 ((rd_T25 l0_1 (rd t178 x24_1)).f0), .slice A183_1 ((rd_T25 l0_1 (rd t178 x24_1)).f1).length c183_1]] (by rfl) rfl rfl (by (try simp only [List.map_toArray, List.map_cons, List.map_nil]); first | done | rfl | (simp only [List.length_drop, List.length_take]; rfl)) ?_
        with_reducible refine (bitrow_Xor.calls k1 x178000_1 _ _ x178001_1 ((rd_T25 l0_1 (rd t178 x24_1)).f0) _ _ ((rd_T25 l0_1 (rd t178 x24_1)).f1) t184 t185 t188 _ ?side1 ?side2 ?side3 ?side4 A27.out).mono ?_
        (case side1 => repeat (first | exact (Kd.R_reads' HO_178001.out).2.2 | (with_reducible refine Kd.C_alloc ?_ _) | (with_reducible refine Kd.C_drewN ?_ _) | (with_reducible refine Kd.C_drew ?_)))
        (case side2 => exact (Kd.R_reads' HO_178001.out).2.1)
        (case side3 => repeat (first | exact (Kd.C_below HR183_1.out HB.out) | (with_reducible refine Kd.C_alloc ?_ _) | (with_reducible refine Kd.C_drewN ?_ _) | (with_reducible refine Kd.C_drew ?_)))
        (case side4 => exact HC183_1.out)
        rintro e w30 ⟨v186, rfl, ho0, hb⟩
        refine ⟨_, rfl, ?_⟩
        have n0_ := am (Kd.R_below (pr HO_22) hb)
        have n1_ := am (Kd.R_elder' (pr HO_178001) (Kd.R_base ho0) hb)
        have n2_ := am (Kd.R_lower (Kd.R_new' ho0 (Kd.R_lt (pr HO_178001))) (below_size (pb HB)))
        have n3_ := bb BK169 hb
        have n4_ := bb BK170 hb
        have n5_ := bb BK171 hb
        have n6_ := bb BK177 hb
        have n7_ := am (below_step (pb HB) hb)
        clear HO_22
        clear HO_178001
        clear BK169
        clear BK170
        clear BK171
        clear BK177
        clear HB
        have HO_22 := n0_
        have HO_178001 := n1_
        have HO187 := n2_
        have BK169 := n3_
        have BK170 := n4_
        have BK171 := n5_
        have BK177 := n6_
        have HB := n7_
        clear n0_ n1_ n2_ n3_ n4_ n5_ n6_ n7_
        (try clear hb)
        (try clear hb2)
        (try clear hk)
        (try clear hi)
        (try clear ho0)
        obtain ⟨Ao32, co32, eo32⟩ := Kd.R_slice HO187.out
        (first | subst eo32 | (injection eo32 with f1_ f2_ f3_; have f4_ := f1_.symm; have f5_ := f3_.symm; clear f1_ f2_ f3_; subst f4_; subst f5_))
        refine hK.out _ _ ⟨(blk_cell BK177.out 0).trans rfl, (blk_cell BK177.out 1).trans rfl, (blk_cell BK169.out 0).trans rfl, (blk_cell BK169.out 1).trans rfl, ((HB.out.cell (World.block_lt_of_cell? w _ hw183_0)).trans hw183_0), ((HB.out.cell (World.block_lt_of_cell? w _ hw183_1)).trans hw183_1)⟩ (fun hHeld => ?_)
        clear hK K
        refine norm_ (a' := ?_) ?_ ?_
        rotate_left
        ·
         show Act.put _ (some 35) _ = _
         simp only [Act.put, q1, q2, q3, i64_w, i32_w]
         rfl
        refine pure_ (i := 7) (N := some 28) (v := ?_) (a' := ?_) #[T, T, T, T, T, T, T, T, F, F, F] rfl rfl (any_of HT_.out (by kernel_rfl)) (fun _ _ _ h => h) (Or.inl ⟨by rfl, ?_⟩) ?_ ?_
        rotate_left
        ·
         intro w'
         go_simp
         with_reducible rfl
        rotate_left
        ·
         simp only [Act.put, q1, q2, q3, i64_w, i32_w]
         rfl
        refine pure_ (i := 8) (N := some 36) (v := ?_) (a' := ?_) #[T, T, T, T, T, T, T, T, T, F, F] rfl rfl (any_of HT_.out (by kernel_rfl)) (fun _ _ _ h => h) (Or.inl ⟨by rfl, ?_⟩) ?_ ?_
        rotate_left
        ·
         intro w'
         go_simp
         with_reducible rfl
        rotate_left
        ·
         simp only [Act.put, q1, q2, q3, i64_w, i32_w]
         rfl
        refine pure_ (i := 9) (N := some 37) (v := ?_) (a' := ?_) #[T, T, T, T, T, T, T, T, T, T, F] rfl rfl (any_of HT_.out (by kernel_rfl)) (fun _ _ _ h => h) (Or.inl ⟨by rfl, ?_⟩) ?_ ?_
        rotate_left
        ·
         intro w'
         go_simp
         with_reducible rfl
        rotate_left
        ·
         simp only [Act.put, q1, q2, q3, i64_w, i32_w]
         rfl
        refine last_ (i := 10) (N := none) #[T, T, T, T, T, T, T, T, T, T, T] rfl rfl (one_of HT_.out (by kernel_rfl)) (by decide) (fun K hK => ?_)
        have hs31 : w30.cell? ⟨gb177, 0, none⟩ = some (.int .i64 x178000_1) := (blk_cell BK177.out 0).trans rfl
        have hfs31 := blk_frozen BK177.out 0
        have hns31_0 := NB169_177.out
        have hns31_1 := NB170_177.out
        have hns31_2 := NB171_177.out
        have hms31_0 := NB177_169.out
        have hms31_1 := NB177_170.out
        have hms31_2 := NB177_171.out
        have hs33 : w30.cell? ⟨gb177, 1, none⟩ = some (.slice Ao29 x178001_1.length co29) := (blk_cell BK177.out 1).trans rfl
        have hfs33 := blk_frozen BK177.out 1
        have hns33_0 := NB169_177.out
        have hns33_1 := NB170_177.out
        have hns33_2 := NB171_177.out
        have hms33_0 := NB177_169.out
        have hms33_1 := NB177_170.out
        have hms33_2 := NB177_171.out
        refine skip_ (w1 := ?_) (by rfl) rfl ?_ ?_
        rotate_left
        ·
         go_simp
         rfl
        refine hK.out _ _ ?_
        clear hK K
        refine done_ (done_of HT_.out (by kernel_rfl)) ?_
        try go_wp2
        go_roundg k1
        case measure => have := HK1.out; omega
        case rel => exact ⟨(wrap64 (x24_1 + 1)), (t184), (t185), (.slice Ao32 t185.length co32), (by first | rfl | (simp; done) | (simp [*]; done)), H', ⟨by have := HK1.out; omega⟩, ⟨by (with_reducible repeat (first | apply Kd.R_alloc | apply Kd.R_drewN | apply Kd.R_drew)); exact Kd.R_mono (Kd.R_far (p := ⟨gb177, 1, none⟩) (Kd.R_far (p := ⟨gb177, 0, none⟩) (Kd.R_types HO_22.out BK177.out (by decide)) (fun _ hk => hk.2) (.int .i64 t184)) (fun _ hk => hk.2) (.slice Ao32 t185.length co32)) (fun _ hk => trivial)⟩, ⟨by (with_reducible repeat (first | apply Kd.R_alloc | apply Kd.R_drewN | apply Kd.R_drew)); exact Kd.R_mono (Kd.R_far (p := ⟨gb177, 1, none⟩) (Kd.R_far (p := ⟨gb177, 0, none⟩) (Kd.R_types HO187.out BK177.out (by decide)) (fun _ hk => hk.2) (.int .i64 t184)) (fun _ hk => hk.2) (.slice Ao32 t185.length co32)) (fun _ hk => trivial)⟩, ⟨by (with_reducible repeat (first | refine blk_drewN ?_ _ | refine blk_drew ?_ | refine blk_alloc ?_ _)); refine blk_far ?_ NB169_177.out _; (with_reducible repeat (first | refine blk_drewN ?_ _ | refine blk_drew ?_ | refine blk_alloc ?_ _)); refine blk_far ?_ NB169_177.out _; (with_reducible repeat (first | refine blk_drewN ?_ _ | refine blk_drew ?_ | refine blk_alloc ?_ _)); exact BK169.out⟩, ⟨by (with_reducible repeat (first | refine blk_drewN ?_ _ | refine blk_drew ?_ | refine blk_alloc ?_ _)); refine blk_far ?_ NB170_177.out _; (with_reducible repeat (first | refine blk_drewN ?_ _ | refine blk_drew ?_ | refine blk_alloc ?_ _)); refine blk_far ?_ NB170_177.out _; (with_reducible repeat (first | refine blk_drewN ?_ _ | refine blk_drew ?_ | refine blk_alloc ?_ _)); exact BK170.out⟩, ⟨by (with_reducible repeat (first | refine blk_drewN ?_ _ | refine blk_drew ?_ | refine blk_alloc ?_ _)); refine blk_far ?_ NB171_177.out _; (with_reducible repeat (first | refine blk_drewN ?_ _ | refine blk_drew ?_ | refine blk_alloc ?_ _)); refine blk_far ?_ NB171_177.out _; (with_reducible repeat (first | refine blk_drewN ?_ _ | refine blk_drew ?_ | refine blk_alloc ?_ _)); exact BK171.out⟩, ⟨by (with_reducible repeat (first | refine blk_drewN ?_ _ | refine blk_drew ?_ | refine blk_alloc ?_ _)); refine blk_put (cs := #[.int .i64 t184, .slice Ao29 x178001_1.length co29]) ?_ 1 _ rfl; (with_reducible repeat (first | refine blk_drewN ?_ _ | refine blk_drew ?_ | refine blk_alloc ?_ _)); refine blk_put (cs := #[.int .i64 x178000_1, .slice Ao29 x178001_1.length co29]) ?_ 0 _ rfl; (with_reducible repeat (first | refine blk_drewN ?_ _ | refine blk_drew ?_ | refine blk_alloc ?_ _)); exact BK177.out⟩, ⟨pb HB⟩⟩
       ·
        rw [if_neg c26] at H
        exact absurd H (by simp)
      ·
       rw [if_neg c25] at H
       exact absurd H (by simp)
     ·
      rw [if_neg c24] at H
      exact absurd H (by simp)
    ·
     rw [if_neg c23] at H
     exact absurd H (by simp)
   ·
    rw [if_neg c22] at H
    have c22b0 : decide (x24_1 < (t178.length : Int)) = false := decide_eq_false c22
    clear c22
    simp only [Option.some.injEq, Prod.mk.injEq] at H
    obtain ⟨rfl, rfl⟩ := H
    have hnb34 := NB177_169.out
    have hnc34 := NB169_177.out
    have hnb35 := NB177_170.out
    have hnc35 := NB170_177.out
    have hnb36 := NB177_171.out
    have hnc36 := NB171_177.out
    have hcz37_0 : wr.cell? ⟨gb177, 0, none⟩ = some (.int .i64 x178000_1) := (blk_cell BK177.out 0).trans rfl
    have hcz37_1 : wr.cell? ⟨gb177, 1, none⟩ = some (u178001) := (blk_cell BK177.out 1).trans rfl
    have hfz37_0 := blk_frozen BK177.out 0
    have hfz37_1 := blk_frozen BK177.out 1
    have hnb38 := NB171_169.out
    have hnc38 := NB169_171.out
    have hnb39 := NB171_170.out
    have hnc39 := NB170_171.out
    have hcz40_0 : wr.cell? ⟨gb171, 0, none⟩ = some (.int .i64 0) := (blk_cell BK171.out 0).trans rfl
    have hcz40_1 : wr.cell? ⟨gb171, 1, none⟩ = some (.slice none 0 0) := (blk_cell BK171.out 1).trans rfl
    have hfz40_0 := blk_frozen BK171.out 0
    have hfz40_1 := blk_frozen BK171.out 1
    obtain ⟨Ao41, co41, eo41⟩ := Kd.R_slice HO_178001.out
    subst eo41
    go_wp2
    refine bodyPost_ret (results_cell_row rfl _ _ gb171 25 #[.int .i64 x178000_1, .slice Ao41 x178001_1.length co41] (0, 0) _ rfl (by (with_reducible repeat (first | refine blk_drewN ?_ _ | refine blk_drew ?_ | refine blk_alloc ?_ _)); refine blk_put (cs := #[.int .i64 x178000_1, .slice none 0 0]) ?_ 1 _ rfl; (with_reducible repeat (first | refine blk_drewN ?_ _ | refine blk_drew ?_ | refine blk_alloc ?_ _)); refine blk_put (cs := #[.int .i64 0, .slice none 0 0]) ?_ 0 _ rfl; (with_reducible repeat (first | refine blk_drewN ?_ _ | refine blk_drew ?_ | refine blk_alloc ?_ _)); exact BK171.out) Tryd.underlying25 rfl (by kernel_rfl)) rfl ?_
    exact ⟨_, by first | rfl | (simp [errW_none, errW_some] <;> rfl) | (simp [*, errW_none, errW_some] <;> rfl), by (with_reducible repeat (first | apply Kd.R_alloc | apply Kd.R_drewN | apply Kd.R_drew)); exact Kd.R_mono (Kd.R_far (p := ⟨gb171, 1, none⟩) (Kd.R_far (p := ⟨gb171, 0, none⟩) (Kd.R_types HO_178001.out BK171.out (by decide)) (fun _ hk => hk.2) (.int .i64 x178000_1)) (fun _ hk => hk.2) (.slice Ao41 x178001_1.length co41)) (fun _ hk => trivial), pb HB⟩

/-! ### api_Row_73: function 72 -/
def api_Row_73.l0 : Nat → List (S25) → Int → Int → Int → List (S25) → Int → List (S25) → Option (Int × (List (S25)))
 | 0, _, _, _, _, _, _, _ => none
 | k + 1, x12, x13, x14, x960, x961, x191000, x191001 => if x14 < x13 then (if 0 ≤ x14 then (if x14 < (x12.length : Int) then ((matrix_table_named.f k x960 x961 ((rd_T25 x12 x14).f0) ((rd_T25 x12 x14).f1)).bind fun bt193 => (if x191001.length < 4398046511104 then (api_Row_73.l0 k x12 x13 (wrap64 (x14 + 1)) x960 x961 x191000 (x191001 ++ [(⟨bt193.1, bt193.2⟩ : S25)])) else (none))) else (none)) else (none)) else (some (x191000, x191001))
def api_Row_73.f (k : Nat) (a0 : Int) (l1 : List (S25))  (a3_0 : Int) (l3_1 : List (S25)) : Option (Int × (List (S25))) := api_Row_73.l0 k l1 (l1.length : Int) 0 a3_0 l3_1 a0 ([] : List (S25))
theorem api_Row_73.mono_l : ∀ k, (∀ y0 y1 y2 y3 y4 y5 y6, LeO (api_Row_73.l0 k y0 y1 y2 y3 y4 y5 y6) (api_Row_73.l0 (k + 1) y0 y1 y2 y3 y4 y5 y6))
 | 0 => fun _ _ _ _ _ _ _ r h => by simp [api_Row_73.l0] at h
 | k + 1 => by
  have ih0 := api_Row_73.mono_l k
  ·
   intro y0 y1 y2 y3 y4 y5 y6
   unfold api_Row_73.l0
   repeat' first
   | (with_reducible exact ih0 _ _ _ _ _ _ _)
   | (with_reducible exact matrix_table_named.mono _ _ _ _ _)
   | (with_reducible exact LeO.refl _)
   | (with_reducible exact LeO.none _)
   | (with_reducible refine LeO.ite ?_ ?_)
   | (with_reducible refine LeO.bind ?_ (fun _ => ?_))
   | exact ih0 _ _ _ _ _ _ _
   | exact matrix_table_named.mono _ _ _ _ _
   | exact LeO.none _
   | refine LeO.ite ?_ ?_
   | refine LeO.bind ?_ (fun _ => ?_)
theorem api_Row_73.mono : ∀ a0 a1 a2 a3 k, LeO (api_Row_73.f k a0 a1 a2 a3) (api_Row_73.f (k + 1) a0 a1 a2 a3) := by
 intro a0 a1 a2 a3 k
 have ih0 := api_Row_73.mono_l k
 unfold api_Row_73.f
 repeat' first
   | (with_reducible exact ih0 _ _ _ _ _ _ _)
   | (with_reducible exact matrix_table_named.mono _ _ _ _ _)
   | (with_reducible exact LeO.refl _)
   | (with_reducible exact LeO.none _)
   | (with_reducible refine LeO.ite ?_ ?_)
   | (with_reducible refine LeO.bind ?_ (fun _ => ?_))
   | exact ih0 _ _ _ _ _ _ _
   | exact matrix_table_named.mono _ _ _ _ _
   | exact LeO.none _
   | refine LeO.ite ?_ ?_
   | refine LeO.bind ?_ (fun _ => ?_)
def api_Row_73.T5 : Bool × List (List Nat × List Nat) := (true, [([], []), ([0], [0]), ([], []), ([], []), ([2, 3], [2, 3]), ([4], [4]), ([1, 5, 4], [1, 5]), ([0, 1, 2, 3, 4, 5, 6], []), ([7, 6, 6, 0, 1, 2, 3, 4, 5, 6], [6, 7])])
def api_Row_73.B5 : List Nat := [0, 1, 0, 0, 12, 28, 63, 127, 255]
theorem api_Row_73.tab5 : rtab .any (opsOf Tryd.f72 5) = api_Row_73.T5 := by kernel_rfl
theorem api_Row_73.bits5 : waitsOk api_Row_73.T5.2 api_Row_73.B5 = true := by kernel_rfl
set_option maxHeartbeats 8000000 in
set_option maxRecDepth 100000 in
theorem api_Row_73.calls (k : Nat) (a0 : Int) (A1 : Option Addr) (c1 : Nat) (l1 : List (S25))  (a3_0 : Int) (A3_1 : Option Addr) (c3_1 : Nat) (l3_1 : List (S25)) (r1 : Int) (r2 : List (S25)) (w : World) (hT_ : TabOk w) (hr1 : Kd.C k25 w A1 l1.length l1) (hc1 : l1.length ≤ c1) (hr3_1 : Kd.C k25 w A3_1 l3_1.length l3_1) (hc3_1 : l3_1.length ≤ c3_1) (h : api_Row_73.f k a0 l1 a3_0 l3_1 = some (r1, r2)) :
  Calls Tryd.prog 72 #[.int .i64 a0, .slice A1 l1.length c1, (.func (.func 73) #[.agg #[.int .i64 a3_0, .slice A3_1 l3_1.length c3_1]] #[])] w fun e w' => ∃ v1_ : Value, e = .returned (.agg #[.int .i64 r1, v1_]) ∧ Kd.S k25 25 w' w.heap.size (fun _ => True) v1_ r2 ∧ Below w.heap.size w w' := by
 have hu55 := Tryd.underlying55
 have hu25 := Tryd.underlying25
 have HR1 := Aside0.mk hr1
 have HC1 := Aside0.mk hc1
 clear hr1 hc1
 have HR3_1 := Aside0.mk hr3_1
 have HC3_1 := Aside0.mk hc3_1
 clear hr3_1 hc3_1
 have HT := Aside0.mk hT_
 clear hT_
 have HB := am (Below.refl w.heap.size w)
 have H : (api_Row_73.l0 k l1 (l1.length : Int) 0 a3_0 l3_1 a0 ([] : List (S25))) = some (r1, r2) := h
 clear h
 have H' := Aside0.mk H
 clear H
 go_enter Tryd.func72, Tryd.ntmps72
 go_wp2_with (first | ((with_reducible refine gate_dst (N := 6) rfl ?_); refine box_event ?hg (N := 6) ?hd (cs := #[.int .i64 0, .slice none 0 0]) (t := 55) ?hr ?_; (case hd => rfl); (case hg => rfl); (case hr => first | (go_simp; done) | (go_simp; rfl)); intro gb189 hg w5 hbox hb; have n0_ := am (below_step (pb HB) hb); have n1_ := am (hbox); have n2_ := am ((by rw [hg]; exact (below_size (pb HB)) : w.heap.size ≤ gb189)); have n3_ := am ((by rw [hg]; exact (below_size (pb HB)) : w.heap.size ≤ gb189)); clear HB; have HB := n0_; have BK189 := n1_; have GW189 := n2_; have GE189 := n3_; clear n0_ n1_ n2_ n3_ hb hbox hg) | ((with_reducible refine gate_dst (N := 7) rfl ?_); refine box_event ?hg (N := 7) ?hd (cs := #[.int .i64 0, .slice none 0 0]) (t := 55) ?hr ?_; (case hd => rfl); (case hg => rfl); (case hr => first | (go_simp; done) | (go_simp; rfl)); intro gb190 hg w6 hbox hb; have n0_ := bb BK189 hb; have n1_ := am (below_step (pb HB) hb); have n2_ := am (hbox); have n3_ := am ((by rw [hg]; exact (below_size (pb HB)) : w.heap.size ≤ gb190)); have n4_ := am ((by rw [hg]; exact (below_size (pb HB)) : w.heap.size ≤ gb190)); have n5_ := am ((by rw [hg]; exact Nat.ne_of_lt (bl BK189) : gb189 ≠ gb190)); have n6_ := am ((by rw [hg]; exact Nat.ne_of_gt (bl BK189) : gb190 ≠ gb189)); clear BK189 HB; have BK189 := n0_; have HB := n1_; have BK190 := n2_; have GW190 := n3_; have GE190 := n4_; have NB189_190 := n5_; have NB190_189 := n6_; clear n0_ n1_ n2_ n3_ n4_ n5_ n6_ hb hbox hg; have hnb7 := NB190_189.out; have hnc7 := NB189_190.out; have hcz8_0 : w6.cell? ⟨gb190, 0, none⟩ = some (.int .i64 0) := (blk_cell BK190.out 0).trans rfl; have hcz8_1 : w6.cell? ⟨gb190, 1, none⟩ = some (.slice none 0 0) := (blk_cell BK190.out 1).trans rfl; have hfz8_0 := blk_frozen BK190.out 0; have hfz8_1 := blk_frozen BK190.out 1))
 go_loopg [14] k (fun kq v14 w' => ∃ (x14_1 : Int) (x191001_1 : List (S25)) (u191001 : Value), v14 = .int .i64 x14_1 ∧ Aside0 (api_Row_73.l0 kq l1 (l1.length : Int) x14_1 a3_0 l3_1 a0 x191001_1 = some (r1, r2)) ∧ Aside0 (kq ≤ k) ∧ Aside0 (Kd.S k25 25 w' w.heap.size (fun _ => True) u191001 x191001_1) ∧ Aside0 (w'.heap[gb189]? = some (.cells #[.int .i64 0, (.slice none 0 0)] 55 (0, 0))) ∧ Aside0 (w'.heap[gb190]? = some (.cells #[.int .i64 a0, u191001] 55 (0, 0))) ∧ Aside0 (Below w.heap.size w w'))
 case atStart => exact ⟨(0), (([] : List (S25))), (.slice none 0 0), (by first | rfl | (simp; done) | (simp [*]; done)), H', ⟨Nat.le_refl _⟩, ⟨by first | exact Kd.S_nil _ _ _ _ _ | exact Kd.N_nil _ _ _ _ _ | exact Kd.V_nil _ _ _ _ _ | exact Kd.Q_nil _ _ _ _ _ | exact Kd.R_nil _ _ _ _ _⟩, ⟨by (with_reducible repeat (first | refine blk_drewN ?_ _ | refine blk_drew ?_ | refine blk_alloc ?_ _)); refine blk_far ?_ NB189_190.out _; (with_reducible repeat (first | refine blk_drewN ?_ _ | refine blk_drew ?_ | refine blk_alloc ?_ _)); refine blk_far ?_ NB189_190.out _; (with_reducible repeat (first | refine blk_drewN ?_ _ | refine blk_drew ?_ | refine blk_alloc ?_ _)); exact BK189.out⟩, ⟨by (with_reducible repeat (first | refine blk_drewN ?_ _ | refine blk_drew ?_ | refine blk_alloc ?_ _)); refine blk_put (cs := #[.int .i64 a0, .slice none 0 0]) ?_ 1 _ rfl; (with_reducible repeat (first | refine blk_drewN ?_ _ | refine blk_drew ?_ | refine blk_alloc ?_ _)); refine blk_put (cs := #[.int .i64 0, .slice none 0 0]) ?_ 0 _ rfl; (with_reducible repeat (first | refine blk_drewN ?_ _ | refine blk_drew ?_ | refine blk_alloc ?_ _)); exact BK190.out⟩, ⟨pb HB⟩⟩
 case round =>
  clear H'
  try clear c1
  try clear p2
  try clear c3
  try clear c7
  try clear hcz8_0
  try clear hcz8_1
  try clear hfz8_0
  try clear hfz8_1
  obtain ⟨x14_1, x191001_1, u191001, rfl, HA, HK1, HO_191001, BK189, BK190, HB⟩ := hrel
  cases gk with
  | zero => exact absurd HA.out (by simp [api_Row_73.l0])
  | succ k1 =>
   have H := HA.out
   clear HA
   simp only [api_Row_73.l0] at H
   by_cases c9 : x14_1 < (l1.length : Int)
   ·
    rw [if_pos c9] at H
    have c9b0 : decide (x14_1 < (l1.length : Int)) = true := decide_eq_true c9
    clear c9
    by_cases c10 : 0 ≤ x14_1
    ·
     rw [if_pos c10] at H
     have c10b0 : decide (0 ≤ x14_1) = true := decide_eq_true c10
     clear c10
     by_cases c11 : x14_1 < (l1.length : Int)
     ·
      rw [if_pos c11] at H
      have c11b0 : decide (x14_1 < (l1.length : Int)) = true := decide_eq_true c11
      clear c11
      replace H := Option.bind_eq_some_iff.mp H
      obtain ⟨⟨t193, t194⟩, A120, H⟩ := H
      replace H : (if x191001_1.length < 4398046511104 then (api_Row_73.l0 k1 l1 (l1.length : Int) (wrap64 (x14_1 + 1)) a3_0 l3_1 a0 (x191001_1 ++ [(⟨t193, t194⟩ : S25)])) else (none)) = some (r1, r2) := H
      have A12 := Aside0.mk A120
      clear A120
      by_cases c13 : x191001_1.length < 4398046511104
      ·
       rw [if_pos c13] at H
       have LMc13 := Aside0.mk c13
       clear c13
       obtain ⟨y197, hy197⟩ : ∃ y_ : List (S25), y_ = (x191001_1 ++ [(⟨t193, t194⟩ : S25)]) := ⟨_, rfl⟩
       replace H : (api_Row_73.l0 k1 l1 (l1.length : Int) (wrap64 (x14_1 + 1)) a3_0 l3_1 a0 y197) = some (r1, r2) := by first | (rw [hy197]; with_reducible exact H) | (have H2_ := (Option.bind_some _ _).symm.trans H; rw [hy197]; with_reducible exact H2_) | (have H2_ := (Option.bind_some _ _).symm.trans H; with_reducible exact H2_) | with_reducible exact H | (rw [hy197]; exact H) | exact H
       have Ny197 := Aside0.mk hy197
       clear hy197
       have H' := Aside0.mk H
       clear H
       have p191 : 0 ≤ (x14_1 : Int) := of_decide_eq_true (by first | (with_reducible assumption) | assumption)
       have q191 : x14_1 < (l1.length : Int) := of_decide_eq_true (by first | (with_reducible assumption) | assumption)
       obtain ⟨ad191, A191_1, c191_1, e191, hx191_0, hx191_1, hl191_1, hi191_1⟩ := at_T25 HR1.out x14_1 p191 q191
       cases e191
       replace hx191_0 := (HB.out.cell (World.block_lt_of_cell? w _ hx191_0)).trans hx191_0
       replace hx191_1 := (HB.out.cell (World.block_lt_of_cell? w _ hx191_1)).trans hx191_1
       have HR191_1 := Aside0.mk hi191_1
       have HC191_1 := Aside0.mk hl191_1
       clear hi191_1 hl191_1
       replace p191 := eq_true p191
       replace q191 := eq_true q191
       try go_wp2_with (first | ((with_reducible refine gate_dst (N := 9) rfl ?_); refine box_event ?hg (N := 9) ?hd (cs := #[.int .i64 0, .slice none 0 0]) (t := 25) ?hr ?_; (case hd => rfl); (case hg => rfl); (case hr => first | (go_simp; done) | (go_simp; rfl)); intro gb192 hg w14 hbox hb; have n0_ := am (Kd.S_below (Kd.S_elderB (by (with_reducible repeat (first | apply Kd.S_alloc | apply Kd.S_drewN | apply Kd.S_drew)); exact HO_191001.out) gb192 (Nat.le_of_eq hg.symm)) hb); have n1_ := bb BK189 hb; have n2_ := bb BK190 hb; have n3_ := am (below_step (pb HB) hb); have n4_ := am (hbox); have n5_ := am ((by rw [hg]; exact (below_size (pb HB)) : w.heap.size ≤ gb192)); have n6_ := am ((by rw [hg]; exact (below_size (pb HB)) : w.heap.size ≤ gb192)); have n7_ := am ((by rw [hg]; exact Nat.ne_of_lt (bl BK189) : gb189 ≠ gb192)); have n8_ := am ((by rw [hg]; exact Nat.ne_of_gt (bl BK189) : gb192 ≠ gb189)); have n9_ := am ((by rw [hg]; exact Nat.ne_of_lt (bl BK190) : gb190 ≠ gb192)); have n10_ := am ((by rw [hg]; exact Nat.ne_of_gt (bl BK190) : gb192 ≠ gb190)); clear HO_191001 BK189 BK190 HB; have HO_191001 := n0_; have BK189 := n1_; have BK190 := n2_; have HB := n3_; have BK192 := n4_; have GW192 := n5_; have GE192 := n6_; have NB189_192 := n7_; have NB192_189 := n8_; have NB190_192 := n9_; have NB192_190 := n10_; clear n0_ n1_ n2_ n3_ n4_ n5_ n6_ n7_ n8_ n9_ n10_ hb hbox hg; have hnb15 := NB192_189.out; have hnc15 := NB189_192.out; have hnb16 := NB192_190.out; have hnc16 := NB190_192.out; have hcz17_0 : w14.cell? ⟨gb192, 0, none⟩ = some (.int .i64 0) := (blk_cell BK192.out 0).trans rfl; have hcz17_1 : w14.cell? ⟨gb192, 1, none⟩ = some (.slice none 0 0) := (blk_cell BK192.out 1).trans rfl; have hfz17_0 := blk_frozen BK192.out 0; have hfz17_1 := blk_frozen BK192.out 1))
       have n0_ : Aside0 (Kd.S k25 25 ((w14.setCell ⟨gb192, 0, none⟩ (.int .i64 ((rd_T25 l1 x14_1).f0))).setCell ⟨gb192, 1, none⟩ (.slice A191_1 ((rd_T25 l1 x14_1).f1).length c191_1)) w.heap.size (fun k_ => k_ ≠ gb192) u191001 x191001_1) := ⟨by (with_reducible repeat (first | apply Kd.S_alloc | apply Kd.S_drewN | apply Kd.S_drew)); exact Kd.S_mono (Kd.S_far (p := ⟨gb192, 1, none⟩) (Kd.S_far (p := ⟨gb192, 0, none⟩) (Kd.S_mono HO_191001.out (fun k_ hk => (⟨hk, hk.2⟩ : _ ∧ k_ ≠ gb192))) (fun _ hk => hk.2) (.int .i64 ((rd_T25 l1 x14_1).f0))) (fun _ hk => hk.2) (.slice A191_1 ((rd_T25 l1 x14_1).f1).length c191_1)) (fun _ hk => hk.1.2)⟩
       have n1_ : Aside0 (((w14.setCell ⟨gb192, 0, none⟩ (.int .i64 ((rd_T25 l1 x14_1).f0))).setCell ⟨gb192, 1, none⟩ (.slice A191_1 ((rd_T25 l1 x14_1).f1).length c191_1)).heap[gb189]? = some (.cells #[.int .i64 0, .slice none 0 0] 55 (0, 0))) := ⟨by (with_reducible repeat (first | refine blk_drewN ?_ _ | refine blk_drew ?_ | refine blk_alloc ?_ _)); refine blk_far ?_ NB189_192.out _; (with_reducible repeat (first | refine blk_drewN ?_ _ | refine blk_drew ?_ | refine blk_alloc ?_ _)); refine blk_far ?_ NB189_192.out _; (with_reducible repeat (first | refine blk_drewN ?_ _ | refine blk_drew ?_ | refine blk_alloc ?_ _)); exact BK189.out⟩
       have n2_ : Aside0 (((w14.setCell ⟨gb192, 0, none⟩ (.int .i64 ((rd_T25 l1 x14_1).f0))).setCell ⟨gb192, 1, none⟩ (.slice A191_1 ((rd_T25 l1 x14_1).f1).length c191_1)).heap[gb190]? = some (.cells #[.int .i64 a0, u191001] 55 (0, 0))) := ⟨by (with_reducible repeat (first | refine blk_drewN ?_ _ | refine blk_drew ?_ | refine blk_alloc ?_ _)); refine blk_far ?_ NB190_192.out _; (with_reducible repeat (first | refine blk_drewN ?_ _ | refine blk_drew ?_ | refine blk_alloc ?_ _)); refine blk_far ?_ NB190_192.out _; (with_reducible repeat (first | refine blk_drewN ?_ _ | refine blk_drew ?_ | refine blk_alloc ?_ _)); exact BK190.out⟩
       have n3_ : Aside0 (((w14.setCell ⟨gb192, 0, none⟩ (.int .i64 ((rd_T25 l1 x14_1).f0))).setCell ⟨gb192, 1, none⟩ (.slice A191_1 ((rd_T25 l1 x14_1).f1).length c191_1)).heap[gb192]? = some (.cells #[.int .i64 ((rd_T25 l1 x14_1).f0), .slice A191_1 ((rd_T25 l1 x14_1).f1).length c191_1] 25 (0, 0))) := ⟨by (with_reducible repeat (first | refine blk_drewN ?_ _ | refine blk_drew ?_ | refine blk_alloc ?_ _)); refine blk_put (cs := #[.int .i64 ((rd_T25 l1 x14_1).f0), .slice none 0 0]) ?_ 1 _ rfl; (with_reducible repeat (first | refine blk_drewN ?_ _ | refine blk_drew ?_ | refine blk_alloc ?_ _)); refine blk_put (cs := #[.int .i64 0, .slice none 0 0]) ?_ 0 _ rfl; (with_reducible repeat (first | refine blk_drewN ?_ _ | refine blk_drew ?_ | refine blk_alloc ?_ _)); exact BK192.out⟩
       have n4_ : Aside0 (Below w.heap.size w ((w14.setCell ⟨gb192, 0, none⟩ (.int .i64 ((rd_T25 l1 x14_1).f0))).setCell ⟨gb192, 1, none⟩ (.slice A191_1 ((rd_T25 l1 x14_1).f1).length c191_1))) := ⟨pb HB⟩
       (try clear HO_191001)
       (try clear BK189)
       (try clear BK190)
       (try clear BK192)
       (try clear HB)
       generalize ((w14.setCell ⟨gb192, 0, none⟩ (.int .i64 ((rd_T25 l1 x14_1).f0))).setCell ⟨gb192, 1, none⟩ (.slice A191_1 ((rd_T25 l1 x14_1).f1).length c191_1)) = w18 at n0_ n1_ n2_ n3_ n4_ ⊢
       have HO_191001 := n0_
       have BK189 := n1_
       have BK190 := n2_
       have BK192 := n3_
       have HB := n4_
       clear n0_ n1_ n2_ n3_ n4_
       have n0_ := am (Kd.S_drew HO_191001.out)
       have n1_ := am (blk_drew BK189.out)
       have n2_ := am (blk_drew BK190.out)
       have n3_ := am (blk_drew BK192.out)
       have n4_ := am (below_drew1 HB.out)
       clear HO_191001
       clear BK189
       clear BK190
       clear BK192
       clear HB
       have HO_191001 := n0_
       have BK189 := n1_
       have BK190 := n2_
       have BK192 := n3_
       have HB := n4_
       clear n0_ n1_ n2_ n3_ n4_
       refine start_ (n := 9) (S := fun w' => w'.cell? ⟨gb190, 0, none⟩ = some (.int .i64 a0) ∧ w'.cell? ⟨gb190, 1, none⟩ = some (u191001) ∧ w'.cell? ⟨gb192, 0, none⟩ = some (.int .i64 ((rd_T25 l1 x14_1).f0)) ∧ w'.cell? ⟨gb192, 1, none⟩ = some (.slice A191_1 ((rd_T25 l1 x14_1).f1).length c191_1)) (ds := [8]) #[F, F, F, F, F, F, F, F, F] (by kernel_rfl) rfl rfl ⟨(blk_cell BK190.out 0).trans rfl, (blk_cell BK190.out 1).trans rfl, (blk_cell BK192.out 0).trans rfl, (blk_cell BK192.out 1).trans rfl⟩ (fun hHeld => ?_); refine with_tabW api_Row_73.tab5 api_Row_73.bits5 (fun HT_ HW_ => ?_)
       generalize w18.drew = w19 at HO_191001 BK189 BK190 BK192 HB hHeld ⊢
       refine pure_ (i := 0) (N := some 18) (v := ?_) (a' := ?_) #[T, F, F, F, F, F, F, F, F] rfl rfl (any_of HT_.out (by kernel_rfl)) (fun _ _ _ h => h) (Or.inl ⟨by rfl, ?_⟩) ?_ ?_
       rotate_left
       ·
        intro w'
        go_simp
        with_reducible rfl
       rotate_left
       ·
        simp only [Act.put, q1, q2, q3, i64_w, i32_w]
        rfl
       refine pure_ (i := 2) (N := some 20) (v := ?_) (a' := ?_) #[T, F, T, F, F, F, F, F, F] rfl rfl (any_of HT_.out (by kernel_rfl)) (fun _ _ _ h => h) (Or.inl ⟨by rfl, ?_⟩) ?_ ?_
       rotate_left
       ·
        intro w'
        go_simp
        with_reducible rfl
       rotate_left
       ·
        simp only [Act.put, q1, q2, q3, i64_w, i32_w]
        rfl
       refine take_ (i := 1) (N := some 19) (v := ?_) (a' := ?_) #[T, T, T, F, F, F, F, F, F] rfl rfl (take_ofW HT_.out HW_.out (by kernel_rfl)) (fun _ _ _ h => h) (Or.inl ⟨by rfl, ?_⟩) hHeld ?_ ?_
       rotate_left
       ·
        rintro w' ⟨s0, s1, s2, s3⟩
        go_simp
        with_reducible rfl
       rotate_left
       ·
        simp only [Act.put, q1, q2, q3, i64_w, i32_w]
        rfl
       refine take_ (i := 3) (N := some 21) (v := ?_) (a' := ?_) #[T, T, T, T, F, F, F, F, F] rfl rfl (take_ofW HT_.out HW_.out (by kernel_rfl)) (fun _ _ _ h => h) (Or.inl ⟨by rfl, ?_⟩) hHeld ?_ ?_
       rotate_left
       ·
        rintro w' ⟨s0, s1, s2, s3⟩
        go_simp
        with_reducible rfl
       rotate_left
       ·
        simp only [Act.put, q1, q2, q3, i64_w, i32_w]
        rfl
       refine one_ (i := 4) (N := some 22) #[T, T, T, T, T, F, F, F, F] rfl rfl (one_of HT_.out (by kernel_rfl)) (by decide) (fun K hK => ?_)
       refine goesTB_ 20 Tryd.func73 (by kernel_rfl) rfl #[.agg #[.int .i64 a3_0, .slice A3_1 l3_1.length c3_1]] #[.agg #[.int .i64 ((rd_T25 l1 x14_1).f0), .slice A191_1 ((rd_T25 l1 x14_1).f1).length c191_1]] #[] #[.agg #[.int .i64 a3_0, .slice A3_1 l3_1.length c3_1], .agg #[.int .i64 ((rd_T25 l1 x14_1).f0), .slice A191_1 ((rd_T25 l1 x14_1).f1).length c191_1]] (by rfl) rfl rfl (by rfl) (by (try simp only [List.map_toArray, List.map_cons, List.map_nil]); first | done | rfl | (simp only [List.length_drop, List.length_take]; rfl)) (by rfl) ?_
       with_reducible refine (matrix_table_named.calls k1 a3_0 _ _ l3_1 ((rd_T25 l1 x14_1).f0) _ _ ((rd_T25 l1 x14_1).f1) t193 t194 _ ?side5 ?side1 ?side2 ?side3 ?side4 A12.out).mono ?_
       (case side1 => repeat (first | exact (Kd.C_below HR3_1.out HB.out) | (with_reducible refine Kd.C_alloc ?_ _) | (with_reducible refine Kd.C_drewN ?_ _) | (with_reducible refine Kd.C_drew ?_)))
       (case side2 => exact HC3_1.out)
       (case side3 => repeat (first | exact (Kd.C_below HR191_1.out HB.out) | (with_reducible refine Kd.C_alloc ?_ _) | (with_reducible refine Kd.C_drewN ?_ _) | (with_reducible refine Kd.C_drew ?_)))
       (case side4 => exact HC191_1.out)
       (case side5 => exact TabOk.below HT.out (pb HB))
       rintro e w20 ⟨v195, rfl, ho0, hb⟩
       refine ⟨_, rfl, ?_⟩
       have n0_ := am (Kd.S_elder' (by (with_reducible repeat (first | apply Kd.S_alloc | apply Kd.S_drewN | apply Kd.S_drew)); exact HO_191001.out) (Kd.R_base ho0) hb)
       have n1_ := am (Kd.R_lower ho0 (below_size (pb HB)))
       have n2_ := bb BK189 hb
       have n3_ := bb BK190 hb
       have n4_ := bb BK192 hb
       have n5_ := am (below_step (pb HB) hb)
       clear HO_191001
       clear BK189
       clear BK190
       clear BK192
       clear HB
       have HO_191001 := n0_
       have HO196 := n1_
       have BK189 := n2_
       have BK190 := n3_
       have BK192 := n4_
       have HB := n5_
       clear n0_ n1_ n2_ n3_ n4_ n5_
       (try clear hb)
       (try clear hb2)
       (try clear hk)
       (try clear hi)
       (try clear ho0)
       obtain ⟨Ao22, co22, eo22⟩ := Kd.R_slice HO196.out
       (first | subst eo22 | (injection eo22 with f1_ f2_ f3_; have f4_ := f1_.symm; have f5_ := f3_.symm; clear f1_ f2_ f3_; subst f4_; subst f5_))
       refine hK.out _ _ ⟨(blk_cell BK190.out 0).trans rfl, (blk_cell BK190.out 1).trans rfl, (blk_cell BK192.out 0).trans rfl, (blk_cell BK192.out 1).trans rfl⟩ (fun hHeld => ?_)
       clear hK K
       refine norm_ (a' := ?_) ?_ ?_
       rotate_left
       ·
        show Act.put _ (some 22) _ = _
        simp only [Act.put, q1, q2, q3, i64_w, i32_w]
        rfl
       refine one_ (i := 5) (N := some 23) #[T, T, T, T, T, T, F, F, F] rfl rfl (one_of HT_.out (by kernel_rfl)) (by decide) (fun K hK => ?_)
       refine value_ (w1 := ?_) (v := ?_) (by rfl) rfl ?_ ?_
       rotate_left 2
       ·
        go_simp
        constructor
        ·
         rfl
        ·
         rfl
       refine hK.out _ _ ⟨(blk_cell (blk_alloc BK190.out _) 0).trans rfl, (blk_cell (blk_alloc BK190.out _) 1).trans rfl, (blk_cell (blk_alloc BK192.out _) 0).trans rfl, (blk_cell (blk_alloc BK192.out _) 1).trans rfl⟩ (fun hHeld => ?_)
       clear hK K
       refine norm_ (a' := ?_) ?_ ?_
       rotate_left
       ·
        show Act.put _ (some 23) _ = _
        simp only [Act.put, q1, q2, q3, i64_w, i32_w]
        rfl
       refine one_ (i := 6) (N := some 24) #[T, T, T, T, T, T, T, F, F] rfl rfl (one_of HT_.out (by kernel_rfl)) (by decide) (fun K hK => ?_)
       refine Kd.S_append_step k25 (w0 := w) w.heap.size (by rfl) (.tmp 19) (.tmp 23) 53 25 (.agg #[(.int .i64 0), (.slice none 0 0)]) 32 rfl Tryd.underlying53 info25 rfl (by decide) (by omega) u191001 x191001_1 (⟨t193, t194⟩ : S25) [.int .i64 t193, .slice Ao22 t194.length co22] (fun k_ => k_ ≠ gb192) (fun k_ => some k_ = (.slice Ao22 t194.length co22 : Value).ownBlock) rfl rfl ?aP (fun k_ hk_ => ((Kd.R_mono (ok' := fun k_ => ((fun k_ => k_ ≠ gb192)) k_ ∧ some k_ ≠ (u191001 : Value).ownBlock) (Kd.R_types (Kd.R_apart' (HO196.out) (Kd.S_typed HO_191001.out) (by decide)) BK192.out (by decide)) (fun k_ hk => ⟨hk.2, hk.1.2⟩))).1 k_ hk_.symm) ?aF ?aO ?aB ?aS ?aL ?_
       (case aP => exact k25_mkM _ _ _ (⟨t193, t194⟩ : S25) (Kd.R_mono (Kd.R_tight rfl (Kd.R_mono (ok' := fun k_ => ((fun k_ => k_ ≠ gb192)) k_ ∧ some k_ ≠ (u191001 : Value).ownBlock) (Kd.R_types (Kd.R_apart' (HO196.out) (Kd.S_typed HO_191001.out) (by decide)) BK192.out (by decide)) (fun k_ hk => ⟨hk.2, hk.1.2⟩))) (fun _ h_ => h_)))
       (case aB => exact (pb HB))
       (case aF => exact (fun k_ hk => Kd.freshB (g := gb192) (o := .cells #[.int .i64 ((rd_T25 l1 x14_1).f0), .slice A191_1 ((rd_T25 l1 x14_1).f1).length c191_1] 25 (0, 0)) (pk BK192) k_ hk))
       (case aO => exact (by (with_reducible repeat (first | apply Kd.S_alloc | apply Kd.S_drewN | apply Kd.S_drew)); exact Kd.S_mono HO_191001.out (fun k_ hk => ⟨hk.1, fun e_ => hk.2 e_⟩)))
       (case aS => exact (below_size (pb HB)))
       (case aL => have := LMc13.out; omega)
       intro v198 w21 ho hb hg hat
       rw [← Ny197.out] at ho
       have n0_ := am (blk_grown (g := gb189) (o := .cells #[.int .i64 0, .slice none 0 0] 55 (0, 0)) (pk BK189) hg (Kd.S_ne HO_191001.out BK189.out (by decide)))
       have n1_ := am (blk_grown (g := gb190) (o := .cells #[.int .i64 a0, u191001] 55 (0, 0)) (pk BK190) hg (Kd.S_ne HO_191001.out BK190.out (by decide)))
       have n2_ := am (blk_grown (g := gb192) (o := .cells #[.int .i64 ((rd_T25 l1 x14_1).f0), .slice A191_1 ((rd_T25 l1 x14_1).f1).length c191_1] 25 (0, 0)) (pk BK192) hg (Kd.S_away HO_191001.out (fun _ hk => hk.1)))
       have n3_ := am (hb)
       have n4_ := am (ho)
       clear BK189
       clear BK190
       clear BK192
       clear HB
       clear HO_191001
       clear HO196
       have BK189 := n0_
       have BK190 := n1_
       have BK192 := n2_
       have HB := n3_
       have HO199 := n4_
       clear n0_ n1_ n2_ n3_ n4_
       clear ho hb hg hat
       obtain ⟨Ao23, co23, eo23⟩ := Kd.S_slice HO199.out
       (first | subst eo23 | (injection eo23 with f1_ f2_ f3_; have f4_ := f1_.symm; have f5_ := f3_.symm; clear f1_ f2_ f3_; subst f4_; subst f5_))
       refine hK.out _ _ ⟨(blk_cell BK190.out 0).trans rfl, (blk_cell BK190.out 1).trans rfl, (blk_cell BK192.out 0).trans rfl, (blk_cell BK192.out 1).trans rfl⟩ (fun hHeld => ?_)
       clear hK K
       refine norm_ (a' := ?_) ?_ ?_
       rotate_left
       ·
        show Act.put _ (some 24) _ = _
        simp only [Act.put, q1, q2, q3, i64_w, i32_w]
        rfl
       refine pure_ (i := 7) (N := some 25) (v := ?_) (a' := ?_) #[T, T, T, T, T, T, T, T, F] rfl rfl (any_of HT_.out (by kernel_rfl)) (fun _ _ _ h => h) (Or.inl ⟨by rfl, ?_⟩) ?_ ?_
       rotate_left
       ·
        intro w'
        go_simp
        with_reducible rfl
       rotate_left
       ·
        simp only [Act.put, q1, q2, q3, i64_w, i32_w]
        rfl
       refine last_ (i := 8) (N := none) #[T, T, T, T, T, T, T, T, T] rfl rfl (one_of HT_.out (by kernel_rfl)) (by decide) (fun K hK => ?_)
       have hs24 : w21.cell? ⟨gb190, 1, none⟩ = some (u191001) := (blk_cell BK190.out 1).trans rfl
       have hfs24 := blk_frozen BK190.out 1
       have hns24_0 := NB189_190.out
       have hns24_2 := NB192_190.out
       have hms24_0 := NB190_189.out
       have hms24_2 := NB190_192.out
       refine skip_ (w1 := ?_) (by rfl) rfl ?_ ?_
       rotate_left
       ·
        go_simp
        rfl
       refine hK.out _ _ ?_
       clear hK K
       refine done_ (done_of HT_.out (by kernel_rfl)) ?_
       try go_wp2
       go_roundg k1
       case measure => have := HK1.out; omega
       case rel => exact ⟨(wrap64 (x14_1 + 1)), (y197), (.slice Ao23 y197.length co23), (by first | rfl | (simp; done) | (simp [*]; done)), H', ⟨by have := HK1.out; omega⟩, ⟨by (with_reducible repeat (first | apply Kd.S_alloc | apply Kd.S_drewN | apply Kd.S_drew)); exact Kd.S_mono (Kd.S_far (p := ⟨gb190, 1, none⟩) (Kd.S_types HO199.out BK190.out (by decide)) (fun _ hk => hk.2) (.slice Ao23 y197.length co23)) (fun _ hk => trivial)⟩, ⟨by (with_reducible repeat (first | refine blk_drewN ?_ _ | refine blk_drew ?_ | refine blk_alloc ?_ _)); refine blk_far ?_ NB189_190.out _; (with_reducible repeat (first | refine blk_drewN ?_ _ | refine blk_drew ?_ | refine blk_alloc ?_ _)); exact BK189.out⟩, ⟨by (with_reducible repeat (first | refine blk_drewN ?_ _ | refine blk_drew ?_ | refine blk_alloc ?_ _)); refine blk_put (cs := #[.int .i64 a0, u191001]) ?_ 1 _ rfl; (with_reducible repeat (first | refine blk_drewN ?_ _ | refine blk_drew ?_ | refine blk_alloc ?_ _)); exact BK190.out⟩, ⟨pb HB⟩⟩
      ·
       rw [if_neg c13] at H
       exact absurd H (by simp)
     ·
      rw [if_neg c11] at H
      exact absurd H (by simp)
    ·
     rw [if_neg c10] at H
     exact absurd H (by simp)
   ·
    rw [if_neg c9] at H
    have c9b0 : decide (x14_1 < (l1.length : Int)) = false := decide_eq_false c9
    clear c9
    simp only [Option.some.injEq, Prod.mk.injEq] at H
    obtain ⟨rfl, rfl⟩ := H
    have hnb25 := NB190_189.out
    have hnc25 := NB189_190.out
    have hcz26_0 : wr.cell? ⟨gb190, 0, none⟩ = some (.int .i64 a0) := (blk_cell BK190.out 0).trans rfl
    have hcz26_1 : wr.cell? ⟨gb190, 1, none⟩ = some (u191001) := (blk_cell BK190.out 1).trans rfl
    have hfz26_0 := blk_frozen BK190.out 0
    have hfz26_1 := blk_frozen BK190.out 1
    have hcz27_0 : wr.cell? ⟨gb189, 0, none⟩ = some (.int .i64 0) := (blk_cell BK189.out 0).trans rfl
    have hcz27_1 : wr.cell? ⟨gb189, 1, none⟩ = some (.slice none 0 0) := (blk_cell BK189.out 1).trans rfl
    have hfz27_0 := blk_frozen BK189.out 0
    have hfz27_1 := blk_frozen BK189.out 1
    obtain ⟨Ao28, co28, eo28⟩ := Kd.S_slice HO_191001.out
    subst eo28
    go_wp2
    refine bodyPost_ret (results_cell_row rfl _ _ gb189 55 #[.int .i64 a0, .slice Ao28 x191001_1.length co28] (0, 0) _ rfl (by (with_reducible repeat (first | refine blk_drewN ?_ _ | refine blk_drew ?_ | refine blk_alloc ?_ _)); refine blk_put (cs := #[.int .i64 a0, .slice none 0 0]) ?_ 1 _ rfl; (with_reducible repeat (first | refine blk_drewN ?_ _ | refine blk_drew ?_ | refine blk_alloc ?_ _)); refine blk_put (cs := #[.int .i64 0, .slice none 0 0]) ?_ 0 _ rfl; (with_reducible repeat (first | refine blk_drewN ?_ _ | refine blk_drew ?_ | refine blk_alloc ?_ _)); exact BK189.out) Tryd.underlying55 rfl (by kernel_rfl)) rfl ?_
    exact ⟨_, by first | rfl | (simp [errW_none, errW_some] <;> rfl) | (simp [*, errW_none, errW_some] <;> rfl), by (with_reducible repeat (first | apply Kd.S_alloc | apply Kd.S_drewN | apply Kd.S_drew)); exact Kd.S_mono (Kd.S_far (p := ⟨gb189, 1, none⟩) (Kd.S_far (p := ⟨gb189, 0, none⟩) (Kd.S_types HO_191001.out BK189.out (by decide)) (fun _ hk => hk.2) (.int .i64 a0)) (fun _ hk => hk.2) (.slice Ao28 x191001_1.length co28)) (fun _ hk => trivial), pb HB⟩

end Go.Proofs.YtfcedhejbnoinaaDoor.PR
