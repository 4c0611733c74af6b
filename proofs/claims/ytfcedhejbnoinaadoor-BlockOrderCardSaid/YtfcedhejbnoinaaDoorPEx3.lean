-- PRINTED by print.py (a twelfth state) out of the translation. Not trusted: Lean checks it.
import Derived.Test.YtfcedhejbnoinaaDoorPEx0
import Derived.Test.YtfcedhejbnoinaaDoorPEx1
import Derived.Test.YtfcedhejbnoinaaDoorPEx2
namespace Go.Proofs.YtfcedhejbnoinaaDoor.PE
open Go.RowKit Go.Proofs.YtfcedhejbnoinaaDoorW.PrintWords Go.Proofs.YtfcedhejbnoinaaDoorW.PrintLast Go.Proofs.YtfcedhejbnoinaaDoorW.PrintMore
open Bool renaming true → T, false → F
open List renaming setIfInBounds_toArray → q1, set_cons_zero → q2, set_cons_succ → q3
attribute [local go_sem] run_store_func max2_int min2_int max_two min_two max_three min_three max_four min_four   -- for this text's walks alone
set_option linter.unusedVariables false
set_option linter.unusedSimpArgs false

/-! ### bitrow_joined_69: function 68 -/
mutual
def bitrow_joined_69.j0 : Nat → Bool → Int → List Int → Int → List Int → Option (Int × List Int × Int)
  | 0, _, _, _, _, _ => none
  | k + 1, x10, x142000, x142001, x143000, x143001 => if x10 = true then (some (0, ([] : List Int), 1)) else (if x142000 = x143000 then ((bitrow_fresh.f x142000).bind fun bt146 => (bitrow_joined_69.l0 k (bt146.2.length : Int) 0 x142000 x142001 x143000 x143001 bt146.1 bt146.2)) else (some (0, ([] : List Int), 2)))
def bitrow_joined_69.l0 : Nat → Int → Int → Int → List Int → Int → List Int → Int → List Int → Option (Int × List Int × Int)
  | 0, _, _, _, _, _, _, _, _ => none
  | k + 1, x32, x33, x142000, x142001, x143000, x143001, x151000, x151001 => if x33 < x32 then (if 0 ≤ x33 then (if x33 < (x142001.length : Int) then (if x33 < (x143001.length : Int) then ((bitrow_Xor_1.f (rd x142001 x33) (rd x143001 x33)).bind fun t153 => (if x33 < (x151001.length : Int) then (bitrow_joined_69.l0 k x32 (wrap64 (x33 + 1)) x142000 x142001 x143000 x143001 x151000 (x151001.set (x33 : Int).toNat t153)) else (none))) else (none)) else (none)) else (none)) else (some (x151000, x151001, 0))
end
def bitrow_joined_69.f (k : Nat) (a0_0 : Int) (l0_1 : List Int) (a1_0 : Int) (l1_1 : List Int)  : Option (Int × List Int × Int) := (bitrow_Right.f a0_0 l0_1).bind fun t144 => (if t144 = true then ((bitrow_Right.f a1_0 l1_1).bind fun t145 => (bitrow_joined_69.j0 k (!t145) a0_0 l0_1 a1_0 l1_1)) else (bitrow_joined_69.j0 k true a0_0 l0_1 a1_0 l1_1))
theorem bitrow_joined_69.mono_l : ∀ k, (∀ y0 y1 y2 y3 y4, LeO (bitrow_joined_69.j0 k y0 y1 y2 y3 y4) (bitrow_joined_69.j0 (k + 1) y0 y1 y2 y3 y4)) ∧ (∀ y0 y1 y2 y3 y4 y5 y6 y7, LeO (bitrow_joined_69.l0 k y0 y1 y2 y3 y4 y5 y6 y7) (bitrow_joined_69.l0 (k + 1) y0 y1 y2 y3 y4 y5 y6 y7))
  | 0 => ⟨fun _ _ _ _ _ r h => by simp [bitrow_joined_69.j0] at h, fun _ _ _ _ _ _ _ _ r h => by simp [bitrow_joined_69.l0] at h⟩
  | k + 1 => by
    obtain ⟨ih0, ih1⟩ := bitrow_joined_69.mono_l k
    refine ⟨?_, ?_⟩
    · intro y0 y1 y2 y3 y4
      unfold bitrow_joined_69.j0
      repeat' first
      | (with_reducible exact ih0 _ _ _ _ _)
      | (with_reducible exact ih1 _ _ _ _ _ _ _ _)
      | (with_reducible exact LeO.refl _)
      | (with_reducible exact LeO.none _)
      | (with_reducible refine LeO.ite ?_ ?_)
      | (with_reducible refine LeO.bind ?_ (fun _ => ?_))
      | exact ih0 _ _ _ _ _
      | exact ih1 _ _ _ _ _ _ _ _
      | exact LeO.none _
      | refine LeO.ite ?_ ?_
      | refine LeO.bind ?_ (fun _ => ?_)
    · intro y0 y1 y2 y3 y4 y5 y6 y7
      unfold bitrow_joined_69.l0
      repeat' first
      | (with_reducible exact ih0 _ _ _ _ _)
      | (with_reducible exact ih1 _ _ _ _ _ _ _ _)
      | (with_reducible exact LeO.refl _)
      | (with_reducible exact LeO.none _)
      | (with_reducible refine LeO.ite ?_ ?_)
      | (with_reducible refine LeO.bind ?_ (fun _ => ?_))
      | exact ih0 _ _ _ _ _
      | exact ih1 _ _ _ _ _ _ _ _
      | exact LeO.none _
      | refine LeO.ite ?_ ?_
      | refine LeO.bind ?_ (fun _ => ?_)
theorem bitrow_joined_69.mono : ∀ a0 a1 a2 a3 k, LeO (bitrow_joined_69.f k a0 a1 a2 a3) (bitrow_joined_69.f (k + 1) a0 a1 a2 a3) := by
  intro a0 a1 a2 a3 k
  obtain ⟨ih0, ih1⟩ := bitrow_joined_69.mono_l k
  unfold bitrow_joined_69.f
  repeat' first
      | (with_reducible exact ih0 _ _ _ _ _)
      | (with_reducible exact ih1 _ _ _ _ _ _ _ _)
      | (with_reducible exact LeO.refl _)
      | (with_reducible exact LeO.none _)
      | (with_reducible refine LeO.ite ?_ ?_)
      | (with_reducible refine LeO.bind ?_ (fun _ => ?_))
      | exact ih0 _ _ _ _ _
      | exact ih1 _ _ _ _ _ _ _ _
      | exact LeO.none _
      | refine LeO.ite ?_ ?_
      | refine LeO.bind ?_ (fun _ => ?_)
def bitrow_joined_69.T9 : Bool × List (List Nat × List Nat) := (true, [([], []), ([0], [0]), ([], []), ([], []), ([], []), ([4], [4]), ([], []), ([5, 6], [5, 6]), ([7], [7]), ([], []), ([9], [9]), ([], []), ([10, 11], [10, 11]), ([12], [12]), ([3, 8, 13], [3, 8, 13]), ([1, 2, 0, 1, 2, 3, 4, 5, 6, 7, 8, 9, 10, 11, 12, 13, 14], [1, 2]), ([15, 14, 14, 0, 1, 2, 3, 4, 5, 6, 7, 8, 9, 10, 11, 12, 13, 14], [14, 15])])
def bitrow_joined_69.B9 : List Nat := [0, 1, 0, 0, 0, 16, 0, 112, 240, 0, 512, 0, 3584, 7680, 16376, 32767, 65535]
theorem bitrow_joined_69.tab9 : rtab .any (opsOf Tryd.f68 9) = bitrow_joined_69.T9 := by kernel_rfl
theorem bitrow_joined_69.bits9 : waitsOk bitrow_joined_69.T9.2 bitrow_joined_69.B9 = true := by kernel_rfl
set_option maxHeartbeats 8000000 in
set_option maxRecDepth 100000 in
theorem bitrow_joined_69.calls (k : Nat) (a0_0 : Int) (A0_1 : Option Addr) (c0_1 : Nat) (l0_1 : List Int) (a1_0 : Int) (A1_1 : Option Addr) (c1_1 : Nat) (l1_1 : List Int)  (r1 : Int) (r2 : List Int) (r3 : Int) (w : World) (hr0_1 : Kd.C (Kd.int .u64) w A0_1 l0_1.length l0_1) (hc0_1 : l0_1.length ≤ c0_1) (hr1_1 : Kd.C (Kd.int .u64) w A1_1 l1_1.length l1_1) (hc1_1 : l1_1.length ≤ c1_1) (h : bitrow_joined_69.f k a0_0 l0_1 a1_0 l1_1 = some (r1, r2, r3)) :
    Calls Tryd.prog 68 #[.agg #[.int .i64 a0_0, .slice A0_1 l0_1.length c0_1], .agg #[.int .i64 a1_0, .slice A1_1 l1_1.length c1_1], (.func (.func 69) #[] #[])] w fun e w' => ∃ v1_ : Value, e = .returned (.tuple #[.agg #[.int .i64 r1, v1_], .int .i64 r3]) ∧ Kd.R (Kd.int .u64) 90 w' w.heap.size (fun _ => True) v1_ r2 ∧ Below w.heap.size w w' := by
  have hu25 := Tryd.underlying25
  have HR0_1 := Aside0.mk hr0_1
  have HC0_1 := Aside0.mk hc0_1
  clear hr0_1 hc0_1
  have HR1_1 := Aside0.mk hr1_1
  have HC1_1 := Aside0.mk hc1_1
  clear hr1_1 hc1_1
  have HB := am (Below.refl w.heap.size w)
  have H : ((bitrow_Right.f a0_0 l0_1).bind fun t144 => (if t144 = true then ((bitrow_Right.f a1_0 l1_1).bind fun t145 => (bitrow_joined_69.j0 k (!t145) a0_0 l0_1 a1_0 l1_1)) else (bitrow_joined_69.j0 k true a0_0 l0_1 a1_0 l1_1))) = some (r1, r2, r3) := h
  clear h
  have HC4 := Aside0.mk H
  clear H
  go_enter Tryd.func68, Tryd.ntmps68
  go_upto_region 1 with (first | ((with_reducible refine gate_dst (N := 3) rfl ?_); refine box_event ?hg (N := 3) ?hd (cs := #[.int .i64 a0_0, .slice A0_1 l0_1.length c0_1]) (t := 25) ?hr ?_; (case hd => rfl); (case hg => rfl); (case hr => first | (go_simp; done) | (go_simp; rfl)); intro gb141 hg w5 hbox hb; have n0_ := am (below_step (pb HB) hb); have n1_ := am (hbox); have n2_ := am ((by rw [hg]; exact (below_size (pb HB)) : w.heap.size ≤ gb141)); have n3_ := am ((by rw [hg]; exact (below_size (pb HB)) : w.heap.size ≤ gb141)); clear HB; have HB := n0_; have BK141 := n1_; have GW141 := n2_; have GE141 := n3_; clear n0_ n1_ n2_ n3_ hb hbox hg) | ((with_reducible refine gate_dst (N := 4) rfl ?_); refine box_event ?hg (N := 4) ?hd (cs := #[.int .i64 a1_0, .slice A1_1 l1_1.length c1_1]) (t := 25) ?hr ?_; (case hd => rfl); (case hg => rfl); (case hr => first | (go_simp; done) | (go_simp; rfl)); intro gb142 hg w6 hbox hb; have n0_ := bb BK141 hb; have n1_ := am (below_step (pb HB) hb); have n2_ := am (hbox); have n3_ := am ((by rw [hg]; exact (below_size (pb HB)) : w.heap.size ≤ gb142)); have n4_ := am ((by rw [hg]; exact (below_size (pb HB)) : w.heap.size ≤ gb142)); have n5_ := am ((by rw [hg]; exact Nat.ne_of_lt (bl BK141) : gb141 ≠ gb142)); have n6_ := am ((by rw [hg]; exact Nat.ne_of_gt (bl BK141) : gb142 ≠ gb141)); clear BK141 HB; have BK141 := n0_; have HB := n1_; have BK142 := n2_; have GW142 := n3_; have GE142 := n4_; have NB141_142 := n5_; have NB142_141 := n6_; clear n0_ n1_ n2_ n3_ n4_ n5_ n6_ hb hbox hg) | ((with_reducible refine gate_dst (N := 6) rfl ?_); refine box_event ?hg (N := 6) ?hd (cs := #[.int .i64 0, .slice none 0 0]) (t := 25) ?hr ?_; (case hd => rfl); (case hg => rfl); (case hr => first | (go_simp; done) | (go_simp; rfl)); intro gb143 hg w7 hbox hb; have n0_ := bb BK141 hb; have n1_ := bb BK142 hb; have n2_ := am (below_step (pb HB) hb); have n3_ := am (hbox); have n4_ := am ((by rw [hg]; exact (below_size (pb HB)) : w.heap.size ≤ gb143)); have n5_ := am ((by rw [hg]; exact (below_size (pb HB)) : w.heap.size ≤ gb143)); have n6_ := am ((by rw [hg]; exact Nat.ne_of_lt (bl BK141) : gb141 ≠ gb143)); have n7_ := am ((by rw [hg]; exact Nat.ne_of_gt (bl BK141) : gb143 ≠ gb141)); have n8_ := am ((by rw [hg]; exact Nat.ne_of_lt (bl BK142) : gb142 ≠ gb143)); have n9_ := am ((by rw [hg]; exact Nat.ne_of_gt (bl BK142) : gb143 ≠ gb142)); clear BK141 BK142 HB; have BK141 := n0_; have BK142 := n1_; have HB := n2_; have BK143 := n3_; have GW143 := n4_; have GE143 := n5_; have NB141_143 := n6_; have NB143_141 := n7_; have NB142_143 := n8_; have NB143_142 := n9_; clear n0_ n1_ n2_ n3_ n4_ n5_ n6_ n7_ n8_ n9_ hb hbox hg))
  (try simp only [Act.put, q1, q2, q3])
  go_cut [10] (fun v10 wc => ∃ (kq : Nat) (x10_3 : Bool), v10 = .bool x10_3 ∧ Aside0 (bitrow_joined_69.j0 kq x10_3 a0_0 l0_1 a1_0 l1_1 = some (r1, r2, r3)) ∧ Aside0 (kq ≤ k) ∧ Aside0 (wc.heap[gb141]? = some (.cells #[.int .i64 a0_0, (.slice A0_1 l0_1.length c0_1)] 25 (0, 0))) ∧ Aside0 (wc.heap[gb142]? = some (.cells #[.int .i64 a1_0, (.slice A1_1 l1_1.length c1_1)] 25 (0, 0))) ∧ Aside0 (wc.heap[gb143]? = some (.cells #[.int .i64 0, (.slice none 0 0)] 25 (0, 0))) ∧ Aside0 (Below w.heap.size w wc))
  case first =>
    have H := HC4.out
    clear HC4
    replace H := Option.bind_eq_some_iff.mp H
    obtain ⟨t144, A80, H⟩ := H
    replace H : (if t144 = true then ((bitrow_Right.f a1_0 l1_1).bind fun t145 => (bitrow_joined_69.j0 k (!t145) a0_0 l0_1 a1_0 l1_1)) else (bitrow_joined_69.j0 k true a0_0 l0_1 a1_0 l1_1)) = some (r1, r2, r3) := H
    have A8 := Aside0.mk A80
    clear A80
    by_cases c9 : t144 = true
    · subst c9
      have H1 : ((bitrow_Right.f a1_0 l1_1).bind fun t145 => (bitrow_joined_69.j0 k (!t145) a0_0 l0_1 a1_0 l1_1)) = some (r1, r2, r3) := by rw [if_pos rfl] at H; exact H
      clear H
      have H := H1
      clear H1
      replace H := Option.bind_eq_some_iff.mp H
      obtain ⟨t145, A100, H⟩ := H
      replace H : (bitrow_joined_69.j0 k (!t145) a0_0 l0_1 a1_0 l1_1) = some (r1, r2, r3) := H
      have A10 := Aside0.mk A100
      clear A100
      have H' := Aside0.mk H
      clear H
      have hnb11 := NB141_142.out
      have hnc11 := NB142_141.out
      have hnb12 := NB141_143.out
      have hnc12 := NB143_141.out
      have hcz13_0 : w7.cell? ⟨gb141, 0, none⟩ = some (.int .i64 a0_0) := (blk_cell BK141.out 0).trans rfl
      have hcz13_1 : w7.cell? ⟨gb141, 1, none⟩ = some (.slice A0_1 l0_1.length c0_1) := (blk_cell BK141.out 1).trans rfl
      have hfz13_0 := blk_frozen BK141.out 0
      have hfz13_1 := blk_frozen BK141.out 1
      go_wp2_with (first | ((with_reducible refine gate_callee (f := 31) rfl ?_); refine goesL_ (some 12) rfl rfl Tryd.func31 (by kernel_rfl) rfl #[.agg #[.int .i64 a0_0, .slice A0_1 l0_1.length c0_1]] rfl (by (try simp only [List.map_toArray, List.map_cons, List.map_nil]); first | done | rfl | (simp only [List.length_drop, List.length_take]; rfl)) ?_; (with_reducible refine (bitrow_Right.calls a0_0 _ _ l0_1 true _ ?side1 ?side2 A8.out).mono ?_); (case side1 => repeat (first | exact (Kd.C_below HR0_1.out HB.out) | (with_reducible refine Kd.C_alloc ?_ _) | (with_reducible refine Kd.C_drewN ?_ _) | (with_reducible refine Kd.C_drew ?_))); (case side2 => exact HC0_1.out); rintro e w14 ⟨rfl, hb⟩; refine ⟨_, rfl, ?_⟩; have n0_ := bb BK141 hb; have n1_ := bb BK142 hb; have n2_ := bb BK143 hb; have n3_ := am (below_step (pb HB) hb); clear BK141 BK142 BK143 HB; have BK141 := n0_; have BK142 := n1_; have BK143 := n2_; have HB := n3_; clear n0_ n1_ n2_ n3_; (try clear hb); (try clear hb2); (try clear hk); (try clear hi); have hnb15 := NB142_143.out; have hnc15 := NB143_142.out; have hcz16_0 : w14.cell? ⟨gb142, 0, none⟩ = some (.int .i64 a1_0) := (blk_cell BK142.out 0).trans rfl; have hcz16_1 : w14.cell? ⟨gb142, 1, none⟩ = some (.slice A1_1 l1_1.length c1_1) := (blk_cell BK142.out 1).trans rfl; have hfz16_0 := blk_frozen BK142.out 0; have hfz16_1 := blk_frozen BK142.out 1) | (go_at_call 31; (with_reducible refine (bitrow_Right.calls a1_0 _ _ l1_1 t145 _ ?side1 ?side2 A10.out).mono ?_); (case side1 => repeat (first | exact (Kd.C_below HR1_1.out HB.out) | (with_reducible refine Kd.C_alloc ?_ _) | (with_reducible refine Kd.C_drewN ?_ _) | (with_reducible refine Kd.C_drew ?_))); (case side2 => exact HC1_1.out); rintro e w17 ⟨rfl, hb⟩; have n0_ := bb BK141 hb; have n1_ := bb BK142 hb; have n2_ := bb BK143 hb; have n3_ := am (below_step (pb HB) hb); clear BK141 BK142 BK143 HB; have BK141 := n0_; have BK142 := n1_; have BK143 := n2_; have HB := n3_; clear n0_ n1_ n2_ n3_; (try clear hb); (try clear hb2); (try clear hk); (try clear hi)))
      go_meet
      case rel => exact ⟨_, (!t145), (by first | rfl | (simp; done) | (simp [*]; done)), H', ⟨by first | omega | exact Nat.le_refl _⟩, ⟨by (with_reducible repeat (first | refine blk_drewN ?_ _ | refine blk_drew ?_ | refine blk_alloc ?_ _)); exact BK141.out⟩, ⟨by (with_reducible repeat (first | refine blk_drewN ?_ _ | refine blk_drew ?_ | refine blk_alloc ?_ _)); exact BK142.out⟩, ⟨by (with_reducible repeat (first | refine blk_drewN ?_ _ | refine blk_drew ?_ | refine blk_alloc ?_ _)); exact BK143.out⟩, ⟨pb HB⟩⟩
    · replace c9 := Bool.eq_false_iff.mpr c9
      subst c9
      have H1 : (bitrow_joined_69.j0 k true a0_0 l0_1 a1_0 l1_1) = some (r1, r2, r3) := by rw [if_neg (show ¬ (false = true) by decide)] at H; exact H
      clear H
      have H := H1
      clear H1
      have H' := Aside0.mk H
      clear H
      have hnb18 := NB141_142.out
      have hnc18 := NB142_141.out
      have hnb19 := NB141_143.out
      have hnc19 := NB143_141.out
      have hcz20_0 : w7.cell? ⟨gb141, 0, none⟩ = some (.int .i64 a0_0) := (blk_cell BK141.out 0).trans rfl
      have hcz20_1 : w7.cell? ⟨gb141, 1, none⟩ = some (.slice A0_1 l0_1.length c0_1) := (blk_cell BK141.out 1).trans rfl
      have hfz20_0 := blk_frozen BK141.out 0
      have hfz20_1 := blk_frozen BK141.out 1
      go_wp2_with (first | ((with_reducible refine gate_callee (f := 31) rfl ?_); refine goesL_ (some 12) rfl rfl Tryd.func31 (by kernel_rfl) rfl #[.agg #[.int .i64 a0_0, .slice A0_1 l0_1.length c0_1]] rfl (by (try simp only [List.map_toArray, List.map_cons, List.map_nil]); first | done | rfl | (simp only [List.length_drop, List.length_take]; rfl)) ?_; (with_reducible refine (bitrow_Right.calls a0_0 _ _ l0_1 false _ ?side1 ?side2 A8.out).mono ?_); (case side1 => repeat (first | exact (Kd.C_below HR0_1.out HB.out) | (with_reducible refine Kd.C_alloc ?_ _) | (with_reducible refine Kd.C_drewN ?_ _) | (with_reducible refine Kd.C_drew ?_))); (case side2 => exact HC0_1.out); rintro e w21 ⟨rfl, hb⟩; refine ⟨_, rfl, ?_⟩; have n0_ := bb BK141 hb; have n1_ := bb BK142 hb; have n2_ := bb BK143 hb; have n3_ := am (below_step (pb HB) hb); clear BK141 BK142 BK143 HB; have BK141 := n0_; have BK142 := n1_; have BK143 := n2_; have HB := n3_; clear n0_ n1_ n2_ n3_; (try clear hb); (try clear hb2); (try clear hk); (try clear hi)))
      go_meet
      case rel => exact ⟨_, (true), (by first | rfl | (simp; done) | (simp [*]; done)), H', ⟨by first | omega | exact Nat.le_refl _⟩, ⟨by (with_reducible repeat (first | refine blk_drewN ?_ _ | refine blk_drew ?_ | refine blk_alloc ?_ _)); exact BK141.out⟩, ⟨by (with_reducible repeat (first | refine blk_drewN ?_ _ | refine blk_drew ?_ | refine blk_alloc ?_ _)); exact BK142.out⟩, ⟨by (with_reducible repeat (first | refine blk_drewN ?_ _ | refine blk_drew ?_ | refine blk_alloc ?_ _)); exact BK143.out⟩, ⟨pb HB⟩⟩
  case rest =>
    clear HC4
    try clear c1
    try clear p2
    try clear c3
    try clear c9
    try clear c11
    try clear c12
    try clear c15
    try clear c18
    try clear c19
    try clear hcz13_0
    try clear hcz13_1
    try clear hcz16_0
    try clear hcz16_1
    try clear hcz20_0
    try clear hcz20_1
    try clear hfz13_0
    try clear hfz13_1
    try clear hfz16_0
    try clear hfz16_1
    try clear hfz20_0
    try clear hfz20_1
    obtain ⟨kq, x10_3, rfl, HA, HJ3, BK141, BK142, BK143, HB⟩ := hcut
    cases kq with
    | zero => exact absurd HA.out (by simp [bitrow_joined_69.j0])
    | succ kj3 =>
      have H := HA.out
      clear HA
      simp only [bitrow_joined_69.j0] at H
      by_cases c22 : x10_3 = true
      · subst c22
        have H1 : (some (0, ([] : List Int), 1)) = some (r1, r2, r3) := by rw [if_pos rfl] at H; exact H
        clear H
        have H := H1
        clear H1
        simp only [Option.some.injEq, Prod.mk.injEq] at H
        obtain ⟨rfl, rfl, rfl⟩ := H
        have hnb23 := NB143_141.out
        have hnc23 := NB141_143.out
        have hnb24 := NB143_142.out
        have hnc24 := NB142_143.out
        have hcz25_0 : wc.cell? ⟨gb143, 0, none⟩ = some (.int .i64 0) := (blk_cell BK143.out 0).trans rfl
        have hcz25_1 : wc.cell? ⟨gb143, 1, none⟩ = some (.slice none 0 0) := (blk_cell BK143.out 1).trans rfl
        have hfz25_0 := blk_frozen BK143.out 0
        have hfz25_1 := blk_frozen BK143.out 1
        go_wp2
        refine bodyPost_ret (results_ct rfl _ _ gb143 25 #[.int .i64 0, .slice none 0 0] (0, 0) _ rfl (by (with_reducible repeat (first | refine blk_drewN ?_ _ | refine blk_drew ?_ | refine blk_alloc ?_ _)); refine blk_put (cs := #[.int .i64 0, .slice none 0 0]) ?_ 1 _ rfl; (with_reducible repeat (first | refine blk_drewN ?_ _ | refine blk_drew ?_ | refine blk_alloc ?_ _)); refine blk_put (cs := #[.int .i64 0, .slice none 0 0]) ?_ 0 _ rfl; (with_reducible repeat (first | refine blk_drewN ?_ _ | refine blk_drew ?_ | refine blk_alloc ?_ _)); exact BK143.out) Tryd.underlying25 rfl (by kernel_rfl)) rfl ?_
        exact ⟨_, by first | rfl | (simp [errW_none, errW_some] <;> rfl) | (simp [*, errW_none, errW_some] <;> rfl), by first | exact Kd.R_nil _ _ _ _ _ | exact Kd.N_nil _ _ _ _ _ | exact Kd.V_nil _ _ _ _ _ | exact Kd.Q_nil _ _ _ _ _ | exact Kd.S_nil _ _ _ _ _, pb HB⟩
      · replace c22 := Bool.eq_false_iff.mpr c22
        subst c22
        have H1 : (if a0_0 = a1_0 then ((bitrow_fresh.f a0_0).bind fun bt146 => (bitrow_joined_69.l0 kj3 (bt146.2.length : Int) 0 a0_0 l0_1 a1_0 l1_1 bt146.1 bt146.2)) else (some (0, ([] : List Int), 2))) = some (r1, r2, r3) := by rw [if_neg (show ¬ (false = true) by decide)] at H; exact H
        clear H
        have H := H1
        clear H1
        by_cases c26 : a0_0 = a1_0
        · rw [if_pos c26] at H
          have c26b0 : (a0_0 == a1_0) = true := beq_iff_eq.mpr c26
          have c26b1 : (a0_0 != a1_0) = false := bne_eq_false_iff_eq.mpr c26
          clear c26
          replace H := Option.bind_eq_some_iff.mp H
          obtain ⟨⟨t146, t147⟩, A270, H⟩ := H
          replace H : (bitrow_joined_69.l0 kj3 (t147.length : Int) 0 a0_0 l0_1 a1_0 l1_1 t146 t147) = some (r1, r2, r3) := H
          have A27 := Aside0.mk A270
          clear A270
          have H' := Aside0.mk H
          clear H
          have hnb28 := NB141_142.out
          have hnc28 := NB142_141.out
          have hnb29 := NB141_143.out
          have hnc29 := NB143_141.out
          have hcz30_0 : wc.cell? ⟨gb141, 0, none⟩ = some (.int .i64 a0_0) := (blk_cell BK141.out 0).trans rfl
          have hcz30_1 : wc.cell? ⟨gb141, 1, none⟩ = some (.slice A0_1 l0_1.length c0_1) := (blk_cell BK141.out 1).trans rfl
          have hfz30_0 := blk_frozen BK141.out 0
          have hfz30_1 := blk_frozen BK141.out 1
          have hnb31 := NB142_143.out
          have hnc31 := NB143_142.out
          have hcz32_0 : wc.cell? ⟨gb142, 0, none⟩ = some (.int .i64 a1_0) := (blk_cell BK142.out 0).trans rfl
          have hcz32_1 : wc.cell? ⟨gb142, 1, none⟩ = some (.slice A1_1 l1_1.length c1_1) := (blk_cell BK142.out 1).trans rfl
          have hfz32_0 := blk_frozen BK142.out 0
          have hfz32_1 := blk_frozen BK142.out 1
          go_wp2_with (first | ((with_reducible refine gate_callee (f := 67) rfl ?_); refine goesL_ (some 29) rfl rfl Tryd.func67 (by kernel_rfl) rfl #[.int .i64 a0_0] rfl (by (try simp only [List.map_toArray, List.map_cons, List.map_nil]); first | done | rfl | (simp only [List.length_drop, List.length_take]; rfl)) ?_; (with_reducible refine (bitrow_fresh.calls a0_0 t146 t147 _ A27.out).mono ?_); rintro e w33 ⟨v148, rfl, ho0, hb⟩; refine ⟨_, rfl, ?_⟩; have n0_ := am (Kd.R_lower ho0 (below_size (pb HB))); have n1_ := bb BK141 hb; have n2_ := bb BK142 hb; have n3_ := bb BK143 hb; have n4_ := am (below_step (pb HB) hb); clear BK141 BK142 BK143 HB; have HO149 := n0_; have BK141 := n1_; have BK142 := n2_; have BK143 := n3_; have HB := n4_; clear n0_ n1_ n2_ n3_ n4_; (try clear hb); (try clear hb2); (try clear hk); (try clear hi); (try clear ho0)) | ((with_reducible refine gate_dst (N := 8) rfl ?_); refine box_event ?hg (N := 8) ?hd (cs := #[.int .i64 0, .slice none 0 0]) (t := 25) ?hr ?_; (case hd => rfl); (case hg => rfl); (case hr => first | (go_simp; done) | (go_simp; rfl)); intro gb150 hg w34 hbox hb; have n0_ := am (Kd.R_below (pr HO149) hb); have n1_ := bb BK141 hb; have n2_ := bb BK142 hb; have n3_ := bb BK143 hb; have n4_ := am (below_step (pb HB) hb); have n5_ := am (hbox); have n6_ := am ((by rw [hg]; exact (below_size (pb HB)) : w.heap.size ≤ gb150)); have n7_ := am ((by rw [hg]; exact (below_size (pb HB)) : w.heap.size ≤ gb150)); have n8_ := am ((by rw [hg]; exact Nat.ne_of_lt (bl BK141) : gb141 ≠ gb150)); have n9_ := am ((by rw [hg]; exact Nat.ne_of_gt (bl BK141) : gb150 ≠ gb141)); have n10_ := am ((by rw [hg]; exact Nat.ne_of_lt (bl BK142) : gb142 ≠ gb150)); have n11_ := am ((by rw [hg]; exact Nat.ne_of_gt (bl BK142) : gb150 ≠ gb142)); have n12_ := am ((by rw [hg]; exact Nat.ne_of_lt (bl BK143) : gb143 ≠ gb150)); have n13_ := am ((by rw [hg]; exact Nat.ne_of_gt (bl BK143) : gb150 ≠ gb143)); clear HO149 BK141 BK142 BK143 HB; have HO149 := n0_; have BK141 := n1_; have BK142 := n2_; have BK143 := n3_; have HB := n4_; have BK150 := n5_; have GW150 := n6_; have GE150 := n7_; have NB141_150 := n8_; have NB150_141 := n9_; have NB142_150 := n10_; have NB150_142 := n11_; have NB143_150 := n12_; have NB150_143 := n13_; clear n0_ n1_ n2_ n3_ n4_ n5_ n6_ n7_ n8_ n9_ n10_ n11_ n12_ n13_ hb hbox hg; have hnb35 := NB150_141.out; have hnc35 := NB141_150.out; have hnb36 := NB150_142.out; have hnc36 := NB142_150.out; have hnb37 := NB150_143.out; have hnc37 := NB143_150.out; have hcz38_0 : w34.cell? ⟨gb150, 0, none⟩ = some (.int .i64 0) := (blk_cell BK150.out 0).trans rfl; have hcz38_1 : w34.cell? ⟨gb150, 1, none⟩ = some (.slice none 0 0) := (blk_cell BK150.out 1).trans rfl; have hfz38_0 := blk_frozen BK150.out 0; have hfz38_1 := blk_frozen BK150.out 1; obtain ⟨Ao39, co39, eo39⟩ := Kd.R_slice HO149.out; subst eo39))
          go_loopg [33] kj3 (fun kq v33 w' => ∃ (x33_2 : Int) (x151001_2 : List Int) (u151001 : Value), v33 = .int .i64 x33_2 ∧ Aside0 (bitrow_joined_69.l0 kq (t147.length : Int) x33_2 a0_0 l0_1 a1_0 l1_1 t146 x151001_2 = some (r1, r2, r3)) ∧ Aside0 (kq ≤ kj3) ∧ Aside0 (Kd.R (Kd.int .u64) 90 w' w.heap.size (fun _ => True) u151001 x151001_2) ∧ Aside0 (w'.heap[gb141]? = some (.cells #[.int .i64 a0_0, (.slice A0_1 l0_1.length c0_1)] 25 (0, 0))) ∧ Aside0 (w'.heap[gb142]? = some (.cells #[.int .i64 a1_0, (.slice A1_1 l1_1.length c1_1)] 25 (0, 0))) ∧ Aside0 (w'.heap[gb143]? = some (.cells #[.int .i64 0, (.slice none 0 0)] 25 (0, 0))) ∧ Aside0 (w'.heap[gb150]? = some (.cells #[.int .i64 t146, u151001] 25 (0, 0))) ∧ Aside0 (Below w.heap.size w w'))
          case atStart => exact ⟨(0), (t147), (.slice Ao39 t147.length co39), (by first | rfl | (simp; done) | (simp [*]; done)), H', ⟨Nat.le_refl _⟩, ⟨by (with_reducible repeat (first | apply Kd.R_alloc | apply Kd.R_drewN | apply Kd.R_drew)); exact Kd.R_mono (Kd.R_far (p := ⟨gb150, 1, none⟩) (Kd.R_far (p := ⟨gb150, 0, none⟩) (Kd.R_types HO149.out BK150.out (by decide)) (fun _ hk => hk.2) (.int .i64 t146)) (fun _ hk => hk.2) (.slice Ao39 t147.length co39)) (fun _ hk => trivial)⟩, ⟨by (with_reducible repeat (first | refine blk_drewN ?_ _ | refine blk_drew ?_ | refine blk_alloc ?_ _)); refine blk_far ?_ NB141_150.out _; (with_reducible repeat (first | refine blk_drewN ?_ _ | refine blk_drew ?_ | refine blk_alloc ?_ _)); refine blk_far ?_ NB141_150.out _; (with_reducible repeat (first | refine blk_drewN ?_ _ | refine blk_drew ?_ | refine blk_alloc ?_ _)); exact BK141.out⟩, ⟨by (with_reducible repeat (first | refine blk_drewN ?_ _ | refine blk_drew ?_ | refine blk_alloc ?_ _)); refine blk_far ?_ NB142_150.out _; (with_reducible repeat (first | refine blk_drewN ?_ _ | refine blk_drew ?_ | refine blk_alloc ?_ _)); refine blk_far ?_ NB142_150.out _; (with_reducible repeat (first | refine blk_drewN ?_ _ | refine blk_drew ?_ | refine blk_alloc ?_ _)); exact BK142.out⟩, ⟨by (with_reducible repeat (first | refine blk_drewN ?_ _ | refine blk_drew ?_ | refine blk_alloc ?_ _)); refine blk_far ?_ NB143_150.out _; (with_reducible repeat (first | refine blk_drewN ?_ _ | refine blk_drew ?_ | refine blk_alloc ?_ _)); refine blk_far ?_ NB143_150.out _; (with_reducible repeat (first | refine blk_drewN ?_ _ | refine blk_drew ?_ | refine blk_alloc ?_ _)); exact BK143.out⟩, ⟨by (with_reducible repeat (first | refine blk_drewN ?_ _ | refine blk_drew ?_ | refine blk_alloc ?_ _)); refine blk_put (cs := #[.int .i64 t146, .slice none 0 0]) ?_ 1 _ rfl; (with_reducible repeat (first | refine blk_drewN ?_ _ | refine blk_drew ?_ | refine blk_alloc ?_ _)); refine blk_put (cs := #[.int .i64 0, .slice none 0 0]) ?_ 0 _ rfl; (with_reducible repeat (first | refine blk_drewN ?_ _ | refine blk_drew ?_ | refine blk_alloc ?_ _)); exact BK150.out⟩, ⟨pb HB⟩⟩
          case round =>
            clear H'
            try clear c1
            try clear c2
            try clear p2
            try clear c3
            try clear c6
            try clear c9
            try clear c11
            try clear c12
            try clear c15
            try clear c18
            try clear c19
            try clear c22
            try clear c23
            try clear c24
            try clear c26
            try clear c26b0
            try clear c26b1
            try clear c28
            try clear c29
            try clear c31
            try clear c35
            try clear c36
            try clear c37
            try clear hcz13_0
            try clear hcz13_1
            try clear hcz16_0
            try clear hcz16_1
            try clear hcz20_0
            try clear hcz20_1
            try clear hcz25_0
            try clear hcz25_1
            try clear hcz30_0
            try clear hcz30_1
            try clear hcz32_0
            try clear hcz32_1
            try clear hcz38_0
            try clear hcz38_1
            try clear hfz13_0
            try clear hfz13_1
            try clear hfz16_0
            try clear hfz16_1
            try clear hfz20_0
            try clear hfz20_1
            try clear hfz25_0
            try clear hfz25_1
            try clear hfz30_0
            try clear hfz30_1
            try clear hfz32_0
            try clear hfz32_1
            try clear hfz38_0
            try clear hfz38_1
            try clear p2
            obtain ⟨x33_2, x151001_2, u151001, rfl, HA, HK2, HO_151001, BK141, BK142, BK143, BK150, HB⟩ := hrel
            cases gk with
            | zero => exact absurd HA.out (by simp [bitrow_joined_69.l0])
            | succ k2 =>
              have H := HA.out
              clear HA
              simp only [bitrow_joined_69.l0] at H
              by_cases c40 : x33_2 < (t147.length : Int)
              · rw [if_pos c40] at H
                have c40b0 : decide (x33_2 < (t147.length : Int)) = true := decide_eq_true c40
                clear c40
                by_cases c41 : 0 ≤ x33_2
                · rw [if_pos c41] at H
                  have c41b0 : decide (0 ≤ x33_2) = true := decide_eq_true c41
                  clear c41
                  by_cases c42 : x33_2 < (l0_1.length : Int)
                  · rw [if_pos c42] at H
                    have c42b0 : decide (x33_2 < (l0_1.length : Int)) = true := decide_eq_true c42
                    clear c42
                    by_cases c43 : x33_2 < (l1_1.length : Int)
                    · rw [if_pos c43] at H
                      have c43b0 : decide (x33_2 < (l1_1.length : Int)) = true := decide_eq_true c43
                      clear c43
                      replace H := Option.bind_eq_some_iff.mp H
                      obtain ⟨t153, A440, H⟩ := H
                      replace H : (if x33_2 < (x151001_2.length : Int) then (bitrow_joined_69.l0 k2 (t147.length : Int) (wrap64 (x33_2 + 1)) a0_0 l0_1 a1_0 l1_1 t146 (x151001_2.set (x33_2 : Int).toNat t153)) else (none)) = some (r1, r2, r3) := H
                      have A44 := Aside0.mk A440
                      clear A440
                      by_cases c45 : x33_2 < (x151001_2.length : Int)
                      · rw [if_pos c45] at H
                        have c45b0 : decide (x33_2 < (x151001_2.length : Int)) = true := decide_eq_true c45
                        clear c45
                        obtain ⟨y154, hy154⟩ : ∃ y_ : List Int, y_ = (x151001_2.set (x33_2 : Int).toNat t153) := ⟨_, rfl⟩
                        replace H : (bitrow_joined_69.l0 k2 (t147.length : Int) (wrap64 (x33_2 + 1)) a0_0 l0_1 a1_0 l1_1 t146 y154) = some (r1, r2, r3) := by first | (rw [hy154]; with_reducible exact H) | (have H2_ := (Option.bind_some _ _).symm.trans H; rw [hy154]; with_reducible exact H2_) | (have H2_ := (Option.bind_some _ _).symm.trans H; with_reducible exact H2_) | with_reducible exact H | (rw [hy154]; exact H) | exact H
                        have Ny154 := Aside0.mk hy154
                        clear hy154
                        have H' := Aside0.mk H
                        clear H
                        try go_wp2
                        have n0_ := am (Kd.R_drew HO_151001.out)
                        have n1_ := am (blk_drew BK141.out)
                        have n2_ := am (blk_drew BK142.out)
                        have n3_ := am (blk_drew BK143.out)
                        have n4_ := am (blk_drew BK150.out)
                        have n5_ := am (below_drew1 HB.out)
                        clear HO_151001
                        clear BK141
                        clear BK142
                        clear BK143
                        clear BK150
                        clear HB
                        have HO_151001 := n0_
                        have BK141 := n1_
                        have BK142 := n2_
                        have BK143 := n3_
                        have BK150 := n4_
                        have HB := n5_
                        clear n0_ n1_ n2_ n3_ n4_ n5_
                        have p151 : 0 ≤ (x33_2 : Int) := of_decide_eq_true (by first | (with_reducible assumption) | assumption)
                        have q151 : x33_2 < (l0_1.length : Int) := of_decide_eq_true (by first | (with_reducible assumption) | assumption)
                        obtain ⟨ad151, e151, hx151_0⟩ := Kd.at_int HR0_1.out x33_2 p151 q151
                        have hw151_0 := hx151_0
                        cases e151
                        replace hx151_0 := (HB.out.cell (World.block_lt_of_cell? w _ hx151_0)).trans hx151_0
                        replace p151 := eq_true p151
                        replace q151 := eq_true q151
                        have p152 : 0 ≤ (x33_2 : Int) := of_decide_eq_true (by first | (with_reducible assumption) | assumption)
                        have q152 : x33_2 < (l1_1.length : Int) := of_decide_eq_true (by first | (with_reducible assumption) | assumption)
                        obtain ⟨ad152, e152, hx152_0⟩ := Kd.at_int HR1_1.out x33_2 p152 q152
                        have hw152_0 := hx152_0
                        cases e152
                        replace hx152_0 := (HB.out.cell (World.block_lt_of_cell? w _ hx152_0)).trans hx152_0
                        replace p152 := eq_true p152
                        replace q152 := eq_true q152
                        refine start_ (n := 17) (S := fun w' => w'.cell? ⟨gb150, 0, none⟩ = some (.int .i64 t146) ∧ w'.cell? ⟨gb150, 1, none⟩ = some (u151001) ∧ w'.cell? ⟨gb141, 0, none⟩ = some (.int .i64 a0_0) ∧ w'.cell? ⟨gb141, 1, none⟩ = some (.slice (some ad151) l0_1.length c0_1) ∧ w'.cell? ⟨gb142, 0, none⟩ = some (.int .i64 a1_0) ∧ w'.cell? ⟨gb142, 1, none⟩ = some (.slice (some ad152) l1_1.length c1_1) ∧ w'.cell? (ad151.add (x33_2).toNat) = some (.int .u64 (rd l0_1 x33_2)) ∧ w'.cell? (ad152.add (x33_2).toNat) = some (.int .u64 (rd l1_1 x33_2))) (ds := [16]) #[F, F, F, F, F, F, F, F, F, F, F, F, F, F, F, F, F] (by kernel_rfl) rfl rfl ⟨(blk_cell BK150.out 0).trans rfl, (blk_cell BK150.out 1).trans rfl, (blk_cell BK141.out 0).trans rfl, (blk_cell BK141.out 1).trans rfl, (blk_cell BK142.out 0).trans rfl, (blk_cell BK142.out 1).trans rfl, ((HB.out.cell (World.block_lt_of_cell? w _ hw151_0)).trans hw151_0), ((HB.out.cell (World.block_lt_of_cell? w _ hw152_0)).trans hw152_0)⟩ (fun hHeld => ?_); refine with_tabW bitrow_joined_69.tab9 bitrow_joined_69.bits9 (fun HT_ HW_ => ?_)
                        generalize wr.drew = w47 at HO_151001 BK141 BK142 BK143 BK150 HB hx151_0 hx152_0 hHeld ⊢
                        refine pure_ (i := 0) (N := some 36) (v := ?_) (a' := ?_) #[T, F, F, F, F, F, F, F, F, F, F, F, F, F, F, F, F] rfl rfl (any_of HT_.out (by kernel_rfl)) (fun _ _ _ h => h) (Or.inl ⟨by rfl, ?_⟩) ?_ ?_
                        rotate_left
                        · intro w'
                          go_simp
                          with_reducible rfl
                        rotate_left
                        · simp only [Act.put, q1, q2, q3, i64_w, i32_w]
                          rfl
                        refine pure_ (i := 2) (N := some 38) (v := ?_) (a' := ?_) #[T, F, T, F, F, F, F, F, F, F, F, F, F, F, F, F, F] rfl rfl (any_of HT_.out (by kernel_rfl)) (fun _ _ _ h => h) (Or.inl ⟨by rfl, ?_⟩) ?_ ?_
                        rotate_left
                        · intro w'
                          go_simp
                          with_reducible rfl
                        rotate_left
                        · simp only [Act.put, q1, q2, q3, i64_w, i32_w]
                          rfl
                        refine pure_ (i := 3) (N := some 39) (v := ?_) (a' := ?_) #[T, F, T, T, F, F, F, F, F, F, F, F, F, F, F, F, F] rfl rfl (any_of HT_.out (by kernel_rfl)) (fun _ _ _ h => h) (Or.inl ⟨by rfl, ?_⟩) ?_ ?_
                        rotate_left
                        · intro w'
                          go_simp
                          with_reducible rfl
                        rotate_left
                        · simp only [Act.put, q1, q2, q3, i64_w, i32_w]
                          rfl
                        refine pure_ (i := 4) (N := some 40) (v := ?_) (a' := ?_) #[T, F, T, T, T, F, F, F, F, F, F, F, F, F, F, F, F] rfl rfl (any_of HT_.out (by kernel_rfl)) (fun _ _ _ h => h) (Or.inl ⟨by rfl, ?_⟩) ?_ ?_
                        rotate_left
                        · intro w'
                          go_simp
                          with_reducible rfl
                        rotate_left
                        · simp only [Act.put, q1, q2, q3, i64_w, i32_w]
                          rfl
                        refine pure_ (i := 6) (N := some 42) (v := ?_) (a' := ?_) #[T, F, T, T, T, F, T, F, F, F, F, F, F, F, F, F, F] rfl rfl (any_of HT_.out (by kernel_rfl)) (fun _ _ _ h => h) (Or.inl ⟨by rfl, ?_⟩) ?_ ?_
                        rotate_left
                        · intro w'
                          go_simp
                          with_reducible rfl
                        rotate_left
                        · simp only [Act.put, q1, q2, q3, i64_w, i32_w]
                          rfl
                        refine pure_ (i := 9) (N := some 45) (v := ?_) (a' := ?_) #[T, F, T, T, T, F, T, F, F, T, F, F, F, F, F, F, F] rfl rfl (any_of HT_.out (by kernel_rfl)) (fun _ _ _ h => h) (Or.inl ⟨by rfl, ?_⟩) ?_ ?_
                        rotate_left
                        · intro w'
                          go_simp
                          with_reducible rfl
                        rotate_left
                        · simp only [Act.put, q1, q2, q3, i64_w, i32_w]
                          rfl
                        refine pure_ (i := 11) (N := some 47) (v := ?_) (a' := ?_) #[T, F, T, T, T, F, T, F, F, T, F, T, F, F, F, F, F] rfl rfl (any_of HT_.out (by kernel_rfl)) (fun _ _ _ h => h) (Or.inl ⟨by rfl, ?_⟩) ?_ ?_
                        rotate_left
                        · intro w'
                          go_simp
                          with_reducible rfl
                        rotate_left
                        · simp only [Act.put, q1, q2, q3, i64_w, i32_w]
                          rfl
                        refine take_ (i := 1) (N := some 37) (v := ?_) (a' := ?_) #[T, T, T, T, T, F, T, F, F, T, F, T, F, F, F, F, F] rfl rfl (take_ofW HT_.out HW_.out (by kernel_rfl)) (fun _ _ _ h => h) (Or.inl ⟨by rfl, ?_⟩) hHeld ?_ ?_
                        rotate_left
                        · rintro w' ⟨s0, s1, s2, s3, s4, s5, s6, s7⟩
                          go_simp
                          with_reducible rfl
                        rotate_left
                        · simp only [Act.put, q1, q2, q3, i64_w, i32_w]
                          rfl
                        refine take_ (i := 5) (N := some 41) (v := ?_) (a' := ?_) #[T, T, T, T, T, T, T, F, F, T, F, T, F, F, F, F, F] rfl rfl (take_ofW HT_.out HW_.out (by kernel_rfl)) (fun _ _ _ h => h) (Or.inl ⟨by rfl, ?_⟩) hHeld ?_ ?_
                        rotate_left
                        · rintro w' ⟨s0, s1, s2, s3, s4, s5, s6, s7⟩
                          go_simp
                          with_reducible rfl
                        rotate_left
                        · simp only [Act.put, q1, q2, q3, i64_w, i32_w]
                          rfl
                        refine pure_ (i := 7) (N := some 43) (v := ?_) (a' := ?_) #[T, T, T, T, T, T, T, T, F, T, F, T, F, F, F, F, F] rfl rfl (any_of HT_.out (by kernel_rfl)) (fun _ _ _ h => h) (Or.inl ⟨by rfl, ?_⟩) ?_ ?_
                        rotate_left
                        · intro w'
                          go_simp
                          with_reducible rfl
                        rotate_left
                        · simp only [Act.put, q1, q2, q3, i64_w, i32_w]
                          rfl
                        refine take_ (i := 8) (N := some 44) (v := ?_) (a' := ?_) #[T, T, T, T, T, T, T, T, T, T, F, T, F, F, F, F, F] rfl rfl (take_ofW HT_.out HW_.out (by kernel_rfl)) (fun _ _ _ h => h) (Or.inl ⟨by rfl, ?_⟩) hHeld ?_ ?_
                        rotate_left
                        · rintro w' ⟨s0, s1, s2, s3, s4, s5, s6, s7⟩
                          go_simp
                          with_reducible rfl
                        rotate_left
                        · simp only [Act.put, q1, q2, q3, i64_w, i32_w]
                          rfl
                        refine take_ (i := 10) (N := some 46) (v := ?_) (a' := ?_) #[T, T, T, T, T, T, T, T, T, T, T, T, F, F, F, F, F] rfl rfl (take_ofW HT_.out HW_.out (by kernel_rfl)) (fun _ _ _ h => h) (Or.inl ⟨by rfl, ?_⟩) hHeld ?_ ?_
                        rotate_left
                        · rintro w' ⟨s0, s1, s2, s3, s4, s5, s6, s7⟩
                          go_simp
                          with_reducible rfl
                        rotate_left
                        · simp only [Act.put, q1, q2, q3, i64_w, i32_w]
                          rfl
                        refine pure_ (i := 12) (N := some 48) (v := ?_) (a' := ?_) #[T, T, T, T, T, T, T, T, T, T, T, T, T, F, F, F, F] rfl rfl (any_of HT_.out (by kernel_rfl)) (fun _ _ _ h => h) (Or.inl ⟨by rfl, ?_⟩) ?_ ?_
                        rotate_left
                        · intro w'
                          go_simp
                          with_reducible rfl
                        rotate_left
                        · simp only [Act.put, q1, q2, q3, i64_w, i32_w]
                          rfl
                        refine take_ (i := 13) (N := some 49) (v := ?_) (a' := ?_) #[T, T, T, T, T, T, T, T, T, T, T, T, T, T, F, F, F] rfl rfl (take_ofW HT_.out HW_.out (by kernel_rfl)) (fun _ _ _ h => h) (Or.inl ⟨by rfl, ?_⟩) hHeld ?_ ?_
                        rotate_left
                        · rintro w' ⟨s0, s1, s2, s3, s4, s5, s6, s7⟩
                          go_simp
                          with_reducible rfl
                        rotate_left
                        · simp only [Act.put, q1, q2, q3, i64_w, i32_w]
                          rfl
                        refine one_ (i := 14) (N := some 50) #[T, T, T, T, T, T, T, T, T, T, T, T, T, T, T, F, F] rfl rfl (one_of HT_.out (by kernel_rfl)) (by decide) (fun K hK => ?_)
                        refine goesT_ 39 Tryd.func69 (by kernel_rfl) rfl #[.int .u64 (rd l0_1 x33_2), .int .u64 (rd l1_1 x33_2)] #[] #[.int .u64 (rd l0_1 x33_2), .int .u64 (rd l1_1 x33_2)] (by rfl) rfl rfl (by rfl) (by (try simp only [List.map_toArray, List.map_cons, List.map_nil]); first | done | rfl | (simp only [List.length_drop, List.length_take]; rfl)) (by rfl) ?_
                        with_reducible refine (bitrow_Xor_1.calls (rd l0_1 x33_2) (rd l1_1 x33_2) t153 _ A44.out).mono ?_
                        rintro e w' ⟨rfl, ⟨nd, rfl⟩⟩
                        refine ⟨_, rfl, ?_⟩
                        have p46 : 0 ≤ (x33_2 : Int) := of_decide_eq_true (by first | (with_reducible assumption) | assumption)
                        have q46 : (x33_2 : Int) < ((x151001_2.length : Int) : Int) := of_decide_eq_true (by first | (with_reducible assumption) | assumption)
                        obtain ⟨go46, co46, eo46, gb46, gl46, cl46, HG46⟩ := Kd.R_form HO_151001.out (by omega)
                        (first | cases eo46 | (injection eo46 with ea_ en_ ec_; (first | subst ea_ | (injection ea_ with ea_; subst ea_)); subst ec_; clear en_))
                        have GB46 := Aside0.mk gb46
                        have GG46 := Aside0.mk HG46
                        clear gb46 gl46 HG46
                        obtain ⟨hx46_0, hf46_0⟩ := Kd.R_celln 0 HO_151001.out (x33_2 : Int) p46 q46
                        replace p46 := eq_true p46
                        replace q46 := eq_true q46
                        have HP48 := Kd.R_putn HO_151001.out (x33_2 : Int) t153
                        rw [← Ny154.out] at HP48
                        have HQ48 := Aside0.mk HP48
                        clear HP48
                        refine hK.out _ _ ⟨(blk_cell BK150.out 0).trans rfl, (blk_cell BK150.out 1).trans rfl, (blk_cell BK141.out 0).trans rfl, (blk_cell BK141.out 1).trans rfl, (blk_cell BK142.out 0).trans rfl, (blk_cell BK142.out 1).trans rfl, ((HB.out.cell (World.block_lt_of_cell? w _ hw151_0)).trans hw151_0), ((HB.out.cell (World.block_lt_of_cell? w _ hw152_0)).trans hw152_0)⟩ (fun hHeld => ?_)
                        clear hK K
                        refine norm_ (a' := ?_) ?_ ?_
                        rotate_left
                        · show Act.put _ (some 50) _ = _
                          simp only [Act.put, q1, q2, q3, i64_w, i32_w]
                          rfl
                        refine pure_ (i := 15) (N := some 51) (v := ?_) (a' := ?_) #[T, T, T, T, T, T, T, T, T, T, T, T, T, T, T, T, F] rfl rfl (any_of HT_.out (by kernel_rfl)) (fun _ _ _ h => h) (Or.inl ⟨by rfl, ?_⟩) ?_ ?_
                        rotate_left
                        · intro w'
                          go_simp
                          with_reducible rfl
                        rotate_left
                        · simp only [Act.put, q1, q2, q3, i64_w, i32_w]
                          rfl
                        refine last_ (i := 16) (N := none) #[T, T, T, T, T, T, T, T, T, T, T, T, T, T, T, T, T] rfl rfl (one_of HT_.out (by kernel_rfl)) (by decide) (fun K hK => ?_)
                        refine skip_ (w1 := ?_) (by rfl) rfl ?_ ?_
                        rotate_left
                        · go_simp
                          rfl
                        refine hK.out _ _ ?_
                        clear hK K
                        refine done_ (done_of HT_.out (by kernel_rfl)) ?_
                        try go_wp2
                        go_roundg k2
                        case measure => have := HJ3.out; have := HK2.out; omega
                        case rel => exact ⟨(wrap64 (x33_2 + 1)), (y154), (.slice (some ⟨go46, 0, none⟩) x151001_2.length co46), (by first | rfl | (simp; done) | (simp [*]; done)), H', ⟨by have := HJ3.out; have := HK2.out; omega⟩, ⟨by (with_reducible repeat (first | apply Kd.R_alloc | apply Kd.R_drewN | apply Kd.R_drew)); exact HQ48.out⟩, ⟨by (with_reducible repeat (first | refine blk_drewN ?_ _ | refine blk_drew ?_ | refine blk_alloc ?_ _)); refine blk_far ?_ (by have h_ := Kd.R_ne HO_151001.out BK141.out (by decide); intro e_; exact h_ (by rw [e_]; rfl)) _; (with_reducible repeat (first | refine blk_drewN ?_ _ | refine blk_drew ?_ | refine blk_alloc ?_ _)); exact BK141.out⟩, ⟨by (with_reducible repeat (first | refine blk_drewN ?_ _ | refine blk_drew ?_ | refine blk_alloc ?_ _)); refine blk_far ?_ (by have h_ := Kd.R_ne HO_151001.out BK142.out (by decide); intro e_; exact h_ (by rw [e_]; rfl)) _; (with_reducible repeat (first | refine blk_drewN ?_ _ | refine blk_drew ?_ | refine blk_alloc ?_ _)); exact BK142.out⟩, ⟨by (with_reducible repeat (first | refine blk_drewN ?_ _ | refine blk_drew ?_ | refine blk_alloc ?_ _)); refine blk_far ?_ (by have h_ := Kd.R_ne HO_151001.out BK143.out (by decide); intro e_; exact h_ (by rw [e_]; rfl)) _; (with_reducible repeat (first | refine blk_drewN ?_ _ | refine blk_drew ?_ | refine blk_alloc ?_ _)); exact BK143.out⟩, ⟨by (with_reducible repeat (first | refine blk_drewN ?_ _ | refine blk_drew ?_ | refine blk_alloc ?_ _)); refine blk_far ?_ (by have h_ := Kd.R_ne HO_151001.out BK150.out (by decide); intro e_; exact h_ (by rw [e_]; rfl)) _; (with_reducible repeat (first | refine blk_drewN ?_ _ | refine blk_drew ?_ | refine blk_alloc ?_ _)); exact BK150.out⟩, ⟨by repeat (first | (with_reducible first | exact HB.out | apply below_alloc | apply pw_below_drewN | apply below_drew1 | refine below_set ?_ GB46.out | refine below_set ?_ GE141.out | refine below_set ?_ GE142.out | refine below_set ?_ GE143.out | refine below_set ?_ GE150.out) | exact HB.out)⟩⟩
                      · rw [if_neg c45] at H
                        exact absurd H (by simp)
                    · rw [if_neg c43] at H
                      exact absurd H (by simp)
                  · rw [if_neg c42] at H
                    exact absurd H (by simp)
                · rw [if_neg c41] at H
                  exact absurd H (by simp)
              · rw [if_neg c40] at H
                have c40b0 : decide (x33_2 < (t147.length : Int)) = false := decide_eq_false c40
                clear c40
                simp only [Option.some.injEq, Prod.mk.injEq] at H
                obtain ⟨rfl, rfl, rfl⟩ := H
                have hnb49 := NB150_141.out
                have hnc49 := NB141_150.out
                have hnb50 := NB150_142.out
                have hnc50 := NB142_150.out
                have hnb51 := NB150_143.out
                have hnc51 := NB143_150.out
                have hcz52_0 : wr.cell? ⟨gb150, 0, none⟩ = some (.int .i64 t146) := (blk_cell BK150.out 0).trans rfl
                have hcz52_1 : wr.cell? ⟨gb150, 1, none⟩ = some (u151001) := (blk_cell BK150.out 1).trans rfl
                have hfz52_0 := blk_frozen BK150.out 0
                have hfz52_1 := blk_frozen BK150.out 1
                have hnb53 := NB143_141.out
                have hnc53 := NB141_143.out
                have hnb54 := NB143_142.out
                have hnc54 := NB142_143.out
                have hcz55_0 : wr.cell? ⟨gb143, 0, none⟩ = some (.int .i64 0) := (blk_cell BK143.out 0).trans rfl
                have hcz55_1 : wr.cell? ⟨gb143, 1, none⟩ = some (.slice none 0 0) := (blk_cell BK143.out 1).trans rfl
                have hfz55_0 := blk_frozen BK143.out 0
                have hfz55_1 := blk_frozen BK143.out 1
                obtain ⟨Ao56, co56, eo56⟩ := Kd.R_slice HO_151001.out
                subst eo56
                go_wp2
                refine bodyPost_ret (results_ct rfl _ _ gb143 25 #[.int .i64 t146, .slice Ao56 x151001_2.length co56] (0, 0) _ rfl (by (with_reducible repeat (first | refine blk_drewN ?_ _ | refine blk_drew ?_ | refine blk_alloc ?_ _)); refine blk_put (cs := #[.int .i64 t146, .slice none 0 0]) ?_ 1 _ rfl; (with_reducible repeat (first | refine blk_drewN ?_ _ | refine blk_drew ?_ | refine blk_alloc ?_ _)); refine blk_put (cs := #[.int .i64 0, .slice none 0 0]) ?_ 0 _ rfl; (with_reducible repeat (first | refine blk_drewN ?_ _ | refine blk_drew ?_ | refine blk_alloc ?_ _)); exact BK143.out) Tryd.underlying25 rfl (by kernel_rfl)) rfl ?_
                exact ⟨_, by first | rfl | (simp [errW_none, errW_some] <;> rfl) | (simp [*, errW_none, errW_some] <;> rfl), by (with_reducible repeat (first | apply Kd.R_alloc | apply Kd.R_drewN | apply Kd.R_drew)); exact Kd.R_mono (Kd.R_far (p := ⟨gb143, 1, none⟩) (Kd.R_far (p := ⟨gb143, 0, none⟩) (Kd.R_types HO_151001.out BK143.out (by decide)) (fun _ hk => hk.2) (.int .i64 t146)) (fun _ hk => hk.2) (.slice Ao56 x151001_2.length co56)) (fun _ hk => trivial), pb HB⟩
        · rw [if_neg c26] at H
          have c26b0 : (a0_0 == a1_0) = false := beq_eq_false_iff_ne.mpr c26
          have c26b1 : (a0_0 != a1_0) = true := bne_iff_ne.mpr c26
          simp only [Option.some.injEq, Prod.mk.injEq] at H
          obtain ⟨rfl, rfl, rfl⟩ := H
          have hnb57 := NB141_142.out
          have hnc57 := NB142_141.out
          have hnb58 := NB141_143.out
          have hnc58 := NB143_141.out
          have hcz59_0 : wc.cell? ⟨gb141, 0, none⟩ = some (.int .i64 a0_0) := (blk_cell BK141.out 0).trans rfl
          have hcz59_1 : wc.cell? ⟨gb141, 1, none⟩ = some (.slice A0_1 l0_1.length c0_1) := (blk_cell BK141.out 1).trans rfl
          have hfz59_0 := blk_frozen BK141.out 0
          have hfz59_1 := blk_frozen BK141.out 1
          have hnb60 := NB142_143.out
          have hnc60 := NB143_142.out
          have hcz61_0 : wc.cell? ⟨gb142, 0, none⟩ = some (.int .i64 a1_0) := (blk_cell BK142.out 0).trans rfl
          have hcz61_1 : wc.cell? ⟨gb142, 1, none⟩ = some (.slice A1_1 l1_1.length c1_1) := (blk_cell BK142.out 1).trans rfl
          have hfz61_0 := blk_frozen BK142.out 0
          have hfz61_1 := blk_frozen BK142.out 1
          have hcz62_0 : wc.cell? ⟨gb143, 0, none⟩ = some (.int .i64 0) := (blk_cell BK143.out 0).trans rfl
          have hcz62_1 : wc.cell? ⟨gb143, 1, none⟩ = some (.slice none 0 0) := (blk_cell BK143.out 1).trans rfl
          have hfz62_0 := blk_frozen BK143.out 0
          have hfz62_1 := blk_frozen BK143.out 1
          go_wp2
          refine bodyPost_ret (results_ct rfl _ _ gb143 25 #[.int .i64 0, .slice none 0 0] (0, 0) _ rfl (by (with_reducible repeat (first | refine blk_drewN ?_ _ | refine blk_drew ?_ | refine blk_alloc ?_ _)); refine blk_put (cs := #[.int .i64 0, .slice none 0 0]) ?_ 1 _ rfl; (with_reducible repeat (first | refine blk_drewN ?_ _ | refine blk_drew ?_ | refine blk_alloc ?_ _)); refine blk_put (cs := #[.int .i64 0, .slice none 0 0]) ?_ 0 _ rfl; (with_reducible repeat (first | refine blk_drewN ?_ _ | refine blk_drew ?_ | refine blk_alloc ?_ _)); exact BK143.out) Tryd.underlying25 rfl (by kernel_rfl)) rfl ?_
          exact ⟨_, by first | rfl | (simp [errW_none, errW_some] <;> rfl) | (simp [*, errW_none, errW_some] <;> rfl), by first | exact Kd.R_nil _ _ _ _ _ | exact Kd.N_nil _ _ _ _ _ | exact Kd.V_nil _ _ _ _ _ | exact Kd.Q_nil _ _ _ _ _ | exact Kd.S_nil _ _ _ _ _, pb HB⟩

/-! ### bitrow_Xor: function 28 -/
def bitrow_Xor.f (k : Nat) (a0_0 : Int) (l0_1 : List Int) (a1_0 : Int) (l1_1 : List Int) : Option (Int × List Int × Int) := (bitrow_joined_69.f k a0_0 l0_1 a1_0 l1_1).bind fun bt158 => (some (bt158.1, bt158.2.1, bt158.2.2))
theorem bitrow_Xor.mono : ∀ a0 a1 a2 a3 k, LeO (bitrow_Xor.f k a0 a1 a2 a3) (bitrow_Xor.f (k + 1) a0 a1 a2 a3) := by
  intro a0 a1 a2 a3 k
  unfold bitrow_Xor.f
  repeat' first
      | (with_reducible exact bitrow_joined_69.mono _ _ _ _ _)
      | (with_reducible exact LeO.refl _)
      | (with_reducible exact LeO.none _)
      | (with_reducible refine LeO.ite ?_ ?_)
      | (with_reducible refine LeO.bind ?_ (fun _ => ?_))
      | exact bitrow_joined_69.mono _ _ _ _ _
      | exact LeO.none _
      | refine LeO.ite ?_ ?_
      | refine LeO.bind ?_ (fun _ => ?_)
set_option maxHeartbeats 8000000 in
set_option maxRecDepth 100000 in
theorem bitrow_Xor.calls (k : Nat) (a0_0 : Int) (A0_1 : Option Addr) (c0_1 : Nat) (l0_1 : List Int) (a1_0 : Int) (A1_1 : Option Addr) (c1_1 : Nat) (l1_1 : List Int) (r1 : Int) (r2 : List Int) (r3 : Int) (w : World) (hr0_1 : Kd.C (Kd.int .u64) w A0_1 l0_1.length l0_1) (hc0_1 : l0_1.length ≤ c0_1) (hr1_1 : Kd.C (Kd.int .u64) w A1_1 l1_1.length l1_1) (hc1_1 : l1_1.length ≤ c1_1) (h : bitrow_Xor.f k a0_0 l0_1 a1_0 l1_1 = some (r1, r2, r3)) :
    Calls Tryd.prog 28 #[.agg #[.int .i64 a0_0, .slice A0_1 l0_1.length c0_1], .agg #[.int .i64 a1_0, .slice A1_1 l1_1.length c1_1]] w fun e w' => ∃ v1_ : Value, e = .returned (.tuple #[.agg #[.int .i64 r1, v1_], .int .i64 r3]) ∧ Kd.R (Kd.int .u64) 90 w' w.heap.size (fun _ => True) v1_ r2 ∧ Below w.heap.size w w' := by
  have hu25 := Tryd.underlying25
  have HR0_1 := Aside0.mk hr0_1
  have HC0_1 := Aside0.mk hc0_1
  clear hr0_1 hc0_1
  have HR1_1 := Aside0.mk hr1_1
  have HC1_1 := Aside0.mk hc1_1
  clear hr1_1 hc1_1
  have HB := am (Below.refl w.heap.size w)
  have H : ((bitrow_joined_69.f k a0_0 l0_1 a1_0 l1_1).bind fun bt158 => (some (bt158.1, bt158.2.1, bt158.2.2))) = some (r1, r2, r3) := h
  clear h
  replace H := Option.bind_eq_some_iff.mp H
  obtain ⟨⟨t158, t159, t162⟩, A30, H⟩ := H
  replace H : (some (t158, t159, t162)) = some (r1, r2, r3) := H
  have A3 := Aside0.mk A30
  clear A30
  simp only [Option.some.injEq, Prod.mk.injEq] at H
  obtain ⟨rfl, rfl, rfl⟩ := H
  go_enter Tryd.func28, Tryd.ntmps28
  go_wp2_with (first | ((with_reducible refine gate_dst (N := 2) rfl ?_); refine box_event ?hg (N := 2) ?hd (cs := #[.int .i64 a0_0, .slice A0_1 l0_1.length c0_1]) (t := 25) ?hr ?_; (case hd => rfl); (case hg => rfl); (case hr => first | (go_simp; done) | (go_simp; rfl)); intro gb155 hg w4 hbox hb; have n0_ := am (below_step (pb HB) hb); have n1_ := am (hbox); have n2_ := am ((by rw [hg]; exact (below_size (pb HB)) : w.heap.size ≤ gb155)); have n3_ := am ((by rw [hg]; exact (below_size (pb HB)) : w.heap.size ≤ gb155)); clear HB; have HB := n0_; have BK155 := n1_; have GW155 := n2_; have GE155 := n3_; clear n0_ n1_ n2_ n3_ hb hbox hg) | ((with_reducible refine gate_dst (N := 3) rfl ?_); refine box_event ?hg (N := 3) ?hd (cs := #[.int .i64 a1_0, .slice A1_1 l1_1.length c1_1]) (t := 25) ?hr ?_; (case hd => rfl); (case hg => rfl); (case hr => first | (go_simp; done) | (go_simp; rfl)); intro gb156 hg w5 hbox hb; have n0_ := bb BK155 hb; have n1_ := am (below_step (pb HB) hb); have n2_ := am (hbox); have n3_ := am ((by rw [hg]; exact (below_size (pb HB)) : w.heap.size ≤ gb156)); have n4_ := am ((by rw [hg]; exact (below_size (pb HB)) : w.heap.size ≤ gb156)); have n5_ := am ((by rw [hg]; exact Nat.ne_of_lt (bl BK155) : gb155 ≠ gb156)); have n6_ := am ((by rw [hg]; exact Nat.ne_of_gt (bl BK155) : gb156 ≠ gb155)); clear BK155 HB; have BK155 := n0_; have HB := n1_; have BK156 := n2_; have GW156 := n3_; have GE156 := n4_; have NB155_156 := n5_; have NB156_155 := n6_; clear n0_ n1_ n2_ n3_ n4_ n5_ n6_ hb hbox hg) | ((with_reducible refine gate_dst (N := 4) rfl ?_); refine box_event ?hg (N := 4) ?hd (cs := #[.int .i64 0, .slice none 0 0]) (t := 25) ?hr ?_; (case hd => rfl); (case hg => rfl); (case hr => first | (go_simp; done) | (go_simp; rfl)); intro gb157 hg w6 hbox hb; have n0_ := bb BK155 hb; have n1_ := bb BK156 hb; have n2_ := am (below_step (pb HB) hb); have n3_ := am (hbox); have n4_ := am ((by rw [hg]; exact (below_size (pb HB)) : w.heap.size ≤ gb157)); have n5_ := am ((by rw [hg]; exact (below_size (pb HB)) : w.heap.size ≤ gb157)); have n6_ := am ((by rw [hg]; exact Nat.ne_of_lt (bl BK155) : gb155 ≠ gb157)); have n7_ := am ((by rw [hg]; exact Nat.ne_of_gt (bl BK155) : gb157 ≠ gb155)); have n8_ := am ((by rw [hg]; exact Nat.ne_of_lt (bl BK156) : gb156 ≠ gb157)); have n9_ := am ((by rw [hg]; exact Nat.ne_of_gt (bl BK156) : gb157 ≠ gb156)); clear BK155 BK156 HB; have BK155 := n0_; have BK156 := n1_; have HB := n2_; have BK157 := n3_; have GW157 := n4_; have GE157 := n5_; have NB155_157 := n6_; have NB157_155 := n7_; have NB156_157 := n8_; have NB157_156 := n9_; clear n0_ n1_ n2_ n3_ n4_ n5_ n6_ n7_ n8_ n9_ hb hbox hg; have hnb7 := NB155_156.out; have hnc7 := NB156_155.out; have hnb8 := NB155_157.out; have hnc8 := NB157_155.out; have hcz9_0 : w6.cell? ⟨gb155, 0, none⟩ = some (.int .i64 a0_0) := (blk_cell BK155.out 0).trans rfl; have hcz9_1 : w6.cell? ⟨gb155, 1, none⟩ = some (.slice A0_1 l0_1.length c0_1) := (blk_cell BK155.out 1).trans rfl; have hfz9_0 := blk_frozen BK155.out 0; have hfz9_1 := blk_frozen BK155.out 1; have hnb10 := NB156_157.out; have hnc10 := NB157_156.out; have hcz11_0 : w6.cell? ⟨gb156, 0, none⟩ = some (.int .i64 a1_0) := (blk_cell BK156.out 0).trans rfl; have hcz11_1 : w6.cell? ⟨gb156, 1, none⟩ = some (.slice A1_1 l1_1.length c1_1) := (blk_cell BK156.out 1).trans rfl; have hfz11_0 := blk_frozen BK156.out 0; have hfz11_1 := blk_frozen BK156.out 1) | ((with_reducible refine gate_callee (f := 68) rfl ?_); refine goesL_ (some 8) rfl rfl Tryd.func68 (by kernel_rfl) rfl #[.agg #[.int .i64 a0_0, .slice A0_1 l0_1.length c0_1], .agg #[.int .i64 a1_0, .slice A1_1 l1_1.length c1_1], (.func (.func 69) #[] #[])] rfl (by (try simp only [List.map_toArray, List.map_cons, List.map_nil]); first | done | rfl | (simp only [List.length_drop, List.length_take]; rfl)) ?_; (with_reducible refine (bitrow_joined_69.calls k a0_0 _ _ l0_1 a1_0 _ _ l1_1  t158 t159 t162 _ ?side1 ?side2 ?side3 ?side4 A3.out).mono ?_); (case side1 => repeat (first | exact (Kd.C_below HR0_1.out HB.out) | (with_reducible refine Kd.C_alloc ?_ _) | (with_reducible refine Kd.C_drewN ?_ _) | (with_reducible refine Kd.C_drew ?_))); (case side2 => exact HC0_1.out); (case side3 => repeat (first | exact (Kd.C_below HR1_1.out HB.out) | (with_reducible refine Kd.C_alloc ?_ _) | (with_reducible refine Kd.C_drewN ?_ _) | (with_reducible refine Kd.C_drew ?_))); (case side4 => exact HC1_1.out); rintro e w12 ⟨v160, rfl, ho0, hb⟩; refine ⟨_, rfl, ?_⟩; have n0_ := am (Kd.R_lower ho0 (below_size (pb HB))); have n1_ := bb BK155 hb; have n2_ := bb BK156 hb; have n3_ := bb BK157 hb; have n4_ := am (below_step (pb HB) hb); clear BK155 BK156 BK157 HB; have HO161 := n0_; have BK155 := n1_; have BK156 := n2_; have BK157 := n3_; have HB := n4_; clear n0_ n1_ n2_ n3_ n4_; (try clear hb); (try clear hb2); (try clear hk); (try clear hi); (try clear ho0); have hcz13_0 : w12.cell? ⟨gb157, 0, none⟩ = some (.int .i64 0) := (blk_cell BK157.out 0).trans rfl; have hcz13_1 : w12.cell? ⟨gb157, 1, none⟩ = some (.slice none 0 0) := (blk_cell BK157.out 1).trans rfl; have hfz13_0 := blk_frozen BK157.out 0; have hfz13_1 := blk_frozen BK157.out 1; obtain ⟨Ao14, co14, eo14⟩ := Kd.R_slice HO161.out; subst eo14))
  refine bodyPost_ret (results_ct rfl _ _ gb157 25 #[.int .i64 t158, .slice Ao14 t159.length co14] (0, 0) _ rfl (by (with_reducible repeat (first | refine blk_drewN ?_ _ | refine blk_drew ?_ | refine blk_alloc ?_ _)); refine blk_put (cs := #[.int .i64 t158, .slice none 0 0]) ?_ 1 _ rfl; (with_reducible repeat (first | refine blk_drewN ?_ _ | refine blk_drew ?_ | refine blk_alloc ?_ _)); refine blk_put (cs := #[.int .i64 0, .slice none 0 0]) ?_ 0 _ rfl; (with_reducible repeat (first | refine blk_drewN ?_ _ | refine blk_drew ?_ | refine blk_alloc ?_ _)); exact BK157.out) Tryd.underlying25 rfl (by kernel_rfl)) rfl ?_
  exact ⟨_, by first | rfl | (simp [errW_none, errW_some] <;> rfl) | (simp [*, errW_none, errW_some] <;> rfl), by (with_reducible repeat (first | apply Kd.R_alloc | apply Kd.R_drewN | apply Kd.R_drew)); exact Kd.R_mono (Kd.R_far (p := ⟨gb157, 1, none⟩) (Kd.R_far (p := ⟨gb157, 0, none⟩) (Kd.R_types HO161.out BK157.out (by decide)) (fun _ hk => hk.2) (.int .i64 t158)) (fun _ hk => hk.2) (.slice Ao14 t159.length co14)) (fun _ hk => trivial), pb HB⟩

/-! ### block_Xor: function 33 -/
def block_Xor.f (k : Nat) (a0 a1 : ByteArray) : Option (ByteArray × Int) := (block_may.f k (a0.size : Int) ([a0, a1] : List ByteArray)).bind fun t => if t = 0 then (if a0.size ≤ 281474976710656 then (block_into.f k (textNums a0) a1).bind fun y => some (strOfNums y, 0) else none) else some ((⟨#[]⟩ : ByteArray), t)
theorem block_Xor.mono : ∀ a0 a1 k, LeO (block_Xor.f k a0 a1) (block_Xor.f (k + 1) a0 a1) := by
 intro a0 a1 k
 unfold block_Xor.f
 repeat' first
   | (with_reducible exact block_may.mono _ _ _)
   | (with_reducible exact block_into.mono _ _ _)
   | (with_reducible exact LeO.refl _)
   | (with_reducible exact LeO.none _)
   | (with_reducible refine LeO.ite ?_ ?_)
   | (with_reducible refine LeO.bind ?_ (fun _ => ?_))
set_option maxHeartbeats 8000000 in
set_option maxRecDepth 100000 in
theorem block_Xor.calls (k : Nat) (a0 : ByteArray) (a1 : ByteArray) (r1 : ByteArray) (r2 : Int) (w : World) (h : block_Xor.f k a0 a1 = some (r1, r2)) :
  Calls Tryd.prog 33 #[.string a0, .string a1] w fun e w' => e = .returned (.tuple #[.string r1, .int .i64 r2]) ∧ Below w.heap.size w w' := by
 have HB := am (Below.refl w.heap.size w)
 unfold block_Xor.f at h
 obtain ⟨y132, hy132⟩ : ∃ y_ : List ByteArray, y_ = ([a0, a1] : List ByteArray) := ⟨_, rfl⟩
 have Ny132 := Aside0.mk hy132
 rw [← hy132] at h
 clear hy132
 obtain ⟨t1, A10, H⟩ := Option.bind_eq_some_iff.mp h
 clear h
 have A1 := Aside0.mk A10
 clear A10
 by_cases c4 : t1 = 0
 ·
  rw [if_pos c4] at H
  have c4b0 : (t1 == 0) = true := beq_iff_eq.mpr c4
  have c4b1 : (t1 != 0) = false := bne_eq_false_iff_eq.mpr c4
  clear c4
  by_cases c6 : a0.size ≤ 281474976710656
  ·
   rw [if_pos c6] at H
   obtain ⟨y2, A20, H⟩ := Option.bind_eq_some_iff.mp H
   have A2 := Aside0.mk A20
   clear A20
   have H2 := Prod.mk.inj (Option.some.inj H)
   clear H
   obtain ⟨rfl, rfl⟩ := H2
   have c7 := Aside0.mk c6
   clear c6
   have c8 := am (Int.natCast_nonneg a0.size)
   obtain ⟨y127, hy127⟩ : ∃ y_ : List Int, y_ = List.replicate (a0.size : Int).toNat (0 : Int) := ⟨_, rfl⟩
   have c9 : Aside0 (a0.size = y127.length) := ⟨by rw [hy127, List.length_replicate, Int.toNat_natCast]⟩
   have Ny127 := Aside0.mk hy127
   clear hy127
   go_enter Tryd.func33, Tryd.ntmps33
   go_wp2_with (first | ((with_reducible refine gate_dst (N := 12) rfl ?_); refine Kd.R_lit Kd.string _ 9 ?hg (N := 12) ?hd (xs := ([a0, a1] : List ByteArray)) (inner := [.string a0, .string a1]) (ok := fun _ => True) (okp := fun _ => True) ?hr ?hp (fun _ hk => hk) trivial (Below.refl _ _) (Nat.le_refl _) (by simp) ?_; (case hd => rfl); (case hg => rfl); (case hr => first | (go_simp; done) | (go_simp; rfl)); (case hp => exact (Reps.one (show Kd.M Kd.string _ _ _ a0 [.string a0] from rfl) (Reps.one (show Kd.M Kd.string _ _ _ a1 [.string a1] from rfl) (Reps.none _ _)))); intro v133 w3 ho4 hb hg_ hnew_; clear hg_ hnew_; rw [← Ny132.out] at ho4; have n0_ := am (Kd.R_lower ho4 (below_size (pb HB))); have n1_ := am (below_step (pb HB) hb); clear HB; have HO134 := n0_; have HB := n1_; clear n0_ n1_ hb ho4; obtain ⟨Ao5, co5, eo5⟩ := Kd.R_slice HO134.out; subst eo5) | ((with_reducible refine gate_callee (f := 60) rfl ?_); refine goesL_ (some 13) rfl rfl Tryd.func60 (by kernel_rfl) rfl #[.int .i64 (a0.size : Int), .slice Ao5 y132.length co5] rfl (by (try simp only [List.map_toArray, List.map_cons, List.map_nil]); first | done | rfl) ?_; (with_reducible refine (block_may.calls k (a0.size : Int) _ _ y132 t1 _ ?side1 ?side2 A1.out).mono ?_); (case side1 => exact (Kd.R_reads' HO134.out).2.2); (case side2 => exact (Kd.R_reads' HO134.out).2.1); rintro e w6 ⟨rfl, ⟨nd, rfl⟩⟩; refine ⟨_, rfl, ?_⟩) | ((with_reducible refine gate_dst (N := 19) rfl ?_); refine Kd.R_make (Kd.int .u8) _ 5 rfl (N := 19) rfl 83 _ _ rfl (a0.size : Int) rfl rfl Tryd.underlying83 (.int .u8 0) 1 info5 rfl (by decide) (by omega) 0 (ok := fun _ => True) (okp := fun _ => True) rfl (fun _ hk => hk) trivial c8.out (by have h_ := c7.out; omega) (Below.refl _ _) (Nat.le_refl _) ?_; intro v128 w7 ho8 hb hg_ hnew_; clear hg_ hnew_; rw [← Ny127.out] at ho8; have n0_ := am (Kd.R_lower ho8 (below_size (pb HB))); have n1_ := am (below_step (pb HB) hb); clear HB; have HO129 := n0_; have HB := n1_; clear n0_ n1_ hb ho8; obtain ⟨Ao9, co9, eo9⟩ := Kd.R_slice HO129.out; subst eo9) | ((with_reducible refine gate_dst (N := 22) rfl ?_); refine copy_event _ 5 rfl (N := 22) rfl (.tmp 20) (.tmp 21) 83 9 rfl Tryd.underlying83 ?hz rfl rfl HO129.out c9.out HB.out ?_; (case hz => rfl); intro w10 ho10 hb10; clear HO129 HB; have HO129 := Aside0.mk ho10; have HB := Aside0.mk hb10; clear ho10 hb10) | ((with_reducible refine gate_callee (f := 61) rfl ?_); refine goesL_ (some 25) rfl rfl Tryd.func61 (by kernel_rfl) rfl #[.slice Ao9 y127.length co9, .string a1] rfl (by (try simp only [List.map_toArray, List.map_cons, List.map_nil]); first | done | rfl) ?_; (with_reducible refine (block_into.calls k (fun k_ => some k_ = (.slice Ao9 y127.length co9 : Value).ownBlock) (.slice Ao9 y127.length co9) (textNums a0) a1 y2 w _ ?side1 ?side2 A2.out).mono ?_); (case side1 => exact HB.out); (case side2 => exact Kd.R_tight rfl HO129.out); rintro e w14 ⟨rfl, hy0, hb, hkp⟩; refine ⟨_, rfl, ?_⟩; have n0_ := am (Kd.R_reok rfl hy0 (fun k_ e_ => HO129.out.1 k_ e_)); have n1_ := am (hb); clear HO129 HB; have HO129 := n0_; have HB := n1_; clear n0_ n1_; (try clear hb); (try clear hkp); (try clear hy0); have hcv15 := own_string (P := Tryd.prog) Tryd.underlying83 Tryd.underlying5 Tryd.underlying9 (Kd.own_of_R HO129.out)))
   go_ret2
   exact ⟨by first | rfl | (simp [errW_none, errW_some] <;> rfl) | (simp [*, errW_none, errW_some] <;> rfl), pb HB⟩
  ·
   rw [if_neg c6] at H
   exact absurd H (by simp)
 ·
  rw [if_neg c4] at H
  have c4b0 : (t1 == 0) = false := beq_eq_false_iff_ne.mpr c4
  have c4b1 : (t1 != 0) = true := bne_iff_ne.mpr c4
  have H2 := Prod.mk.inj (Option.some.inj H)
  clear H
  obtain ⟨rfl, rfl⟩ := H2
  go_enter Tryd.func33, Tryd.ntmps33
  go_wp2_with (first | ((with_reducible refine gate_dst (N := 12) rfl ?_); refine Kd.R_lit Kd.string _ 9 ?hg (N := 12) ?hd (xs := ([a0, a1] : List ByteArray)) (inner := [.string a0, .string a1]) (ok := fun _ => True) (okp := fun _ => True) ?hr ?hp (fun _ hk => hk) trivial (Below.refl _ _) (Nat.le_refl _) (by simp) ?_; (case hd => rfl); (case hg => rfl); (case hr => first | (go_simp; done) | (go_simp; rfl)); (case hp => exact (Reps.one (show Kd.M Kd.string _ _ _ a0 [.string a0] from rfl) (Reps.one (show Kd.M Kd.string _ _ _ a1 [.string a1] from rfl) (Reps.none _ _)))); intro v133 w3 ho4 hb hg_ hnew_; clear hg_ hnew_; rw [← Ny132.out] at ho4; have n0_ := am (Kd.R_lower ho4 (below_size (pb HB))); have n1_ := am (below_step (pb HB) hb); clear HB; have HO134 := n0_; have HB := n1_; clear n0_ n1_ hb ho4; obtain ⟨Ao5, co5, eo5⟩ := Kd.R_slice HO134.out; subst eo5) | ((with_reducible refine gate_callee (f := 60) rfl ?_); refine goesL_ (some 13) rfl rfl Tryd.func60 (by kernel_rfl) rfl #[.int .i64 (a0.size : Int), .slice Ao5 y132.length co5] rfl (by (try simp only [List.map_toArray, List.map_cons, List.map_nil]); first | done | rfl) ?_; (with_reducible refine (block_may.calls k (a0.size : Int) _ _ y132 t1 _ ?side1 ?side2 A1.out).mono ?_); (case side1 => exact (Kd.R_reads' HO134.out).2.2); (case side2 => exact (Kd.R_reads' HO134.out).2.1); rintro e w6 ⟨rfl, ⟨nd, rfl⟩⟩; refine ⟨_, rfl, ?_⟩))
  go_ret2
  exact ⟨by first | rfl | (simp [errW_none, errW_some] <;> rfl) | (simp [*, errW_none, errW_some] <;> rfl), pb HB⟩

end Go.Proofs.YtfcedhejbnoinaaDoor.PE
